/- The walk of LetterQuotes. -/
import Derived.Test.YtocjidlbjmghdaaDoorAwake
import Derived.Test.YtocjidlbjmghdaaDoorUnquote
import Derived.Test.YtocjidlbjmghdaaDoorRefUnquote
namespace Go.Proofs.YtocjidlbjmghdaaDoor
open Go.RowKit Go.Cw

set_option maxHeartbeats 2000000 in
theorem runquote_short (w : World) (s : ByteArray) (h2 : s.size < 2) :
    Calls Tryd.prog 31 #[.string s] w fun e w' => e = .returned (.tuple #[.string ⟨#[]⟩, .bool false]) ∧ w' = w := by
  have hd : decide ((s.size : Int) < 2) = true := decide_eq_true (by omega)
  go_enter Tryd.func31, Tryd.ntmps31
  go_wp2
  go_ret2
  exact ⟨rfl, rfl⟩

/-- what both give, held together -/
theorem quotes_pair (s : ByteArray) : (∃ t, unquoteP s = some t ∧ ∀ w, s.size ≤ 20000 → Calls Tryd.prog 31 #[.string s] w fun e w' => e = .returned (.tuple #[.string ⟨t.toArray⟩, .bool true]) ∧ Ext none_ w w') ∨
    (unquoteP s = none ∧ ∀ w, s.size ≤ 20000 → Calls Tryd.prog 31 #[.string s] w fun e w' => (∃ t, e = .returned (.tuple #[.string t, .bool false])) ∧ Ext none_ w w') := by
  by_cases h2 : s.size < 2
  · exact .inr ⟨by unfold unquoteP; rw [if_pos (.inl h2)], fun w _ => (runquote_short w s h2).mono fun e w' ⟨h, e⟩ => ⟨⟨_, h⟩, e ▸ Ext.refl _ _⟩⟩
  · obtain ⟨hs, ht⟩ := unquote_law s
    cases hu : unquoteP s with
    | none =>
      rw [hu] at hs
      refine .inr ⟨rfl, fun w hw => (runquote_any w s hw (by omega)).mono ?_⟩
      rintro e w' ⟨rfl, hx⟩
      rw [← hs]
      exact ⟨⟨_, rfl⟩, hx⟩
    | some t =>
      rw [hu] at hs
      refine .inl ⟨t, rfl, fun w hw => (runquote_any w s hw (by omega)).mono ?_⟩
      rintro e w' ⟨rfl, hx⟩
      rw [← hs, ← ht t hu]
      exact ⟨rfl, hx⟩

set_option maxHeartbeats 4000000 in
set_option maxRecDepth 100000 in
theorem quotes_all (w : World) (hT : Lib.Utf8Tabs 1 2 w) (s : ByteArray) :
    Calls Tryd.prog 7 #[.string s] w fun e w' => e = .returned (.bool true) ∧ Ext none_ w w' := by
  have hpair := quotes_pair s
  go_enter Tryd.func7, Tryd.ntmps7
  go_wp2_with fail
  refine (awake_any w hT).mono ?_
  rintro e w1 ⟨rfl, hx1⟩
  have hT1 := Tabs.ext0 hT hx1
  by_cases h1 : 2000 < s.size
  · have hd : decide (2000 < (s.size : Int)) = true := by simp; omega
    clear hpair
    go_wp2_with fail
    refine (awake_any w1 hT1).mono ?_
    rintro e w2 ⟨rfl, hx2⟩
    go_wp2
    go_ret
    exact ⟨rfl, hx1.grow hx2⟩
  · have hd : decide (2000 < (s.size : Int)) = false := by simp; omega
    have hs : s.size ≤ 20000 := by omega
    clear hT hT1
    have Hpair := Lib.hid hpair
    clear hpair
    go_wp2_with fail
    refine (unquote_any w1 s hs).mono ?_
    rintro e w2 ⟨rfl, hx2⟩
    rcases Hpair.out with ⟨t, hu, hc⟩ | ⟨hu, hc⟩
    · rw [hu]
      unfold unqV
      have hc2 := hc w2 hs
      clear hc hu Hpair
      go_wp2_with fail
      refine hc2.mono ?_
      rintro e w3 ⟨rfl, hx3⟩
      clear hc2
      go_wp2_with fail
      refine (quote_any w3 s (by omega)).mono ?_
      rintro e w4 ⟨rfl, hx4⟩
      go_wp2_with fail
      refine (rquote_any w4 s (by omega)).mono ?_
      rintro e w5 ⟨rfl, hx5⟩
      go_wp2
      go_ret
      exact ⟨rfl, (((hx1.grow hx2).grow hx3).grow hx4).grow hx5⟩
    · rw [hu]
      unfold unqV
      have hc2 := hc w2 hs
      clear hc hu Hpair
      go_wp2_with fail
      refine hc2.mono ?_
      rintro e w3 ⟨⟨t, rfl⟩, hx3⟩
      clear hc2
      go_wp2_with fail
      refine (quote_any w3 s (by omega)).mono ?_
      rintro e w4 ⟨rfl, hx4⟩
      go_wp2_with fail
      refine (rquote_any w4 s (by omega)).mono ?_
      rintro e w5 ⟨rfl, hx5⟩
      go_wp2
      go_ret
      exact ⟨rfl, (((hx1.grow hx2).grow hx3).grow hx4).grow hx5⟩

end Go.Proofs.YtocjidlbjmghdaaDoor
