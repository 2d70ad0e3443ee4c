/- The walk of LetterCompares. -/
import Derived.Test.YtocjidlbjmghdaaDoorAwake
import Derived.Test.YtocjidlbjmghdaaDoorCompare
namespace Go.Proofs.YtocjidlbjmghdaaDoor
open Go.RowKit Go.Cw

theorem cmpT_flip (a b : ByteArray) : cmpT b a = - cmpT a b := cmpP_flip _ _
theorem cmpT_refl (a : ByteArray) : cmpT a a = 0 := cmpP_refl _
theorem cmpT_range (a b : ByteArray) : cmpT a b = -1 ∨ cmpT a b = 0 ∨ cmpT a b = 1 := cmpP_range _ _
theorem cmpT_trans (a b c : ByteArray) (h1 : cmpT a b ≤ 0) (h2 : cmpT b c ≤ 0) : cmpT a c ≤ 0 := cmpP_trans _ _ _ h1 h2

set_option maxHeartbeats 4000000 in
set_option maxRecDepth 100000 in
theorem compares_long (w : World) (hT : Lib.Utf8Tabs 1 2 w) (a b c : ByteArray) (h : 1000 < a.size ∨ 1000 < b.size ∨ 1000 < c.size) :
    Calls Tryd.prog 9 #[.string a, .string b, .string c] w fun e w' => e = .returned (.bool true) ∧ Ext none_ w w' := by
  go_enter Tryd.func9, Tryd.ntmps9
  go_wp2_with fail
  refine (awake_any w hT).mono ?_
  rintro e w1 ⟨rfl, hx1⟩
  have hT1 := Tabs.ext0 hT hx1
  by_cases h1 : 1000 < a.size
  · have hd : decide (1000 < (a.size : Int)) = true := by simp; omega
    go_wp2_with fail
    refine (awake_any w1 hT1).mono ?_
    rintro e w2 ⟨rfl, hx2⟩
    go_wp2
    go_ret
    exact ⟨rfl, hx1.grow hx2⟩
  · have hd : decide (1000 < (a.size : Int)) = false := by simp; omega
    by_cases h2 : 1000 < b.size
    · have hd2 : decide (1000 < (b.size : Int)) = true := by simp; omega
      go_wp2_with fail
      refine (awake_any w1 hT1).mono ?_
      rintro e w2 ⟨rfl, hx2⟩
      go_wp2
      go_ret
      exact ⟨rfl, hx1.grow hx2⟩
    · have hd2 : decide (1000 < (b.size : Int)) = false := by simp; omega
      have hd3 : decide (1000 < (c.size : Int)) = true := by simp; omega
      go_wp2_with fail
      refine (awake_any w1 hT1).mono ?_
      rintro e w2 ⟨rfl, hx2⟩
      go_wp2
      go_ret
      exact ⟨rfl, hx1.grow hx2⟩

set_option maxHeartbeats 4000000 in
set_option maxRecDepth 100000 in
theorem compares_any (w : World) (hT : Lib.Utf8Tabs 1 2 w) (a b c : ByteArray) (ha : a.size ≤ 1000) (hb : b.size ≤ 1000) (hc : c.size ≤ 1000) :
    Calls Tryd.prog 9 #[.string a, .string b, .string c] w fun e w' => e = .returned (.bool true) ∧ Ext none_ w w' := by
  have hd : decide (1000 < (a.size : Int)) = false := by simp; omega
  have hd2 : decide (1000 < (b.size : Int)) = false := by simp; omega
  have hd3 : decide (1000 < (c.size : Int)) = false := by simp; omega
  have hr1 := cmpT_range a b
  have hr2 := cmpT_range b c
  have hr3 := cmpT_range a c
  have ht := cmpT_trans a b c
  have hf := cmpT_flip a b
  have he := cmpT_refl a
  go_enter Tryd.func9, Tryd.ntmps9
  go_wp2_with fail
  refine (awake_any w hT).mono ?_
  rintro e w1 ⟨rfl, hx1⟩
  clear hT
  go_wp2_with fail
  refine (compare_any w1 a b (by omega) (by omega)).mono ?_
  rintro e w2 ⟨rfl, hx2⟩
  go_wp2_with fail
  refine (compare_any w2 b c (by omega) (by omega)).mono ?_
  rintro e w3 ⟨rfl, hx3⟩
  go_wp2_with fail
  refine (compare_any w3 a c (by omega) (by omega)).mono ?_
  rintro e w4 ⟨rfl, hx4⟩
  clear hd hd2 hd3
  go_wp2_with fail
  refine (rcompare_any w4 a b (by omega) (by omega)).mono ?_
  rintro e w5 ⟨rfl, hx5⟩
  have hx5' := (((hx1.grow hx2).grow hx3).grow hx4).grow hx5
  clear hx1 hx2 hx3 hx4 hx5
  go_wp2_with fail
  refine (compare_any w5 b a (by omega) (by omega)).mono ?_
  rintro e w6 ⟨rfl, hx6⟩
  rw [hf]
  go_wp2_with fail
  refine (compare_any w6 a a (by omega) (by omega)).mono ?_
  rintro e w7 ⟨rfl, hx7⟩
  rw [he]
  have hx7' := (hx5'.grow hx6).grow hx7
  clear hf he hx5' hx6 hx7 ha hb hc
  generalize cmpT a b = x at *
  generalize cmpT b c = y at *
  generalize cmpT a c = z at *
  rcases hr1 with rfl | rfl | rfl
  all_goals
    rcases hr2 with rfl | rfl | rfl
    all_goals
      rcases hr3 with rfl | rfl | rfl
      all_goals
        first
          | (exfalso; have := ht (by decide) (by decide); omega)
          | (clear ht; go_wp2; go_ret; exact ⟨rfl, hx7'⟩)

theorem compares_all (w : World) (hT : Lib.Utf8Tabs 1 2 w) (a b c : ByteArray) :
    Calls Tryd.prog 9 #[.string a, .string b, .string c] w fun e w' => e = .returned (.bool true) ∧ Ext none_ w w' := by
  by_cases h : 1000 < a.size ∨ 1000 < b.size ∨ 1000 < c.size
  · exact compares_long w hT a b c h
  · exact compares_any w hT a b c (by omega) (by omega) (by omega)

end Go.Proofs.YtocjidlbjmghdaaDoor
