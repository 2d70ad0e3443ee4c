/- The walk of LetterNames. -/
import Derived.Test.YtocjidlbjmghdaaDoorAwake
namespace Go.Proofs.YtocjidlbjmghdaaDoor
open Go.RowKit Go.Cw

theorem right1_any (w : World) (s : ByteArray) (hs : s.size ≤ 100000) :
    Calls Tryd.prog 21 #[.slice (some ⟨w.heap.size, 0, none⟩) 1 1] (w.alloc (.cells #[.string s] 9)) fun e w' => e = .returned (.bool (rightP (runes s))) ∧ Ext none_ w w' :=
  right_one w s hs _ (by rw [← runes_F])

set_option maxHeartbeats 4000000 in
set_option maxRecDepth 100000 in
theorem names_long (w : World) (hT : Lib.Utf8Tabs 1 2 w) (a : Option Addr) (n c : Nat) (hn : 50 < n) :
    Calls Tryd.prog 3 #[.slice a n c] w fun e w' => e = .returned (.bool true) ∧ Ext none_ w w' := by
  have hd : decide (50 < (n : Int)) = true := by simp; omega
  go_enter Tryd.func3, Tryd.ntmps3
  go_wp2_with fail
  refine (awake_any w hT).mono ?_
  rintro e w1 ⟨rfl, hx1⟩
  go_wp2_with fail
  refine (awake_any w1 (Tabs.ext0 hT hx1)).mono ?_
  rintro e w2 ⟨rfl, hx2⟩
  go_wp2
  go_ret
  exact ⟨rfl, hx1.grow hx2⟩

set_option maxHeartbeats 4000000 in
set_option maxRecDepth 100000 in
theorem names_any (w : World) (hT : Lib.Utf8Tabs 1 2 w) (a : Option Addr) (ss : List ByteArray) (b off c : Nat) (h : SR w a ss b off) (hn : ss.length ≤ 50) :
    Calls Tryd.prog 3 #[.slice a ss.length c] w fun e w' => e = .returned (.bool true) ∧ Ext none_ w w' := by
  have hd : decide (50 < (ss.length : Int)) = false := by simp; omega
  go_enter Tryd.func3, Tryd.ntmps3
  go_wp2_with fail
  refine (awake_any w hT).mono ?_
  rintro e w1 ⟨rfl, hx1⟩
  go_wp2_with fail
  clear hd
  go_loopw [3, 4] (fun q i wr => ∃ k : Nat, k ≤ ss.length ∧ i = .int .i64 k ∧ q = .bool (rightsP (ss.take k)) ∧ Ext none_ w wr ∧ ∀ j s, j < k → ss[j]? = some s → s.size ≤ 1000) (fun _ i _ => ss.length - (RowKit.intOf i).toNat)
  case atStart => exact ⟨0, Nat.zero_le _, rfl, rfl, hx1, fun j s hj => by omega⟩
  case round =>
    obtain ⟨k, hk, rfl, rfl, hx, Hsm⟩ := hrel
    clear hx1
    by_cases hlt : k < ss.length
    · obtain ⟨s, hsk⟩ : ∃ x, ss[k]? = some x := ⟨_, List.getElem?_eq_getElem hlt⟩
      have hc := (h.ext0 hx).cell k s hsk
      have ha := h.addr (by omega)
      subst ha
      by_cases hs : 1000 < s.size
      · have hd : decide (1000 < (s.size : Int)) = true := by simp; omega
        clear hsk Hsm
        go_wp2
        go_ret
        exact ⟨rfl, hx⟩
      · have hd : decide (1000 < (s.size : Int)) = false := by simp; omega
        have Htk : Hid (ss.take (k + 1) = ss.take k ++ [s]) := Lib.hid (by
          obtain ⟨hl', rfl⟩ := List.getElem?_eq_some_iff.1 hsk
          rw [List.take_succ_eq_append_getElem hl'])
        have Hsm2 : ∀ j t, j < k + 1 → ss[j]? = some t → t.size ≤ 1000 := by
          intro j t hj ht
          by_cases e : j = k
          · subst e; rw [hsk] at ht; cases ht; omega
          · exact Hsm j t (by omega) ht
        clear hsk Hsm
        go_wp2_with fail
        refine (rright_any wr s (by omega)).mono ?_
        rintro e w2 ⟨rfl, hx2⟩
        have hc2 := cell_ext0 hx2 hc
        have hx2' := hx.grow hx2
        clear hx hx2 hc
        go_wp2_with fail
        refine (right1_any w2 s (by omega)).mono ?_
        rintro e w3 ⟨rfl, hx3⟩
        have hx3' := hx2'.grow hx3
        clear hx2' hx3 hc2
        generalize hq : rightP (runes s) = q at *
        have Hq := Lib.hid hq
        generalize hp : rightsP (ss.take k) = p at *
        have Hp := Lib.hid hp
        have Hpq : Hid (rightsP (ss.take (k + 1)) = (p && q)) := Lib.hid (by
          rw [Htk.out, ← hp, ← hq]; unfold rightsP; rw [List.all_append]; simp)
        clear hq hp hd hs
        have hqq : (q != q) = false := by cases q <;> rfl
        cases p
        · go_wp2
          exact ⟨⟨k + 1, by omega, by simp, by rw [Hpq.out]; rfl, hx3', Hsm2⟩, by simp [RowKit.intOf]; omega⟩
        · go_wp2
          exact ⟨⟨k + 1, by omega, by simp, by rw [Hpq.out]; rfl, hx3', Hsm2⟩, by simp [RowKit.intOf]; omega⟩
    · have hkn : k = ss.length := by omega
      subst hkn
      rw [List.take_length]
      have hall : ∀ s ∈ ss, s.size ≤ 100000 := by
        intro s hs
        obtain ⟨j, hj⟩ := List.getElem?_of_mem hs
        have := Hsm j s (List.getElem?_eq_some_iff.1 hj).1 hj
        omega
      clear Hsm
      go_wp2_with fail
      refine (right_any wr a ss b off c (h.ext0 hx) (by omega) hall).mono ?_
      rintro e w2 ⟨rfl, hx2⟩
      generalize hp : rightsP ss = p at *
      have hqq : (p == p) = true := by cases p <;> rfl
      clear hp
      go_wp2
      go_ret
      exact ⟨rfl, hx.grow hx2⟩

end Go.Proofs.YtocjidlbjmghdaaDoor
