/- The walk of wrong: which texts are no names. -/
import Derived.Test.YtocjidlbjmghdaaDoorLetter
namespace Go.Proofs.YtocjidlbjmghdaaDoor
open Go.RowKit Go.Cw

/-- may a name not hold this rune, as its n-th? -/
def badP (n : Nat) (r : Int) : Bool := !letterP r && (decide (n = 0) || decide (r < 48) || decide (57 < r))
def okFrom (n : Nat) : List Nat → Bool
  | [] => true
  | r :: rs => !badP n r && okFrom (n + 1) rs
def rightP (rs : List Nat) : Bool := okFrom 0 rs && (decide (1 ≤ rs.length) && decide (rs.length ≤ 32))

theorem iterPos_of {w : World} {r : Nat} {s : ByteArray} {pos : Nat} (h : IterIs w r s pos) : w.iterPos r = pos := by
  unfold World.iterPos
  rw [show w.heap[r]? = some (.stringIter s pos) from h]

/-- the runes from a place on -/
def rest (s : ByteArray) (pos : Nat) : List Nat := (runesAt s pos).map (·.2)
theorem rest_zero (s : ByteArray) : rest s 0 = runes s := rfl
theorem rest_end {s : ByteArray} {pos : Nat} (h : ¬ pos < s.size) : rest s pos = [] := by unfold rest; rw [runesAt_end h]; rfl
theorem rest_more {s : ByteArray} {pos : Nat} (h : pos < s.size) : rest s pos = (Utf8.decode s pos).1 :: rest s (pos + (Utf8.decode s pos).2) := by unfold rest; rw [runesAt_more h]; rfl

set_option maxHeartbeats 2000000 in
theorem wrong_any (w : World) (s : ByteArray) (hs : s.size ≤ 100000) : Calls Tryd.prog 59 #[.string s] w fun e w' => e = .returned (.bool (!rightP (runes s))) ∧ Ext none_ w w' := by
  have hlen := runes_len s
  go_enter Tryd.func59, Tryd.ntmps59
  go_wp2_with fail
  have hit : IterIs (w.iter s 0) w.heap.size s 0 := World.iter_heap w s 0
  have hx0 : Ext none_ w (w.iter s 0) := Ext.alloc w _
  generalize w.iter s 0 = w1 at *
  generalize hil : w.heap.size = it at *
  have hil' : w.heap.size ≤ it := by omega
  clear hil
  go_loopw [3] (fun n wr => ∃ (k pos : Nat), n = .int .i64 k ∧ IterIs wr it s pos ∧ Ext none_ w wr ∧ Hid (okFrom k (rest s pos) = okFrom 0 (runes s)) ∧ k + (rest s pos).length = (runes s).length) (fun _ wr => s.size - wr.iterPos it)
  case atStart => exact ⟨0, 0, rfl, hit, hx0, Lib.hid (by rw [rest_zero]), by rw [rest_zero]; omega⟩
  case round =>
    obtain ⟨k, pos, rfl, hir, hx, Hok, hkl⟩ := hrel
    go_wp2_with (refine wpList_nextStr rfl _ rfl rfl hir ?_ ?_)
    · intro hpos
      have hpe : ¬ pos < s.size := by omega
      rw [rest_end hpe] at hkl
      have hre := rest_end hpe
      have Hre := Lib.hid hre
      clear hre hpe
      simp only [List.length_nil, Nat.add_zero] at hkl
      have hr1 : rightP (runes s) = (decide (1 ≤ k) && decide (k ≤ 32)) := by
        unfold rightP; rw [← Hok.out, Hre.out, ← hkl]; rfl
      have Hr1 := Lib.hid hr1
      have hk100 : k ≤ 100000 := by omega
      clear hr1 hkl
      by_cases hk0 : k = 0
      · have hb : ((k : Int) == 0) = true := by simp [hk0]
        have Hk0 := Lib.hid hk0
        clear hk0
        go_wp2
        go_ret
        refine ⟨ret_bool ?_, hx⟩
        rw [Hr1.out, Hk0.out]; rfl
      · have hb : ((k : Int) == 0) = false := by simp [hk0]
        have Hk0 := Lib.hid hk0
        clear hk0
        go_wp2
        go_ret
        refine ⟨ret_bool ?_, hx⟩
        rw [Hr1.out, decide_eq_true (show 1 ≤ k by have := Hk0.out; omega), Bool.true_and, Bool.eq_iff_iff]
        simp; try omega
    · intro hpos
      have hrm := rest_more hpos
      have Hrm := Lib.hid hrm
      have hge := decode_ge s pos hpos
      have hir' := hir.set (pos + (Utf8.decode s pos).2)
      have hx' := hx.trans (setIter_ext wr it s (pos + (Utf8.decode s pos).2)) fun i hi e => by omega
      have hlr : (rest s pos).length = (rest s (pos + (Utf8.decode s pos).2)).length + 1 := by rw [hrm]; rfl
      clear hrm
      generalize setIter wr it s (pos + (Utf8.decode s pos).2) = w5 at *
      generalize (Utf8.decode s pos).2 = d at *
      generalize (Utf8.decode s pos).1 = r at *
      go_wp2_with fail
      refine (letter_any w5 r).mono ?_
      rintro e w6 ⟨rfl, rfl⟩
      cases hL : letterP (r : Int)
      · have HL := Lib.hid hL
        clear hL
        by_cases hk0 : k = 0
        · have hb : ((k : Int) == 0) = true := by simp [hk0]
          have Hb := Lib.hid (show badP k r = true by simp [badP, HL.out, hk0])
          clear hk0
          go_wp2
          go_ret
          refine ⟨ret_bool ?_, hx'⟩
          rw [show rightP (runes s) = false from by rw [rightP, ← Hok.out, Hrm.out, okFrom, Hb.out]; rfl]; rfl
        · have hb : ((k : Int) == 0) = false := by simp [hk0]
          have Hk0 := Lib.hid hk0
          clear hk0
          by_cases h1 : (r : Int) < 48
          · have hd1 : decide ((r : Int) < 48) = true := decide_eq_true h1
            have Hb := Lib.hid (show badP k r = true by simp [badP, HL.out, h1])
            clear h1
            go_wp2
            go_ret
            refine ⟨ret_bool ?_, hx'⟩
            rw [show rightP (runes s) = false from by rw [rightP, ← Hok.out, Hrm.out, okFrom, Hb.out]; rfl]; rfl
          · have hd1 : decide ((r : Int) < 48) = false := decide_eq_false h1
            by_cases h2 : 57 < (r : Int)
            · have hd2 : decide (57 < (r : Int)) = true := decide_eq_true h2
              have Hb := Lib.hid (show badP k r = true by simp [badP, HL.out, h2])
              clear h1 h2
              go_wp2
              go_ret
              refine ⟨ret_bool ?_, hx'⟩
              rw [show rightP (runes s) = false from by rw [rightP, ← Hok.out, Hrm.out, okFrom, Hb.out]; rfl]; rfl
            · have hd2 : decide (57 < (r : Int)) = false := decide_eq_false h2
              have Hb := Lib.hid (show badP k r = false by simp [badP, Hk0.out]; omega)
              clear h1 h2
              go_wp2
              refine ⟨⟨k + 1, _, by simp, hir', hx', Lib.hid ?_, by omega⟩, ?_⟩
              · rw [← Hok.out, Hrm.out, okFrom, Hb.out]; rfl
              · rw [iterPos_of hir', iterPos_of hir]; omega
      · have Hb := Lib.hid (show badP k r = false by simp [badP, hL])
        clear hL
        go_wp2
        refine ⟨⟨k + 1, _, by simp, hir', hx', Lib.hid ?_, by omega⟩, ?_⟩
        · rw [← Hok.out, Hrm.out, okFrom, Hb.out]; rfl
        · rw [iterPos_of hir', iterPos_of hir]; omega

end Go.Proofs.YtocjidlbjmghdaaDoor
