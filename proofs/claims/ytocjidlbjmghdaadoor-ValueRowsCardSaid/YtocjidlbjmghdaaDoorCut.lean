/- The walks of Cut, of the reference's Cut. -/
import Derived.Test.YtocjidlbjmghdaaDoorUtf
import Derived.Test.YtocjidlbjmghdaaDoorCount
namespace Go.Proofs.YtocjidlbjmghdaaDoor
open Go.RowKit Go.Cw

theorem decode_end {s : ByteArray} {pos : Nat} (h : pos < s.size) : pos + (Utf8.decode s pos).2 ≤ s.size := by
  have hl : s.data.toList.length = s.size := Array.length_toList
  have hne : s.data.toList.drop pos ≠ [] := by
    intro e
    have := congrArg List.length e
    rw [List.length_drop, hl, List.length_nil] at this
    omega
  have := Lib.decodeL_le _ hne
  rw [Lib.decodeL_drop, List.length_drop, hl] at this
  omega
/-- where the k-th rune begins, or the text's end -/
def endAt (s : ByteArray) (k : Nat) : Nat := (((runesAt s 0).map (·.1))[k]?).getD s.size
/-- the first k runes' bytes -/
def cutB (s : ByteArray) (k : Nat) : ByteArray := s.extract 0 (endAt s k)
theorem endAt_here {s : ByteArray} {pre : List (Nat × Nat)} {pos : Nat} (h : pre ++ runesAt s pos = runesAt s 0) (hp : pos < s.size) : endAt s pre.length = pos := by
  unfold endAt
  rw [← h, runesAt_more hp]
  simp
theorem endAt_all {s : ByteArray} {pre : List (Nat × Nat)} {pos k : Nat} (h : pre ++ runesAt s pos = runesAt s 0) (hp : ¬ pos < s.size) (hk : pre.length ≤ k) : endAt s k = s.size := by
  unfold endAt
  rw [← h, runesAt_end hp, List.append_nil, List.getElem?_eq_none (by simpa using hk)]
  rfl
theorem cutB_all {s : ByteArray} {k : Nat} (h : endAt s k = s.size) : cutB s k = s := by
  unfold cutB; rw [h]; exact ByteArray.extract_zero_size

theorem ret_str {a b : ByteArray} (h : a = b) : Ending.returned (.string a) = Ending.returned (.string b) := by rw [h]

set_option maxHeartbeats 2000000 in
theorem cut_any (w : World) (s : ByteArray) (n : Int) (hs : s.size ≤ 100000) (hn : -9223372036854775808 ≤ n ∧ n ≤ 9223372036854775807) :
    Calls Tryd.prog 28 #[.string s, .int .i64 n] w fun e w' => e = .returned (.string (cutB s n.toNat)) ∧ Ext none_ w w' := by
  go_enter Tryd.func28, Tryd.ntmps28
  go_wp2_with fail
  have hit : IterIs (w.iter s 0) w.heap.size s 0 := World.iter_heap w s 0
  have hx0 : Ext none_ w (w.iter s 0) := Ext.alloc w _
  generalize w.iter s 0 = w1 at *
  generalize hil : w.heap.size = it at *
  have hil' : w.heap.size ≤ it := by omega
  clear hil
  go_loopw [1] (fun m wr => ∃ (pos : Nat) (pre : List (Nat × Nat)), m = .int .i64 (n - pre.length) ∧ pos ≤ s.size ∧ IterIs wr it s pos ∧ Ext none_ w wr ∧ Hid (pre ++ runesAt s pos = runesAt s 0) ∧ pre.length ≤ n.toNat ∧ pre.length ≤ pos) (fun _ wr => s.size - wr.iterPos it)
  case atStart => exact ⟨0, [], by simp, by omega, hit, hx0, Lib.hid rfl, by simp, by simp⟩
  case round =>
    obtain ⟨pos, pre, rfl, hps, hir, hx, Hok, hk, hkp⟩ := hrel
    go_wp2_with (refine wpList_nextStr rfl _ rfl rfl hir ?_ ?_)
    · intro hpos
      have He := Lib.hid (endAt_all Hok.out (show ¬ pos < s.size by omega) hk)
      clear hpos
      go_wp2
      go_ret
      exact ⟨ret_str (cutB_all He.out).symm, hx⟩
    · intro hpos
      have hpp := hpos
      have He := Lib.hid (endAt_here Hok.out hpos)
      have Hrm := Lib.hid (runesAt_more hpos)
      have hge := decode_ge s pos hpos
      have hle : pos + (Utf8.decode s pos).2 ≤ s.size := decode_end hpos
      have hir' := hir.set (pos + (Utf8.decode s pos).2)
      have hx' := hx.trans (setIter_ext wr it s (pos + (Utf8.decode s pos).2)) fun i hi e => by omega
      have hip := iterPos_of hir
      clear hir hx
      generalize setIter wr it s (pos + (Utf8.decode s pos).2) = w5 at *
      generalize (Utf8.decode s pos).2 = d at *
      generalize (Utf8.decode s pos).1 = r at *
      by_cases hlt : n - pre.length < 1
      · have hd : decide (n - (pre.length : Int) < 1) = true := decide_eq_true hlt
        have hkn : n.toNat = pre.length := by omega
        have Hc : Hid (cutB s n.toNat = s.extract 0 pos) := Lib.hid (by unfold cutB; rw [hkn, He.out])
        clear hlt hkn hk
        go_wp2
        go_ret
        exact ⟨ret_str Hc.out.symm, hx'⟩
      · have hd : decide (n - (pre.length : Int) < 1) = false := decide_eq_false hlt
        go_wp2
        refine ⟨⟨pos + d, pre ++ [(pos, r)], ?_, hle, hir', hx', Lib.hid ?_, ?_, ?_⟩, by rw [iterPos_of hir', hip]; omega⟩
        · rw [List.length_append]; congr 1; simp; omega
        · rw [← Hok.out, Hrm.out, List.append_assoc]; rfl
        · rw [List.length_append]; simp; omega
        · rw [List.length_append]; simp; omega

set_option maxHeartbeats 2000000 in
theorem rcut_any (w : World) (s : ByteArray) (n : Int) (hs : s.size ≤ 100000) (hn : -9223372036854775808 ≤ n ∧ n ≤ 9223372036854775807) :
    Calls Tryd.prog 29 #[.string s, .int .i64 n] w fun e w' => e = .returned (.string (cutB s n.toNat)) ∧ Ext none_ w w' := by
  go_enter Tryd.func29, Tryd.ntmps29
  go_wp2_with fail
  have hit : IterIs (w.iter s 0) w.heap.size s 0 := World.iter_heap w s 0
  have hx0 : Ext none_ w (w.iter s 0) := Ext.alloc w _
  generalize w.iter s 0 = w1 at *
  generalize hil : w.heap.size = it at *
  have hil' : w.heap.size ≤ it := by omega
  clear hil
  go_loopw [5] (fun m wr => ∃ (pos : Nat) (pre : List (Nat × Nat)), m = .int .i64 pre.length ∧ pos ≤ s.size ∧ IterIs wr it s pos ∧ Ext none_ w wr ∧ Hid (pre ++ runesAt s pos = runesAt s 0) ∧ pre.length ≤ n.toNat ∧ pre.length ≤ pos) (fun _ wr => s.size - wr.iterPos it)
  case atStart => exact ⟨0, [], by simp, by omega, hit, hx0, Lib.hid rfl, by simp, by simp⟩
  case round =>
    obtain ⟨pos, pre, rfl, hps, hir, hx, Hok, hk, hkp⟩ := hrel
    go_wp2_with (refine wpList_nextStr rfl _ rfl rfl hir ?_ ?_)
    · intro hpos
      have He := Lib.hid (endAt_all Hok.out (show ¬ pos < s.size by omega) hk)
      clear hpos
      go_wp2
      go_ret
      exact ⟨ret_str (cutB_all He.out).symm, hx⟩
    · intro hpos
      have hpp := hpos
      have He := Lib.hid (endAt_here Hok.out hpos)
      have Hrm := Lib.hid (runesAt_more hpos)
      have hge := decode_ge s pos hpos
      have hle : pos + (Utf8.decode s pos).2 ≤ s.size := decode_end hpos
      have hir' := hir.set (pos + (Utf8.decode s pos).2)
      have hx' := hx.trans (setIter_ext wr it s (pos + (Utf8.decode s pos).2)) fun i hi e => by omega
      have hip := iterPos_of hir
      clear hir hx
      generalize setIter wr it s (pos + (Utf8.decode s pos).2) = w5 at *
      generalize (Utf8.decode s pos).2 = d at *
      generalize (Utf8.decode s pos).1 = r at *
      by_cases hlt : n ≤ pre.length
      · have hd : decide (n ≤ (pre.length : Int)) = true := decide_eq_true hlt
        have hkn : n.toNat = pre.length := by omega
        have Hc : Hid (cutB s n.toNat = s.extract 0 pos) := Lib.hid (by unfold cutB; rw [hkn, He.out])
        clear hlt hkn hk
        go_wp2
        go_ret
        exact ⟨ret_str Hc.out.symm, hx'⟩
      · have hd : decide (n ≤ (pre.length : Int)) = false := decide_eq_false hlt
        go_wp2
        refine ⟨⟨pos + d, pre ++ [(pos, r)], ?_, hle, hir', hx', Lib.hid ?_, ?_, ?_⟩, by rw [iterPos_of hir', hip]; omega⟩
        · rw [List.length_append]; simp
        · rw [← Hok.out, Hrm.out, List.append_assoc]; rfl
        · rw [List.length_append]; simp; omega
        · rw [List.length_append]; simp; omega

end Go.Proofs.YtocjidlbjmghdaaDoor
