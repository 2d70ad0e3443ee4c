/- The walk of Count; texts that are literals, reckoned. -/
import Derived.Test.YtocjidlbjmghdaaDoorRefRight
namespace Go.Proofs.YtocjidlbjmghdaaDoor
open Go.RowKit Go.Cw

/-- the runes, reckoned with fuel: the kernel can -/
def runesF (s : ByteArray) : Nat → Nat → List Nat
  | 0, _ => []
  | f + 1, pos => if pos < s.size then (Utf8.decode s pos).1 :: runesF s f (pos + (Utf8.decode s pos).2) else []
theorem rest_F (s : ByteArray) : ∀ (f pos : Nat), s.size - pos ≤ f → rest s pos = runesF s f pos
  | 0, pos, h => by rw [rest_end (by omega)]; rfl
  | f + 1, pos, h => by
    unfold runesF
    by_cases hp : pos < s.size
    · have := decode_ge s pos hp
      rw [if_pos hp, rest_more hp, rest_F s f _ (by omega)]
    · rw [if_neg hp, rest_end hp]
theorem runes_F (s : ByteArray) : runes s = runesF s s.size 0 := by rw [← rest_zero, rest_F s s.size 0 (by omega)]

set_option maxHeartbeats 2000000 in
theorem count_any (w : World) (s : ByteArray) (hs : s.size ≤ 100000) : Calls Tryd.prog 27 #[.string s] w fun e w' => e = .returned (.int .i64 (runes s).length) ∧ Ext none_ w w' := by
  have hlen := runes_len s
  go_enter Tryd.func27, Tryd.ntmps27
  go_wp2_with fail
  have hit : IterIs (w.iter s 0) w.heap.size s 0 := World.iter_heap w s 0
  have hx0 : Ext none_ w (w.iter s 0) := Ext.alloc w _
  generalize w.iter s 0 = w1 at *
  generalize hil : w.heap.size = it at *
  have hil' : w.heap.size ≤ it := by omega
  clear hil
  go_loopw [3] (fun n wr => ∃ (k pos : Nat), n = .int .i64 k ∧ IterIs wr it s pos ∧ Ext none_ w wr ∧ Hid (k + (rest s pos).length = (runes s).length) ∧ k ≤ 100000) (fun _ wr => s.size - wr.iterPos it)
  case atStart => exact ⟨0, 0, rfl, hit, hx0, Lib.hid (by rw [rest_zero]; omega), by omega⟩
  case round =>
    obtain ⟨k, pos, rfl, hir, hx, Hkl, hk⟩ := hrel
    go_wp2_with (refine wpList_nextStr rfl _ rfl rfl hir ?_ ?_)
    · intro hpos
      have Hre := Lib.hid (rest_end (show ¬ pos < s.size by omega))
      go_wp2
      go_ret
      refine ⟨?_, hx⟩
      have := Hkl.out
      rw [Hre.out] at this
      rw [← this]; rfl
    · intro hpos
      have Hrm := Lib.hid (rest_more hpos)
      have hge := decode_ge s pos hpos
      have hir' := hir.set (pos + (Utf8.decode s pos).2)
      have hx' := hx.trans (setIter_ext wr it s (pos + (Utf8.decode s pos).2)) fun i hi e => by omega
      have hk1 : k + 1 ≤ 100000 := by
        have h1 := Hkl.out
        rw [Hrm.out, List.length_cons] at h1
        omega
      have H1 : Hid (k + 1 + (rest s (pos + (Utf8.decode s pos).2)).length = (runes s).length) := Lib.hid (by
        have h1 := Hkl.out
        rw [Hrm.out, List.length_cons] at h1
        omega)
      generalize setIter wr it s (pos + (Utf8.decode s pos).2) = w5 at *
      generalize (Utf8.decode s pos).2 = d at *
      generalize (Utf8.decode s pos).1 = r at *
      go_wp2
      exact ⟨⟨k + 1, pos + d, by simp, hir', hx', H1, hk1⟩, by rw [iterPos_of hir', iterPos_of hir]; omega⟩

end Go.Proofs.YtocjidlbjmghdaaDoor
