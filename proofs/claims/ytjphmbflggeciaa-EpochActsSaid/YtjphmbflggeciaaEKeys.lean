/- maps.Keys over a map of ints as an iterator; slices.Sorted of it; Busy. -/
import Derived.Test.YtjphmbflggeciaaSortShelf
import Derived.Test.YtjphmbflggeciaaFns
namespace Go.Proofs.Ytjphmbflggeciaa
open Go.RowKit Go.Cw Go.Maps Go.Shelf

set_option maxRecDepth 100000 in
set_option maxHeartbeats 1000000 in
theorem keys1 (F : Fence) (n : Nat) (h31 : F.fn 31) (hro : F.round = none) (hn : 1 ≤ n) (l Bm b : Nat) (M : List (Z × Int)) (J : List Int → World → Prop)
    (hY : ∀ pre x W, J pre W → pre.length < M.length → YieldAt F (n - 1) Try.prog l #[encZ x] W fun e W' => e = .returned (.bool true) ∧ J (pre ++ [x]) W' ∧ KeepsWalks W W')
    (W : World) (hJ : AbidesFrom W.heap.size J) (hm : W.cell? ⟨Bm, 0, none⟩ = some (.map (some b))) (hown : MapIs Z.val (Value.int .i64) W b M) (h0 : J [] W) :
    CallsIn F n Try.prog 31 #[.func (.yield l) #[] #[], .pointer (some ⟨Bm, 0, none⟩)] W fun e W' => (∃ v, e = .returned v) ∧ ∃ xs, xs.Perm (M.map (·.1.1)) ∧ J xs W' := by
  refine callsIn_of_wp Try.func31 rfl h31 ?_ hro
  simp only [Try.ntmps31, List.size_toArray, List.length_cons, List.length_nil, Nat.reduceAdd, Nat.reduceSub, Array.replicate_succ, Array.replicate_zero, List.push_toArray, List.append_toArray, List.nil_append, List.cons_append]
  gi_wp2_with (first
    | (gi_at_range; refine wpListIn_range_is rfl _ rfl Try.underlying49 hown rfl ?_; intro w0 hrg0 hx0 hg0)
    | gi_in)
  go_frame
  gi_loopw [3] (fun _ wr => ∃ (cnt : Nat) (ps : List (Z × Int)), WalkIs Z.val (Value.int .i64) wr b W.heap.size M ps cnt ∧ J (ps.map (·.1.1)) wr)
    (fun _ wr => wr.rangeLeft b W.heap.size)
  case atStart => exact ⟨_, [], hrg0, hJ [] W w0 none h0 hg0 (fun r e => by cases e)⟩
  case round =>
    obtain ⟨cnt, ps, hrg, hJs⟩ := hrel
    gi_wp2_with (first
      | (gi_at_next; refine wpListIn_next_is rfl _ rfl rfl hrg ?_ ?_)
      | gi_in)
    · intro hperm
      gi_wp2
      go_end0
      exact ⟨⟨_, rfl⟩, _, hperm.map _, hJs⟩
    · intro xv xw c w2 cnt2 hxm hxp hlen hrg2 hlt hx2 hg2 hen
      have hJ2 : J (ps.map (·.1.1)) w2 := hJ _ wr w2 (some W.heap.size) hJs hg2 (fun r e => by cases e; exact ⟨Nat.le_refl _, hrg.iter_walk⟩)
      obtain ⟨fn, tmps, assign, body, hy, hR⟩ := hY (ps.map (·.1.1)) xv w2 hJ2 (by simpa using hlen)
      unfold Z.val at hen
      clear hx2
      unfold Z.val
      gi_wp2
      refine hR.mono ?_
      rintro e W3 ⟨rfl, hJ3, hk3⟩
      gi_wp2
      have hrg3 := hrg2.of_walks hk3
      go_roundw
      case rel => exact ⟨cnt2, ps ++ [(⟨xv, xw⟩, c)], hrg3, by simpa using hJ3⟩
      case measure => rw [hrg3.left_eq, hrg.left_eq]; exact hlt

theorem keys_any (w : World) (mb : Option Nat) : Calls Try.prog 29 #[.map mb] w fun e w' => e = .returned (.func (.func 31) #[] #[.pointer (some ⟨w.heap.size, 0, none⟩)]) ∧ w' = w.alloc (.cells #[.map mb] 49) := by
  go_enter Try.func29, Try.ntmps29
  go_wp2
  go_ret
  exact ⟨rfl, rfl⟩

theorem sorted_any (w : World) (Bm b : Nat) (M : List (Z × Int)) (hBm : Bm < w.heap.size) (hm : w.cell? ⟨Bm, 0, none⟩ = some (.map (some b))) (hown : MapIs Z.val (Value.int .i64) w b M) (hn : M.length ≤ 100000) :
    Calls Try.prog 28 #[.func (.func 31) #[] #[.pointer (some ⟨Bm, 0, none⟩)]] w fun e w' => ∃ (v : Value) (ks : List Int), e = .returned v ∧ ks.Perm (M.map (·.1.1)) ∧ w'.ownsRow w.heap.size 3 1 v ks.length ((ks.mergeSort fun x y => decide (x ≤ y)).map (Value.int .i64)) ∧ Ext none_ w w' := by
  have hseq : SeqGives Fence.wide (5 - 1 - 1 - 1) Try.prog 31 #[.pointer (some ⟨Bm, 0, none⟩)] encZ (fun xs => xs.Perm (M.map (·.1.1))) M.length w := fun l J W hW hJ hY h0 =>
    keys1 Fence.wide _ trivial rfl (by omega) l Bm b M J hY W hJ ((hW.cell (p := ⟨Bm, 0, none⟩) hBm).trans hm) (hown.of_block (hW.block b hown.lt)) h0
  have := AnyZI.sorted_in sorted_lays Fence.wide 5 trivial trivial trivial trivial rfl (by omega) (sorts_in _) (enters_of Try.func30 (by kernel_rfl) rfl) 31 #[.pointer (some ⟨Bm, 0, none⟩)] trivial (enters_of Try.func31 (by kernel_rfl) rfl) _ M.length (by unfold maxLen; omega) (by omega) w hseq
  refine Calls.mono ((callsIn_wide (n := 5)).1 this) ?_
  rintro e w' ⟨v, vs, rfl, hp, ho, _, hb⟩
  exact ⟨v, vs, rfl, hp, ho, ⟨hb.os, hb.tape, hb.output, hb.size, fun k hk _ => hb.block k hk⟩⟩

set_option maxHeartbeats 1000000 in
theorem busy_any (w : World) (base g mb : Nat) (ss gl : Int) (M : List (Z × Int)) (hT : TableIs w base g mb ss gl M) (hn : M.length ≤ 10000) :
    Calls Try.prog 25 #[.pointer (some ⟨g, 0, none⟩)] w fun e w' => ∃ (v : Value) (ks : List Int), e = .returned v ∧ ks.Perm (M.map (·.1.1)) ∧ w'.ownsRow w.heap.size 3 1 v ks.length ((ks.mergeSort fun x y => decide (x ≤ y)).map (Value.int .i64)) ∧ Ext none_ w w' := by
  obtain ⟨g0, g1, g2⟩ := cells3 hT.blk
  have hx2 := Ext.alloc w (.cells #[.map (some mb)] 49)
  have hm2 := cells1' (blk_new w (.cells #[.map (some mb)] 49))
  have hT2 := hT.ext0 hx2
  have hB2 : w.heap.size < (w.alloc (.cells #[.map (some mb)] 49)).heap.size := by simp
  have cS := sorted_any (w.alloc (.cells #[.map (some mb)] 49)) w.heap.size mb M hB2 hm2 hT2.map (by omega)
  go_enter Try.func25, Try.ntmps25
  go_wp2_with fail
  refine (keys_any w (some mb)).mono ?_
  rintro e w2 ⟨rfl, rfl⟩
  go_wp2_with fail
  refine cS.mono ?_
  rintro e w3 ⟨v, ks, rfl, hp, ho, hx3⟩
  go_wp2_with fail
  go_ret
  exact ⟨v, ks, rfl, hp, ownsRow_base_a ho hx2.size, hx2.grow hx3⟩

end Go.Proofs.Ytjphmbflggeciaa
