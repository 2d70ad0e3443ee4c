/- maps.Values over the limbo's map as an iterator; slices.Sorted and Compact of it; Epochs. -/
import Derived.Test.YtfjlclloddbkmaaLWalk
import Derived.Test.YtfjlclloddbkmaaLShelf
import Derived.Test.YtfjlclloddbkmaaLSim
import Derived.Test.YtfjlclloddbkmaaLSd
import Derived.Shelf.AbstractIn
import Derived.RangeFuncMany
import Derived.RangeFuncLeaves
import Derived.Sort.MapsRangeIn
import Derived.WalkKit
import Derived.OwnWalkIn
import Derived.TacticsInMore
import Derived.RegionIn
import Derived.LoopNIn
import Derived.LoopIn
import Derived.Shelf.Abstract
namespace Go.Proofs.Ytfjlclloddbkmaa
open Go.RowKit Go.Cw Go.Maps Go.Shelf

/-- A slice's address reads as these numbers. -/
structure IRw (w : World) (a : Option Addr) (zs : List Int) (b off : Nat) : Prop where
  addr : 0 < zs.length → a = some ⟨b, off, none⟩
  cell : ∀ (j : Nat) (z : Int), zs[j]? = some z → w.cell? ⟨b, off + j, none⟩ = some (.int .i64 z)
theorem IRw.ext0 {w w' : World} {a : Option Addr} {zs : List Int} {b off : Nat} (h : IRw w a zs b off) (hx : Ext none_ w w') : IRw w' a zs b off :=
  ⟨h.addr, fun j z hj => cell_ext0 hx (h.cell j z hj)⟩
theorem own_read0 {w : World} {base : Nat} {v : Value} {zs : List Int} (h : w.ownsRow base 3 1 v zs.length (zs.map (Value.int .i64))) :
    ∃ a cap b, v = .slice a zs.length cap ∧ IRw w a zs b 0 := by
  rcases h.2 with ⟨rfl, h0⟩ | ⟨g, cap, cur, rfl, hb, hg, hc1, hc2, hc3, hc4⟩
  · rw [h0]
    exact ⟨none, 0, 0, rfl, fun h => by omega, fun j z hj => by have := (List.getElem?_eq_some_iff.1 hj).1; omega⟩
  · refine ⟨_, cap, g, rfl, fun _ => rfl, fun j z hj => ?_⟩
    rw [cell_of hg, Nat.zero_add]
    have hj' : (zs.map (Value.int .i64))[j]? = some (.int .i64 z) := by simp [hj]
    rw [← hc4, List.getElem?_take] at hj'
    split at hj'
    · simpa using hj'
    · cases hj'

set_option maxRecDepth 100000 in
set_option maxHeartbeats 1000000 in
theorem values1 (F : Fence) (n : Nat) (h33 : F.fn 33) (hro : F.round = none) (hn : 1 ≤ n) (l Bm b : Nat) (M : List (K × Int)) (J : List Int → World → Prop)
    (hY : ∀ pre x W, J pre W → pre.length < M.length → YieldAt F (n - 1) Try.prog l #[encZ x] W fun e W' => e = .returned (.bool true) ∧ J (pre ++ [x]) W' ∧ KeepsWalks W W')
    (W : World) (hJ : AbidesFrom W.heap.size J) (hm : W.cell? ⟨Bm, 0, none⟩ = some (.map (some b))) (hown : MapIs K.val (Value.int .i64) W b M) (h0 : J [] W) :
    CallsIn F n Try.prog 33 #[.func (.yield l) #[] #[], .pointer (some ⟨Bm, 0, none⟩)] W fun e W' => (∃ v, e = .returned v) ∧ ∃ xs, xs.Perm (M.map (·.2)) ∧ J xs W' := by
  refine callsIn_of_wp Try.func33 rfl h33 ?_ hro
  simp only [Try.ntmps33, List.size_toArray, List.length_cons, List.length_nil, Nat.reduceAdd, Nat.reduceSub, Array.replicate_succ, Array.replicate_zero, List.push_toArray, List.append_toArray, List.nil_append, List.cons_append]
  gi_wp2_with (first
    | (gi_at_range; refine wpListIn_range_is rfl _ rfl Try.underlying27 hown rfl ?_; intro w0 hrg0 hx0 hg0)
    | gi_in)
  go_frame
  gi_loopw [4] (fun _ wr => ∃ (cnt : Nat) (ps : List (K × Int)), WalkIs K.val (Value.int .i64) wr b W.heap.size M ps cnt ∧ J (ps.map (·.2)) wr)
    (fun _ wr => wr.rangeLeft b W.heap.size)
  case atStart => exact ⟨_, [], hrg0, hJ [] W w0 none h0 hg0 (fun r e => by cases e)⟩
  case round =>
    obtain ⟨cnt, ps, hrg, hJs⟩ := hrel
    gi_wp2_with (first
      | (gi_at_next; refine wpListIn_next_is rfl _ rfl rfl hrg ?_ ?_)
      | gi_in)
    · intro hperm
      gi_wp2
      go_end0
      exact ⟨⟨_, rfl⟩, _, hperm.map _, hJs⟩
    · intro x c w2 cnt2 hxm hxp hlen hrg2 hlt hx2 hg2 hen
      have hJ2 : J (ps.map (·.2)) w2 := hJ _ wr w2 (some W.heap.size) hJs hg2 (fun r e => by cases e; exact ⟨Nat.le_refl _, hrg.iter_walk⟩)
      obtain ⟨fn, tmps, assign, body, hy, hR⟩ := hY (ps.map (·.2)) c w2 hJ2 (by simpa using hlen)
      clear hx2
      gi_wp2
      refine hR.mono ?_
      rintro e W3 ⟨rfl, hJ3, hk3⟩
      gi_wp2
      have hrg3 := hrg2.of_walks hk3
      go_roundw
      case rel => exact ⟨cnt2, ps ++ [(x, c)], hrg3, by simpa using hJ3⟩
      case measure => rw [hrg3.left_eq, hrg.left_eq]; exact hlt

theorem values_any (w : World) (mb : Option Nat) : Calls Try.prog 29 #[.map mb] w fun e w' => e = .returned (.func (.func 33) #[] #[.pointer (some ⟨w.heap.size, 0, none⟩)]) ∧ w' = w.alloc (.cells #[.map mb] 27) := by
  go_enter Try.func29, Try.ntmps29
  go_wp2
  go_ret
  exact ⟨rfl, rfl⟩

theorem sorted_any (w : World) (Bm b : Nat) (M : List (K × Int)) (hBm : Bm < w.heap.size) (hm : w.cell? ⟨Bm, 0, none⟩ = some (.map (some b))) (hown : MapIs K.val (Value.int .i64) w b M) (hn : M.length ≤ 100000) :
    Calls Try.prog 28 #[.func (.func 33) #[] #[.pointer (some ⟨Bm, 0, none⟩)]] w fun e w' => ∃ (v : Value) (ks : List Int), e = .returned v ∧ ks.Perm (M.map (·.2)) ∧ w'.ownsRow w.heap.size 3 1 v ks.length ((ks.mergeSort fun x y => decide (x ≤ y)).map (Value.int .i64)) ∧ Ext none_ w w' := by
  have hseq : SeqGives Fence.wide (5 - 1 - 1 - 1) Try.prog 33 #[.pointer (some ⟨Bm, 0, none⟩)] encZ (fun xs => xs.Perm (M.map (·.2))) M.length w := fun l J W hW hJ hY h0 =>
    values1 Fence.wide _ trivial rfl (by omega) l Bm b M J hY W hJ ((hW.cell (p := ⟨Bm, 0, none⟩) hBm).trans hm) (hown.of_block (hW.block b hown.lt)) h0
  have := AnyZI.sorted_in sorted_lays Fence.wide 5 trivial trivial trivial trivial rfl (by omega) (sorts_in _) (enters_of Try.func32 (by kernel_rfl) rfl) 33 #[.pointer (some ⟨Bm, 0, none⟩)] trivial (enters_of Try.func33 (by kernel_rfl) rfl) _ M.length (by unfold maxLen; omega) (by omega) w hseq
  refine Calls.mono ((callsIn_wide (n := 5)).1 this) ?_
  rintro e w' ⟨v, vs, rfl, hp, ho, _, hb⟩
  exact ⟨v, vs, rfl, hp, ho, ⟨hb.os, hb.tape, hb.output, hb.size, fun k hk _ => hb.block k hk⟩⟩

theorem merge_sorted (ks : List Int) : (ks.mergeSort fun x y => decide (x ≤ y)).Pairwise (fun x y => decide (x ≤ y) = true) :=
  List.pairwise_mergeSort (fun a b c hab hbc => by simp only [decide_eq_true_eq] at *; omega) (fun a b => by simp only [Bool.or_eq_true, decide_eq_true_eq]; omega) ks

/-- slices.Compact of an owned row -/
theorem compact_any (w : World) (base : Nat) (v : Value) (zs : List Int) (hz : zs.Pairwise (fun x y => decide (x ≤ y) = true)) (ho : w.ownsRow base 3 1 v zs.length (zs.map (Value.int .i64))) (hn : zs.length ≤ 1000000) :
    Calls Try.prog 27 #[v] w fun e w' => ∃ a us c b, e = .returned (.slice a us.length c) ∧ SD us (· ∈ zs) ∧ IRw w' a us b 0 ∧ Ext (fun k => v.ownBlock = some k) w w' := by
  rcases ho.2 with ⟨rfl, h0⟩ | ⟨g, cap, cur, rfl, hb, hg, hc1, hc2, hc3, hc4⟩
  · refine (Any.slices_Compact_int_empty comp_lays none 0 w).mono fun e w' ⟨he, hw⟩ => ?_
    subst hw
    have hzn := List.length_eq_zero_iff.1 h0
    refine ⟨none, [], 0, 0, he, ⟨List.Pairwise.nil, fun x => by rw [hzn]⟩, ⟨fun h => absurd h (by simp), fun j z hj => by simp at hj⟩, Ext.refl _ _⟩
  · have hH : Go.Sort.Holds (Value.int .i64) w g 0 zs.toArray := holds_of_block_i hg (by simpa using hc4)
    refine (Any.slices_Compact_int comp_lays g 0 cap zs w hH (by omega) hc1).mono fun e w' ⟨he, q, hw⟩ => ?_
    subst hw
    have hlen : (Lib.compact zs).length ≤ zs.length := by
      unfold Lib.compact Lib.compactUpTo
      rw [List.length_map]
      have := List.length_filter_le (Lib.keeps zs.toArray) (List.range zs.length)
      rw [List.length_range] at this
      exact this
    have hrow := ownsRow_sorted_i (w := w) (base := base) (n := q) (os := #[]) (ts := Lib.compact zs ++ List.replicate (zs.length - (Lib.compact zs).length) 0) (ss := zs) (by simp; omega) hb hg hc1 hc2 hc3
    have hgr := grownBy_sorted_i (w := w) (g := g) (n := q) (os := #[]) (Lib.compact zs ++ List.replicate (zs.length - (Lib.compact zs).length) 0).toArray
    have hgw : ∀ u : World, Go.Sort.grow u #[] = u := fun u => by unfold Go.Sort.grow; simp
    rw [hgw] at hrow hgr
    have hex : Ext (fun k => (Value.slice (some ⟨g, 0, none⟩) zs.length cap).ownBlock = some k) w (Go.Sort.putRow (Value.int .i64) (Go.Sort.ahead w q) g 0 (Lib.compact zs ++ List.replicate (zs.length - (Lib.compact zs).length) 0).toArray) :=
      (Ext.grown hgr).mono fun k _ h => by simpa [Value.ownBlock] using h.symm
    refine ⟨some ⟨g, 0, none⟩, Lib.compact zs, cap, g, he, compact_sd hz, ⟨fun _ => rfl, fun j z hj => ?_⟩, hex⟩
    obtain ⟨T, hT⟩ : ∃ T, Lib.compact zs ++ List.replicate (zs.length - (Lib.compact zs).length) (0 : Int) = T := ⟨_, rfl⟩
    have hts : T.length = zs.length := by rw [← hT]; simp; omega
    have hTj : ∀ j, j < (Lib.compact zs).length → T[j]? = (Lib.compact zs)[j]? := fun j hj => by rw [← hT, List.getElem?_append_left hj]
    rw [hT] at hrow ⊢
    obtain ⟨a2, c2, b2, hv, hI⟩ := own_read0 (zs := T) (by rw [hts]; exact hrow)
    have hjl := (List.getElem?_eq_some_iff.1 hj).1
    have hcell := hI.cell j z ((hTj j hjl).trans hj)
    have ha := hI.addr (by rw [hts]; omega)
    simp only [Value.slice.injEq] at hv
    rw [← hv.1] at ha
    simp only [Option.some.injEq, Addr.mk.injEq] at ha
    rw [← ha.1] at hcell
    exact hcell

set_option maxHeartbeats 1000000 in
theorem epochs_any (w : World) (base g mb : Nat) (rv : Value) (row : List K) (M : List (K × Int)) (hL : LimboIs w base g mb rv row M) (hn : M.length ≤ 10000) :
    Calls Try.prog 18 #[.pointer (some ⟨g, 0, none⟩)] w fun e w' => ∃ a us c b, e = .returned (.slice a us.length c) ∧ SD us (· ∈ M.map (·.2)) ∧ IRw w' a us b 0 ∧ Ext none_ w w' := by
  obtain ⟨g0, g1⟩ := cells2 hL.blk
  have hx2 := Ext.alloc w (.cells #[.map (some mb)] 27)
  have hm2 := cells1 (blk_new w (.cells #[.map (some mb)] 27))
  have hL2 := hL.ext0 hx2
  have hB2 : w.heap.size < (w.alloc (.cells #[.map (some mb)] 27)).heap.size := by simp
  have cS := sorted_any (w.alloc (.cells #[.map (some mb)] 27)) w.heap.size mb M hB2 hm2 hL2.map (by omega)
  go_enter Try.func18, Try.ntmps18
  go_wp2_with fail
  refine (values_any w (some mb)).mono ?_
  rintro e w2 ⟨rfl, rfl⟩
  go_wp2_with fail
  refine cS.mono ?_
  rintro e w3 ⟨v, ks, rfl, hp, ho, hx3⟩
  have hvb : ∀ i, v.ownBlock = some i → w.heap.size ≤ i := fun i hi => by have := (ho.lt i hi).1; have := hx2.size; omega
  have hkl : ks.length ≤ 10000 := by have := hp.length_eq; simp at this; omega
  have hml : (ks.mergeSort fun x y => decide (x ≤ y)).length = ks.length := List.length_mergeSort _
  rw [← hml] at ho
  have hC := compact_any w3 _ v _ (merge_sorted ks) ho (by rw [hml]; omega)
  have hmem : ∀ x, x ∈ (ks.mergeSort fun x y => decide (x ≤ y)) ↔ x ∈ M.map (·.2) := fun x => by
    rw [List.mem_mergeSort]; exact hp.mem_iff
  generalize (ks.mergeSort fun x y => decide (x ≤ y)) = zs at *
  clear ho hp hml cS g0 g1 hkl
  go_wp2_with fail
  refine hC.mono ?_
  rintro e w4 ⟨a, us, c, b, rfl, hsd, hI, hx4⟩
  go_wp2_with fail
  go_ret
  exact ⟨a, us, c, b, rfl, hsd.congr hmem, hI, (hx2.grow hx3).trans hx4 fun i hi h => by have := hvb i h; omega⟩

end Go.Proofs.Ytfjlclloddbkmaa
