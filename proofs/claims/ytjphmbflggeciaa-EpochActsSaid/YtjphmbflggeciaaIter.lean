/- maps.Values over a map of ints as an iterator; slices.Collect of it. -/
import Derived.Test.YtjphmbflggeciaaWalk
import Derived.Test.YtjphmbflggeciaaShelf
import Derived.Shelf.AbstractIn
import Derived.RangeFuncMany
import Derived.RangeFuncLeaves
import Derived.Sort.MapsRangeIn
import Derived.WalkKit
import Derived.OwnWalkIn
import Derived.TacticsInMore
import Derived.RegionIn
import Derived.LoopNIn
import Derived.LoopIn
import Derived.Shelf.Abstract
namespace Go.Proofs.Ytjphmbflggeciaa
open Go.RowKit Go.Cw Go.Maps Go.Shelf

/-- a map's key -/
abbrev Z := { x : Int // (Lit.int .i64 x).wf = true }
def Z.val (x : Z) : Value := .int .i64 x.1
theorem kt3 : KT Try.prog 3 Z.val where
  keyed := Maps.int_keyed Try.underlying3
  some := fun x => ⟨_, Maps.keyOf_int_mk Try.underlying3 x.2⟩
  inj := fun x y h => Subtype.ext (by simpa [Z.val] using h)

set_option maxRecDepth 100000 in
set_option maxHeartbeats 1000000 in
theorem values1 (F : Fence) (n : Nat) (h27 : F.fn 27) (hro : F.round = none) (hn : 1 ≤ n) (l Bm b : Nat) (M : List (Z × Int)) (J : List Int → World → Prop)
    (hY : ∀ pre x W, J pre W → pre.length < M.length → YieldAt F (n - 1) Try.prog l #[encZ x] W fun e W' => e = .returned (.bool true) ∧ J (pre ++ [x]) W' ∧ KeepsWalks W W')
    (W : World) (hJ : AbidesFrom W.heap.size J) (hm : W.cell? ⟨Bm, 0, none⟩ = some (.map (some b))) (hown : MapIs Z.val (Value.int .i64) W b M) (h0 : J [] W) :
    CallsIn F n Try.prog 27 #[.func (.yield l) #[] #[], .pointer (some ⟨Bm, 0, none⟩)] W fun e W' => (∃ v, e = .returned v) ∧ ∃ xs, xs.Perm (M.map (·.2)) ∧ J xs W' := by
  refine callsIn_of_wp Try.func27 rfl h27 ?_ hro
  simp only [Try.ntmps27, List.size_toArray, List.length_cons, List.length_nil, Nat.reduceAdd, Nat.reduceSub, Array.replicate_succ, Array.replicate_zero, List.push_toArray, List.append_toArray, List.nil_append, List.cons_append]
  gi_wp2_with (first
    | (gi_at_range; refine wpListIn_range_is rfl _ rfl Try.underlying49 hown rfl ?_; intro w0 hrg0 hx0 hg0)
    | gi_in)
  go_frame
  gi_loopw [4] (fun _ wr => ∃ (cnt : Nat) (ps : List (Z × Int)), WalkIs Z.val (Value.int .i64) wr b W.heap.size M ps cnt ∧ J (ps.map (·.2)) wr)
    (fun _ wr => wr.rangeLeft b W.heap.size)
  case atStart => exact ⟨_, [], hrg0, hJ [] W w0 none h0 hg0 (fun r e => by cases e)⟩
  case round =>
    obtain ⟨cnt, ps, hrg, hJs⟩ := hrel
    gi_wp2_with (first
      | (gi_at_next; refine wpListIn_next_is rfl _ rfl rfl hrg ?_ ?_)
      | gi_in)
    · intro hperm
      gi_wp2
      go_end0
      exact ⟨⟨_, rfl⟩, _, hperm.map _, hJs⟩
    · intro xv xw c w2 cnt2 hxm hxp hlen hrg2 hlt hx2 hg2 hen
      have hJ2 : J (ps.map (·.2)) w2 := hJ _ wr w2 (some W.heap.size) hJs hg2 (fun r e => by cases e; exact ⟨Nat.le_refl _, hrg.iter_walk⟩)
      obtain ⟨fn, tmps, assign, body, hy, hR⟩ := hY (ps.map (·.2)) c w2 hJ2 (by simpa using hlen)
      unfold Z.val at hen
      clear hx2
      unfold Z.val
      gi_wp2
      refine hR.mono ?_
      rintro e W3 ⟨rfl, hJ3, hk3⟩
      gi_wp2
      have hrg3 := hrg2.of_walks hk3
      go_roundw
      case rel => exact ⟨cnt2, ps ++ [(⟨xv, xw⟩, c)], hrg3, by simpa using hJ3⟩
      case measure => rw [hrg3.left_eq, hrg.left_eq]; exact hlt

end Go.Proofs.Ytjphmbflggeciaa
