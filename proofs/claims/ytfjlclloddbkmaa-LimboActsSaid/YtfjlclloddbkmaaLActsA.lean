/- What the walk of LimboActs wants beside the contracts. -/
import Derived.Test.YtfjlclloddbkmaaLRef2
import Derived.Test.YtfjlclloddbkmaaLRef3
import Derived.Test.YtfjlclloddbkmaaLRef4
import Derived.Deep.CutBlock
import Derived.BigQuiet
import Derived.Deep.QuietTactic
namespace Go.Proofs.Ytfjlclloddbkmaa
open Go.RowKit Go.Cw

theorem LimboIs.keep {w w' : World} {base g mb : Nat} {rv : Value} {row : List K} {M : List (K × Int)} (h : LimboIs w base g mb rv row M) (hx : Ext (Foot g mb rv) w w') {b : Nat} {c : Array Value} {t : TypeId} {f : Nat × Nat} (hb : w.heap[b]? = some (.cells c t f)) (h1 : t ≠ 54) (h2 : t ≠ 30) :
    w'.heap[b]? = some (.cells c t f) :=
  hx.blk hb fun hf => by
    rcases hf with rfl | rfl | hf
    · have := h.blk; rw [hb] at this; cases this; exact h1 rfl
    · exact h.map.ne_cells hb rfl
    · exact h.own.ne_blk hb h2 hf
theorem RefIs.keep {w w' : World} {base f : Nat} {sv : Value} {L : List (K × Int)} (h : RefIs w base f sv L) (hx : Ext (RFoot f sv) w w') {b : Nat} {c : Array Value} {t : TypeId} {fl : Nat × Nat} (hb : w.heap[b]? = some (.cells c t fl)) (h1 : t ≠ 44) (h2 : t ≠ 49) :
    w'.heap[b]? = some (.cells c t fl) :=
  hx.blk hb fun hf => by
    rcases hf with rfl | hf
    · have := h.blk; rw [hb] at this; cases this; exact h1 rfl
    · exact h.own.ne_blk hb h2 hf
theorem GOwn.ne_map {α : Type} {cl : α → List Value} {e n : Nat} {w : World} {base mb : Nat} {v : Value} {xs : List α} {M : List (K × Int)} (h : GOwn cl e n w base v xs) (hm : MapIs K.val (Value.int .i64) w mb M) : v.ownBlock ≠ some mb := by
  intro e
  rcases h.2 with ⟨rfl, _⟩ | ⟨g, cap, cur, rfl, _, hgg, _⟩
  · cases e
  · cases e; exact hm.ne_cells hgg rfl
theorem apart_blocks {w : World} {base base' g mb f : Nat} {rv sv : Value} {row : List K} {M L : List (K × Int)} (h : LimboIs w base g mb rv row M) (hR : RefIs w base' f sv L) {b : Nat} (h1 : Foot g mb rv b) (h2 : RFoot f sv b) : False := by
  rcases h1 with rfl | rfl | h1 <;> rcases h2 with h2 | h2
  · subst h2; have := h.blk; rw [hR.blk] at this; cases this
  · exact hR.own.ne_blk h.blk (by decide) h2
  · subst h2; exact h.map.ne_cells hR.blk rfl
  · exact hR.own.ne_map h.map h2
  · subst h2; exact h.own.ne_blk hR.blk (by decide) h1
  · exact h.own.ne_g hR.own (by decide) h1 h2
theorem LimboIs.over {w w' : World} {base base' g mb f : Nat} {rv sv : Value} {row : List K} {M L : List (K × Int)} (h : LimboIs w base g mb rv row M) (hR : RefIs w base' f sv L) (hx : Ext (RFoot f sv) w w') : LimboIs w' base g mb rv row M :=
  h.ext hx fun _ h1 h2 => apart_blocks h hR h1 h2
theorem RefIs.over {w w' : World} {base base' g mb f : Nat} {rv sv : Value} {row : List K} {M L : List (K × Int)} (hR : RefIs w base' f sv L) (h : LimboIs w base g mb rv row M) (hx : Ext (Foot g mb rv) w w') : RefIs w' base' f sv L :=
  hR.ext hx fun _ h1 h2 => apart_blocks h hR h2 h1
noncomputable def rrets (e : Int) (L : List (K × Int)) (xs : List K) : List (K × Int) := xs.foldl (rret e) L
theorem rrets_succ (e : Int) (L : List (K × Int)) {xs : List K} {k : Nat} {x : K} (h : xs[k]? = some x) : rrets e L (xs.take (k + 1)) = rret e (rrets e L (xs.take k)) x := by
  obtain ⟨hl, rfl⟩ := List.getElem?_eq_some_iff.1 h
  unfold rrets
  rw [List.take_succ_eq_append_getElem hl, List.foldl_append]; rfl
theorem Sm.rets {row : List K} {M L : List (K × Int)} (h : Sm row M L) (e : Int) (xs : List K) : Sm (rets e (row, M) xs).1 (rets e (row, M) xs).2 (rrets e L xs) := by
  induction xs generalizing row M L with
  | nil => exact h
  | cons x xs ih =>
    have h1 := h.ret1 e x
    have := ih h1
    exact this
theorem len_q (w : World) (base g mb : Nat) (rv : Value) (row : List K) (M : List (K × Int)) (hL : LimboIs w base g mb rv row M) :
    Calls Try.prog 10 #[.pointer (some ⟨g, 0, none⟩)] w fun e w' => e = .returned (.int .i64 row.length) ∧ w' = w :=
  (len_any w base g mb rv row M hL).mono fun _ _ h => ⟨h.1, h.2.symm⟩
theorem Sm.mlen {row : List K} {M L : List (K × Int)} (h : Sm row M L) : M.length = L.length := by
  have := (perm_of_nodup h.ndm h.nd fun x => by
    simp only [List.mem_map]
    constructor
    · rintro ⟨⟨y, u⟩, hy, rfl⟩
      exact ⟨(y, u), (h.get y u).1 (mget_mem h.ndm hy), rfl⟩
    · rintro ⟨⟨y, u⟩, hy, rfl⟩
      exact ⟨(y, u), mem_of_mget ((h.get y u).2 hy), rfl⟩).length_eq
  simpa using this
/-- the Act's block, as it is -/
def AF (ab : Nat) (x : A) (u : World) : Prop := u.heap[ab]? = some (.cells #[.int .i64 x.kind, .int .i64 x.n, .slice x.a x.ks.length x.c] 38 (0, 0))
theorem cells3 {w : World} {b : Nat} {c0 c1 c2 : Value} {e : TypeId} {f : Nat × Nat} (hb : w.heap[b]? = some (.cells #[c0, c1, c2] e f)) : w.cell? ⟨b, 0, none⟩ = some c0 ∧ w.cell? ⟨b, 1, none⟩ = some c1 ∧ w.cell? ⟨b, 2, none⟩ = some c2 := by
  refine ⟨?_, ?_, ?_⟩ <;> (rw [cell_of hb]; rfl)

end Go.Proofs.Ytfjlclloddbkmaa
