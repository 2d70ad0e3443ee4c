/- Arguments read: texts, rows of texts and of runes; the listed variables read; a world for the witness. -/
import Derived.Test.YtocjidlbjmghdaaDoorAwake
import Derived.Test.YtocjidlbjmghdaaDoorCards
import Derived.Test.YtocjidlbjmghdaaDoorTie
import Derived.WalkKit
import Derived.ProofKit
import Derived.OpenShut
import Derived.SliceStrings
import Derived.Deep.Slices
import Derived.Deep.DeepHandedRow
import Derived.Lib.LaidU8T
namespace Go.Proofs.YtocjidlbjmghdaaDoor
open Go.RowKit Go.Cw Go.ChangeShapes Go.WideShapes Go.ChangeAt Go.Deep

theorem Tryd.own : ownKnob Tryd.prog.godebug = none := by kernel_rfl
theorem Tryd.laidOut : laidOutB Tryd.prog = true := by kernel_rfl

theorem u8types : U8Types Tryd.prog lays230_ren := ⟨Tryd.underlying5, Tryd.underlying166, Tryd.underlying168, Tryd.underlying169⟩
theorem u8extra : U8Extra Tryd.prog lays230_ren := ⟨by kernel_rfl, by kernel_rfl, by kernel_rfl, by kernel_rfl, by kernel_rfl, by kernel_rfl, by kernel_rfl⟩
def laid2 : List (String × DataW Unit) := [("unicode/utf8.acceptRanges", Rows.laid_unicode_utf8_acceptRanges), ("unicode/utf8.first", Rows.laid_unicode_utf8_first)]
theorem accept_eq : (Rows.laid_unicode_utf8_acceptRanges : DataW Unit) = Lib.acceptData := by kernel_rfl
theorem first_eq : Rows.laid_unicode_utf8_first = Lib.firstData := by kernel_rfl
theorem tabs_of {W : World} (h : laidMetH Tryd.prog laid2 W) : Lib.Utf8Tabs 1 2 W := by
  unfold laid2 at h
  rw [accept_eq, first_eq] at h
  exact utf8Tabs_of_readsT u8types u8extra (Lib.laidMet.reads h (by simp)) (Lib.laidMet.reads h (by simp))

theorem wf_i64 {z : Int} (h : (Lit.int IntKind.i64 z).wf = true) : -9223372036854775808 ≤ z ∧ z ≤ 9223372036854775807 := by
  have h' : IntKind.i64.min ≤ z ∧ z ≤ IntKind.i64.max := by simpa [Lit.wf] using h
  exact h'
theorem wf_i32 {z : Int} (h : (Lit.int IntKind.i32 z).wf = true) : -2147483648 ≤ z ∧ z ≤ 2147483647 := by
  have h' : IntKind.i32.min ≤ z ∧ z ≤ IntKind.i32.max := by simpa [Lit.wf] using h
  exact h'
theorem open_srs {H : Type} {enc : TypeId × Value → H} {P : Program} {W : World} {t e : TypeId} (ht : P.underlying t = some (.slice e)) (he : P.underlying e = some .string) (ce : P.cellsOf e = 1)
    {r : Reach} {b0 : Nat} {v : Value} {d : DataW H} {p : List MemPlace} (hval : Value.okWide P W r b0 t v) (h : DataW.Trod enc P W 0 (fun _ => true) true t v d p) :
    ∃ (a : Option Addr) (ss : List ByteArray) (c b off : Nat), v = .slice a ss.length c ∧ SR W a ss b off := by
  obtain ⟨a0, len, cap, rfl⟩ := okWide_slice ht hval
  obtain ⟨fuel, hf⟩ := h
  rcases open_strings ht he ce hf with ⟨hcs, hx⟩ | ⟨a, len', cap', zs, hcs, _, hl, hm, hz, hx, hcell, hwz⟩
  · simp [Value.cells] at hcs
    obtain ⟨rfl, rfl, rfl⟩ := hcs
    exact ⟨none, [], 0, 0, 0, rfl, ⟨fun h => absurd h (by simp), fun j x hj => by simp at hj⟩⟩
  · simp [Value.cells] at hcs
    obtain ⟨rfl, rfl, rfl⟩ := hcs
    simp only [if_true] at hz
    obtain ⟨b, off, spot⟩ := a
    have hlen : (zs.take len).length = len := by rw [List.length_take]; omega
    refine ⟨some ⟨b, off, spot⟩, zs.take len, cap, b, off, by rw [hlen], ⟨fun h0 => ?_, fun j x hj => ?_⟩⟩
    · have hs := World.cell?_spot (hcell 0 (by omega))
      simp only [Addr.add, if_true] at hs
      rw [hs]
    · have hjl : j < len := by have := (List.getElem?_eq_some_iff.1 hj).1; omega
      have hs := World.cell?_spot (hcell 0 (by omega))
      simp only [Addr.add, if_true] at hs
      subst hs
      rw [List.getElem?_take, if_pos hjl] at hj
      have hj2 := hcell j (by omega)
      rw [List.getD_eq_getElem?_getD, hj] at hj2
      simpa [add_plain] using hj2
theorem open_rrs {H : Type} {enc : TypeId × Value → H} {P : Program} {W : World} {t e : TypeId} (ht : P.underlying t = some (.slice e)) (he : P.underlying e = some (.int .i32)) (ce : P.cellsOf e = 1)
    {r : Reach} {b0 : Nat} {v : Value} {d : DataW H} {p : List MemPlace} (hval : Value.okWide P W r b0 t v) (h : DataW.Trod enc P W 0 (fun _ => true) true t v d p) :
    ∃ (a : Option Addr) (zs : List Int) (c b off : Nat), v = .slice a zs.length c ∧ RR W a zs b off ∧ ∀ z ∈ zs, -2147483648 ≤ z ∧ z ≤ 2147483647 := by
  obtain ⟨a0, len, cap, rfl⟩ := okWide_slice ht hval
  obtain ⟨fuel, hf⟩ := h
  rcases open_ints ht he ce hf with ⟨hcs, hx⟩ | ⟨a, len', cap', zs, hcs, _, hl, hm, hz, hx, hcell, hwz⟩
  · simp [Value.cells] at hcs
    obtain ⟨rfl, rfl, rfl⟩ := hcs
    exact ⟨none, [], 0, 0, 0, rfl, ⟨fun h => absurd h (by simp), fun j x hj => by simp at hj⟩, by simp⟩
  · simp [Value.cells] at hcs
    obtain ⟨rfl, rfl, rfl⟩ := hcs
    simp only [if_true] at hz
    obtain ⟨b, off, spot⟩ := a
    have hlen : (zs.take len).length = len := by rw [List.length_take]; omega
    refine ⟨some ⟨b, off, spot⟩, zs.take len, cap, b, off, by rw [hlen], ⟨fun h0 => ?_, fun j x hj => ?_⟩, fun z hz => ?_⟩
    · have hs := World.cell?_spot (hcell 0 (by omega))
      simp only [Addr.add, if_true] at hs
      rw [hs]
    · have hjl : j < len := by have := (List.getElem?_eq_some_iff.1 hj).1; omega
      have hs := World.cell?_spot (hcell 0 (by omega))
      simp only [Addr.add, if_true] at hs
      subst hs
      rw [List.getElem?_take, if_pos hjl] at hj
      have hj2 := hcell j (by omega)
      rw [List.getD_eq_getElem?_getD, hj] at hj2
      simpa [add_plain] using hj2
    · have := hwz z (List.mem_of_mem_take hz)
      exact wf_i32 this
theorem cellsOf9 : Tryd.prog.cellsOf 9 = 1 := by kernel_rfl
theorem cellsOf21 : Tryd.prog.cellsOf 21 = 1 := by kernel_rfl
section
variable {H : Type} {enc : TypeId × Value → H} {W : World} {r : Reach} {b0 : Nat} {v : Value} {d : DataW H} {p : List MemPlace}
set_option maxRecDepth 100000 in
theorem strs_of (hval : Value.okWide Tryd.prog W r b0 22 v) (h : DataW.Trod enc Tryd.prog W 0 (fun _ => true) true 22 v d p) :
    ∃ (a : Option Addr) (ss : List ByteArray) (c b off : Nat), v = .slice a ss.length c ∧ SR W a ss b off := open_srs Tryd.underlying22 Tryd.underlying9 cellsOf9 hval h
set_option maxRecDepth 100000 in
theorem runes_of (hval : Value.okWide Tryd.prog W r b0 30 v) (h : DataW.Trod enc Tryd.prog W 0 (fun _ => true) true 30 v d p) :
    ∃ (a : Option Addr) (zs : List Int) (c b off : Nat), v = .slice a zs.length c ∧ RR W a zs b off ∧ ∀ z ∈ zs, -2147483648 ≤ z ∧ z ≤ 2147483647 := open_rrs Tryd.underlying30 Tryd.underlying21 cellsOf21 hval h
end

/-- a world for the witness: the settled one, the two tables (blocks 1, 2) holding what is listed -/
def setTab (c : Array Value) : Obj → Obj
  | .cells _ t frozen => .cells c t frozen
  | o => o
set_option maxRecDepth 100000 in
def tab1 : Array Value := ((List.range 256).map fun c => Value.int .u8 (Lib.firstT c)).toArray
set_option maxRecDepth 100000 in
def tab2 : Array Value := ((List.range 16).flatMap fun i => [Value.int .u8 (Lib.accLo i), Value.int .u8 (Lib.accHi i)]).toArray
noncomputable def laidWorld (os : Os) : World :=
  { World.holding Tryd.prog os ⟨#[], #[], []⟩ with heap := ((World.holding Tryd.prog os ⟨#[], #[], []⟩).heap.modify 1 (setTab tab1)).modify 2 (setTab tab2) }
theorem laid_met (os : Os) (args : Array Value) : laidMet Tryd.prog laid2 ((laidWorld os).forCall (fun _ _ => 0) ⟨#[], args, []⟩).memory :=
  laidMet_of_run' 8 (by kernel_rfl) (by kernel_rfl)

end Go.Proofs.YtocjidlbjmghdaaDoor
