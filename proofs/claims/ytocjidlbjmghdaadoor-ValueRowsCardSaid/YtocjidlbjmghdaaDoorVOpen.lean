/- The value rows' listed variables read; a value handed in, read; a world for the witness. -/
import Derived.Test.YtocjidlbjmghdaaDoorOpen
import Derived.Test.YtocjidlbjmghdaaDoorVShelf
import Derived.Lib.LaidTab
import Derived.Lib.SmallJoins
namespace Go.Proofs.YtocjidlbjmghdaaDoor
open Go.RowKit Go.Cw Go.ChangeShapes Go.WideShapes Go.ChangeAt Go.Deep

def laid5 : List (String × DataW Unit) := [("math/bits.deBruijn32tab", Rows.laid_math_bits_deBruijn32tab), ("math/bits.deBruijn64tab", Rows.laid_math_bits_deBruijn64tab), ("internal/strconv.uint64pow10", Rows.laid_internal_strconv_uint64pow10), ("strconv.ErrRange", Rows.laid_strconv_ErrRange), ("strconv.ErrSyntax", Rows.laid_strconv_ErrSyntax)]
theorem pow10_eq : (Rows.laid_internal_strconv_uint64pow10 : DataW Unit) = Lib.tabData .u64 Lib.pow10Tab := by kernel_rfl
theorem err_cell {W : World} {n : String} {nm : String} {d : DataW Unit} {g : Nat} (hg : Tryd.prog.globalNamed n = some g) (ht : (Tryd.prog.globals[g]?).map (·.type) = some 97) (h : Lib.VarReads Tryd.prog W n (.iface nm d)) :
    ∃ te pe, W.cell? ⟨g, 0, none⟩ = some (.iface te pe) := by
  obtain ⟨g', t, cs, fuel, p, hg', hty, hvar, hd⟩ := h
  obtain rfl := Option.some.inj (hg.symm.trans hg')
  obtain rfl := Option.some.inj (ht.symm.trans hty)
  obtain ⟨_, u, v, hcs, _, _⟩ := iface_of_trod Tryd.underlying97 hd
  refine ⟨u, v, ?_⟩
  rw [World.var?_cell hg hvar 0, ← Array.getElem?_toList, hcs]
  rfl
theorem nums_of {W : World} (h : laidMetH Tryd.prog laid5 W) : Nums W := by
  have h' : laidMet Tryd.prog laid5 W := h
  unfold laid5 at h'
  rw [pow10_eq] at h'
  have hs := fun n d hm => Lib.laidMet.reads h' (n := n) (d := d) hm
  refine ⟨?_, err_cell (by kernel_rfl) (by kernel_rfl) (hs _ _ (List.mem_cons_of_mem _ (List.mem_cons_of_mem _ (List.mem_cons_of_mem _ (List.mem_cons_of_mem _ (List.mem_cons_self)))))), err_cell (by kernel_rfl) (by kernel_rfl) (hs _ _ (List.mem_cons_of_mem _ (List.mem_cons_of_mem _ (List.mem_cons_of_mem _ (List.mem_cons_self)))))⟩
  obtain ⟨g, t, cs, fuel, p, hg, hty, hvar, hd⟩ := Lib.laidMet.reads h' (n := "internal/strconv.uint64pow10") (d := Lib.tabData .u64 Lib.pow10Tab) (by simp)
  obtain rfl := Option.some.inj ((show Tryd.prog.globalNamed "internal/strconv.uint64pow10" = some 5 by kernel_rfl).symm.trans hg)
  obtain rfl := Option.some.inj ((show (Tryd.prog.globals[5]?).map (·.type) = some 188 by kernel_rfl).symm.trans hty)
  unfold Lib.TabIs
  rw [hvar, ← Lib.cells_of_tab Tryd.underlying188 Tryd.underlying106 (by kernel_rfl) (by kernel_rfl) hd]

section
variable {H : Type} {enc : TypeId × Value → H} {W : World} {r : Reach} {b0 : Nat} {v : Value} {d : DataW H} {p : List MemPlace}
set_option maxRecDepth 100000 in
theorem vl_of (hval : Value.okWide Tryd.prog W r b0 49 v) (h : DataW.Trod enc Tryd.prog W 0 (fun _ => true) true 49 v d p) :
    ∃ x : Vl, v = x.val ∧ (-9223372036854775808 ≤ x.n ∧ x.n ≤ 9223372036854775807) ∧ (-9223372036854775808 ≤ x.k ∧ x.k ≤ 9223372036854775807) ∧ x.s.size ≤ maxLen := by
  obtain ⟨v0, v1, v2, y0, y1, y2, n, rfl, _, _, h0, h1, h2⟩ := Go.Joins.open_agg3 Tryd.underlying49 (by kernel_rfl) (by kernel_rfl) hval h
  obtain ⟨k, e0, _, wk⟩ := DataW.trod_int Tryd.underlying3 h0
  obtain ⟨n', e1, _, wn⟩ := DataW.trod_int Tryd.underlying3 h1
  obtain ⟨s, e2, _, ws⟩ := DataW.trod_string Tryd.underlying9 h2
  obtain rfl := List.cons.inj e0 |>.1
  obtain rfl := List.cons.inj e1 |>.1
  obtain rfl := List.cons.inj e2 |>.1
  exact ⟨⟨k, n', s⟩, rfl, wf_i64 wn, wf_i64 wk, ws⟩
end

/-- a listed array's cells -/
def litCells : DataW Unit → Array Value
  | .agg l => (l.map fun | .lit (.int k z) => Value.int k z | _ => undef).toArray
  | _ => #[]
def errRangeText : ByteArray := ⟨#[118, 97, 108, 117, 101, 32, 111, 117, 116, 32, 111, 102, 32, 114, 97, 110, 103, 101]⟩
def errSyntaxText : ByteArray := ⟨#[105, 110, 118, 97, 108, 105, 100, 32, 115, 121, 110, 116, 97, 120]⟩
noncomputable def laidWorld5 (os : Os) : World :=
  { World.holding Tryd.prog os ⟨#[], #[], []⟩ with heap :=
    ((((((World.holding Tryd.prog os ⟨#[], #[], []⟩).heap.modify 6 (setTab (litCells Rows.laid_math_bits_deBruijn32tab))).modify 7 (setTab (litCells Rows.laid_math_bits_deBruijn64tab))).modify 5 (setTab (litCells Rows.laid_internal_strconv_uint64pow10))).modify 4 (setTab #[.iface 184 (.pointer (some ⟨13, 0, none⟩))])).modify 3 (setTab #[.iface 184 (.pointer (some ⟨14, 0, none⟩))])).push (.cells #[.string errRangeText] 186 (0, 0)) |>.push (.cells #[.string errSyntaxText] 186 (0, 0)) }
theorem laid_met5 (os : Os) (args : Array Value) : laidMet Tryd.prog laid5 ((laidWorld5 os).forCall (fun _ _ => 0) ⟨#[], args, []⟩).memory :=
  laidMet_of_run' 8 (by kernel_rfl) (by kernel_rfl)

end Go.Proofs.YtocjidlbjmghdaaDoor
