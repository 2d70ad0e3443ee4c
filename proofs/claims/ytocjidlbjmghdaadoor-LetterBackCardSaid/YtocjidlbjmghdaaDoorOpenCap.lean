/- A row of runes read, with its room. -/
import Derived.Test.YtocjidlbjmghdaaDoorOpen
namespace Go.Proofs.YtocjidlbjmghdaaDoor
open Go.RowKit Go.Cw Go.ChangeShapes Go.WideShapes Go.ChangeAt Go.Deep

theorem open_rrs_cap {H : Type} {enc : TypeId × Value → H} {P : Program} {W : World} {t e : TypeId} (ht : P.underlying t = some (.slice e)) (he : P.underlying e = some (.int .i32)) (ce : P.cellsOf e = 1)
    {r : Reach} {b0 : Nat} {v : Value} {d : DataW H} {p : List MemPlace} (hval : Value.okWide P W r b0 t v) (h : DataW.Trod enc P W 0 (fun _ => true) true t v d p) :
    ∃ (a : Option Addr) (zs : List Int) (c b off : Nat), v = .slice a zs.length c ∧ RR W a zs b off ∧ zs.length ≤ c := by
  obtain ⟨a0, len, cap, rfl⟩ := okWide_slice ht hval
  obtain ⟨fuel, hf⟩ := h
  rcases open_ints ht he ce hf with ⟨hcs, hx⟩ | ⟨a, len', cap', zs, hcs, _, hl, hm, hz, hx, hcell, hwz⟩
  · simp [Value.cells] at hcs
    obtain ⟨rfl, rfl, rfl⟩ := hcs
    exact ⟨none, [], 0, 0, 0, rfl, ⟨fun h => absurd h (by simp), fun j x hj => by simp at hj⟩, Nat.le_refl _⟩
  · simp [Value.cells] at hcs
    obtain ⟨rfl, rfl, rfl⟩ := hcs
    simp only [if_true] at hz
    obtain ⟨b, off, spot⟩ := a
    have hlen : (zs.take len).length = len := by rw [List.length_take]; omega
    refine ⟨some ⟨b, off, spot⟩, zs.take len, cap, b, off, by rw [hlen], ⟨fun h0 => ?_, fun j x hj => ?_⟩, by rw [hlen]; omega⟩
    · have hs := World.cell?_spot (hcell 0 (by omega))
      simp only [Addr.add, if_true] at hs
      rw [hs]
    · have hjl : j < len := by have := (List.getElem?_eq_some_iff.1 hj).1; omega
      have hs := World.cell?_spot (hcell 0 (by omega))
      simp only [Addr.add, if_true] at hs
      subst hs
      rw [List.getElem?_take, if_pos hjl] at hj
      have hj2 := hcell j (by omega)
      rw [List.getD_eq_getElem?_getD, hj] at hj2
      simpa [add_plain] using hj2
section
variable {H : Type} {enc : TypeId × Value → H} {W : World} {r : Reach} {b0 : Nat} {v : Value} {d : DataW H} {p : List MemPlace}
set_option maxRecDepth 100000 in
theorem runes_of_cap (hval : Value.okWide Tryd.prog W r b0 30 v) (h : DataW.Trod enc Tryd.prog W 0 (fun _ => true) true 30 v d p) :
    ∃ (a : Option Addr) (zs : List Int) (c b off : Nat), v = .slice a zs.length c ∧ RR W a zs b off ∧ zs.length ≤ c := open_rrs_cap Tryd.underlying30 Tryd.underlying21 cellsOf21 hval h
end

end Go.Proofs.YtocjidlbjmghdaaDoor
