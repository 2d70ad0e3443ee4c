/- Rows of bytes and of values handed in, read. -/
import Derived.Test.YtocjidlbjmghdaaDoorVOpen
import Derived.Deep.Slices
namespace Go.Proofs.YtocjidlbjmghdaaDoor
open Go.RowKit Go.Cw Go.ChangeShapes Go.WideShapes Go.ChangeAt Go.Deep

theorem wf_u8 {z : Int} (h : (Lit.int IntKind.u8 z).wf = true) : 0 ≤ z ∧ z ≤ 255 := by
  have h' : IntKind.u8.min ≤ z ∧ z ≤ IntKind.u8.max := by simpa [Lit.wf] using h
  exact h'
theorem u8_of {z : Int} (h : 0 ≤ z ∧ z ≤ 255) : ((z.toNat.toUInt8).toNat : Int) = z := by
  rw [u8nat (by omega)]; omega
theorem open_us_cap {H : Type} {enc : TypeId × Value → H} {P : Program} {W : World} {t e : TypeId} (ht : P.underlying t = some (.slice e)) (he : P.underlying e = some (.int .u8)) (ce : P.cellsOf e = 1)
    {r : Reach} {b0 : Nat} {v : Value} {d : DataW H} {p : List MemPlace} (hval : Value.okWide P W r b0 t v) (h : DataW.Trod enc P W 0 (fun _ => true) true t v d p) :
    ∃ (a : Option Addr) (bs : List UInt8) (c b off : Nat), v = .slice a bs.length c ∧ UR W a bs b off ∧ bs.length ≤ c ∧ (a = none → c = 0) := by
  obtain ⟨a0, len, cap, rfl⟩ := okWide_slice ht hval
  obtain ⟨fuel, hf⟩ := h
  rcases open_ints ht he ce hf with ⟨hcs, hx⟩ | ⟨a, len', cap', zs, hcs, _, hl, hm, hz, hx, hcell, hwz⟩
  · simp [Value.cells] at hcs
    obtain ⟨rfl, rfl, rfl⟩ := hcs
    exact ⟨none, [], 0, 0, 0, rfl, ⟨fun h => absurd h (by simp), fun j x hj => by simp at hj⟩, Nat.le_refl _, fun _ => rfl⟩
  · simp [Value.cells] at hcs
    obtain ⟨rfl, rfl, rfl⟩ := hcs
    simp only [if_true] at hz
    obtain ⟨b, off, spot⟩ := a
    have hlen : ((zs.take len).map fun z => z.toNat.toUInt8).length = len := by rw [List.length_map, List.length_take]; omega
    refine ⟨some ⟨b, off, spot⟩, (zs.take len).map fun z => z.toNat.toUInt8, cap, b, off, by rw [hlen], ⟨fun h0 => ?_, fun j x hj => ?_⟩, by rw [hlen]; omega, fun h => by cases h⟩
    · have hs := World.cell?_spot (hcell 0 (by omega))
      simp only [Addr.add, if_true] at hs
      rw [hs]
    · have hjl : j < len := by have := (List.getElem?_eq_some_iff.1 hj).1; omega
      have hs := World.cell?_spot (hcell 0 (by omega))
      simp only [Addr.add, if_true] at hs
      subst hs
      rw [List.getElem?_map, List.getElem?_take, if_pos hjl] at hj
      have hj2 := hcell j (by omega)
      obtain ⟨z, hz1⟩ : ∃ z, zs[j]? = some z := ⟨_, List.getElem?_eq_getElem (by omega)⟩
      rw [hz1] at hj
      simp only [Option.map_some, Option.some.injEq] at hj
      rw [List.getD_eq_getElem?_getD, hz1] at hj2
      rw [← hj, u8_of (wf_u8 (hwz z (List.mem_of_getElem? hz1)))]
      simpa [add_plain] using hj2

theorem open_vals {H : Type} {enc : TypeId × Value → H} {P : Program} {W : World} {t e : TypeId} {f0 f1 f2 : Field} (ht : P.underlying t = some (.slice e)) (he : P.underlying e = some (.struct #[f0, f1, f2])) (ce : P.cellsOf e = 3)
    (o0 : f0.offset = 0) (o1 : f1.offset = 1) (o2 : f2.offset = 2) (c0 : P.cellsOf f0.type = 1) (c1 : P.cellsOf f1.type = 1) (c2 : P.cellsOf f2.type = 1)
    (u0 : P.underlying f0.type = some (.int .i64)) (u1 : P.underlying f1.type = some (.int .i64)) (u2 : P.underlying f2.type = some .string)
    {r : Reach} {b0 : Nat} {v : Value} {d : DataW H} {p : List MemPlace} (hval : Value.okWide P W r b0 t v) (h : DataW.Trod enc P W 0 (fun _ => true) true t v d p) :
    ∃ (a : Option Addr) (xs : List Vl) (c b off : Nat), v = .slice a xs.length c ∧ VR W a xs b off ∧ ∀ x ∈ xs, -9223372036854775808 ≤ x.n ∧ x.n ≤ 9223372036854775807 := by
  obtain ⟨a0, len, cap, rfl⟩ := okWide_slice ht hval
  obtain ⟨fuel, hf⟩ := h
  rcases open_slice ht hf with ⟨hcs, hx⟩ | ⟨a, len', cap', m, n, D, Pl, hcs, _, hl, hm, hmm, hx, hel⟩
  · simp [Value.cells] at hcs
    obtain ⟨rfl, rfl, rfl⟩ := hcs
    exact ⟨none, [], 0, 0, 0, rfl, ⟨fun h => absurd h (by simp), fun j x hj => by simp at hj⟩, fun x hx => by cases hx⟩
  · simp [Value.cells] at hcs
    obtain ⟨rfl, rfl, rfl⟩ := hcs
    simp only [if_true] at hmm
    have each : ∀ i, i < len → ∃ x : Vl, (W.cell? (a.add (i * 3)) = some (.int .i64 x.k) ∧ W.cell? (a.add (i * 3 + 1)) = some (.int .i64 x.n) ∧ W.cell? (a.add (i * 3 + 2)) = some (.string x.s)) ∧ (-9223372036854775808 ≤ x.n ∧ x.n ≤ 9223372036854775807) := by
      intro i hi
      obtain ⟨cs', h1, h2⟩ := hel i (by omega)
      rw [ce] at h1
      obtain ⟨_, hlen, hcell⟩ := World.cells?_some h1
      obtain ⟨xs, k, hk, hxy, _, hxl, hf⟩ := DataW.trod_struct he h2
      match xs, hxl, cs', hlen with
      | [y0, y1, y2], _, [v0, v1, v2], _ =>
        have g0 := hf 0 f0 rfl
        have g1 := hf 1 f1 rfl
        have g2 := hf 2 f2 rfl
        simp [o0, o1, o2, c0, c1, c2] at g0 g1 g2
        have e0 := hcell 0 (by omega)
        have e1 := hcell 1 (by omega)
        have e2 := hcell 2 (by omega)
        rw [add_add] at e0 e1 e2
        obtain ⟨n0, q0, _, w0⟩ := DataW.trod_int u0 g0
        obtain ⟨n1, q1, _, w1⟩ := DataW.trod_int u1 g1
        obtain ⟨s, q2, _, w2⟩ := DataW.trod_string u2 g2
        simp only [List.cons.injEq, and_true] at q0 q1 q2
        subst q0 q1 q2
        exact ⟨⟨n0, n1, s⟩, ⟨by simpa using e0, by simpa using e1, by simpa using e2⟩, wf_i64 w1⟩
    obtain ⟨f, hff⟩ : ∃ f : Nat → Vl, ∀ i, i < len → (W.cell? (a.add (i * 3)) = some (.int .i64 (f i).k) ∧ W.cell? (a.add (i * 3 + 1)) = some (.int .i64 (f i).n) ∧ W.cell? (a.add (i * 3 + 2)) = some (.string (f i).s)) ∧ (-9223372036854775808 ≤ (f i).n ∧ (f i).n ≤ 9223372036854775807) :=
      ⟨fun i => if h : i < len then Classical.choose (each i h) else ⟨0, 0, ⟨#[]⟩⟩, fun i hi => by simp only [hi, dite_true]; exact Classical.choose_spec (each i hi)⟩
    obtain ⟨b, off, spot⟩ := a
    refine ⟨some ⟨b, off, spot⟩, (List.range len).map f, cap, b, off, by simp, ⟨fun h0 => ?_, fun j x hj => ?_⟩, fun x hx => ?_⟩
    · have hs := World.cell?_spot (hff 0 (by simpa using h0)).1.1
      simp only [Nat.zero_mul, Addr.add, if_true] at hs
      rw [hs]
    · have hjl : j < len := by have := (List.getElem?_eq_some_iff.1 hj).1; simpa using this
      have hs := World.cell?_spot (hff 0 (by omega)).1.1
      simp only [Nat.zero_mul, Addr.add, if_true] at hs
      subst hs
      rw [List.getElem?_map, List.getElem?_range hjl] at hj
      simp only [Option.map_some, Option.some.injEq] at hj
      subst hj
      simpa [add_plain, Nat.add_assoc] using (hff j hjl).1
    · obtain ⟨i, hi, rfl⟩ := List.mem_map.1 hx
      exact (hff i (List.mem_range.1 hi)).2
theorem cellsOf5 : Tryd.prog.cellsOf 5 = 1 := by kernel_rfl
section
variable {H : Type} {enc : TypeId × Value → H} {W : World} {r : Reach} {b0 : Nat} {v : Value} {d : DataW H} {p : List MemPlace}
set_option maxRecDepth 100000 in
theorem bytes_of (hval : Value.okWide Tryd.prog W r b0 51 v) (h : DataW.Trod enc Tryd.prog W 0 (fun _ => true) true 51 v d p) :
    ∃ (a : Option Addr) (bs : List UInt8) (c b off : Nat), v = .slice a bs.length c ∧ UR W a bs b off ∧ bs.length ≤ c ∧ (a = none → c = 0) := open_us_cap Tryd.underlying51 Tryd.underlying5 cellsOf5 hval h
set_option maxRecDepth 100000 in
theorem vals_of (hval : Value.okWide Tryd.prog W r b0 74 v) (h : DataW.Trod enc Tryd.prog W 0 (fun _ => true) true 74 v d p) :
    ∃ (a : Option Addr) (xs : List Vl) (c b off : Nat), v = .slice a xs.length c ∧ VR W a xs b off ∧ ∀ x ∈ xs, -9223372036854775808 ≤ x.n ∧ x.n ≤ 9223372036854775807 :=
  open_vals Tryd.underlying74 Tryd.underlying49 (by kernel_rfl) (by kernel_rfl) (by kernel_rfl) (by kernel_rfl) (by kernel_rfl) (by kernel_rfl) (by kernel_rfl) Tryd.underlying3 Tryd.underlying3 Tryd.underlying9 hval h
end

end Go.Proofs.YtocjidlbjmghdaaDoor
