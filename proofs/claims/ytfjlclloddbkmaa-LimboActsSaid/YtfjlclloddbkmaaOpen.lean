/- Arguments read: a slice of keys, a slice of ints. -/
import Derived.Test.YtfjlclloddbkmaaOnceLong
import Derived.ProofKit
import Derived.Deep.Slices
namespace Go.Proofs.Ytfjlclloddbkmaa
open Go.RowKit Go.Cw Go.ChangeShapes Go.WideShapes Go.Deep

noncomputable instance : Inhabited K := ⟨⟨0, 0, 0, .empty, by decide, by decide, by decide, by decide⟩⟩

theorem open_keys {H : Type} {enc : TypeId × Value → H} {P : Program} {W : World} {t e : TypeId} {f0 f1 f2 f3 : Field} (ht : P.underlying t = some (.slice e)) (he : P.underlying e = some (.struct #[f0, f1, f2, f3])) (ce : P.cellsOf e = 4)
    (o0 : f0.offset = 0) (o1 : f1.offset = 1) (o2 : f2.offset = 2) (o3 : f3.offset = 3) (c0 : P.cellsOf f0.type = 1) (c1 : P.cellsOf f1.type = 1) (c2 : P.cellsOf f2.type = 1) (c3 : P.cellsOf f3.type = 1)
    (u0 : P.underlying f0.type = some (.int .i64)) (u1 : P.underlying f1.type = some (.int .i64)) (u2 : P.underlying f2.type = some (.int .i64)) (u3 : P.underlying f3.type = some .string)
    {r : Reach} {b0 : Nat} {v : Value} {d : DataW H} {p : List MemPlace} (hval : Value.okWide P W r b0 t v) (h : DataW.Trod enc P W 0 (fun _ => true) true t v d p) :
    ∃ (a : Option Addr) (ks : List K) (c b off : Nat), v = .slice a ks.length c ∧ KR W a ks b off := by
  obtain ⟨a0, len, cap, rfl⟩ := okWide_slice ht hval
  obtain ⟨fuel, hf⟩ := h
  rcases open_slice ht hf with ⟨hcs, hx⟩ | ⟨a, len', cap', m, n, D, Pl, hcs, _, hl, hm, hmm, hx, hel⟩
  · simp [Value.cells] at hcs
    obtain ⟨rfl, rfl, rfl⟩ := hcs
    exact ⟨none, [], 0, 0, 0, rfl, ⟨fun h => absurd h (by simp), fun j x hj => by simp at hj⟩⟩
  · simp [Value.cells] at hcs
    obtain ⟨rfl, rfl, rfl⟩ := hcs
    simp only [if_true] at hmm
    have each : ∀ i, i < len → ∃ x : K, W.cell? (a.add (i * 4)) = some (.int .i64 x.k) ∧ W.cell? (a.add (i * 4 + 1)) = some (.int .i64 x.a) ∧ W.cell? (a.add (i * 4 + 2)) = some (.int .i64 x.b) ∧ W.cell? (a.add (i * 4 + 3)) = some (.string x.s) := by
      intro i hi
      obtain ⟨cs', h1, h2⟩ := hel i (by omega)
      rw [ce] at h1
      obtain ⟨_, hlen, hcell⟩ := World.cells?_some h1
      obtain ⟨xs, k, hk, hxy, _, hxl, hf⟩ := DataW.trod_struct he h2
      match xs, hxl, cs', hlen with
      | [y0, y1, y2, y3], _, [v0, v1, v2, v3], _ =>
        have g0 := hf 0 f0 rfl
        have g1 := hf 1 f1 rfl
        have g2 := hf 2 f2 rfl
        have g3 := hf 3 f3 rfl
        simp [o0, o1, o2, o3, c0, c1, c2, c3] at g0 g1 g2 g3
        have e0 := hcell 0 (by omega)
        have e1 := hcell 1 (by omega)
        have e2 := hcell 2 (by omega)
        have e3 := hcell 3 (by omega)
        rw [add_add] at e0 e1 e2 e3
        obtain ⟨n0, q0, _, w0⟩ := DataW.trod_int u0 g0
        obtain ⟨n1, q1, _, w1⟩ := DataW.trod_int u1 g1
        obtain ⟨n2, q2, _, w2⟩ := DataW.trod_int u2 g2
        obtain ⟨s, q3, _, w3⟩ := DataW.trod_string u3 g3
        simp only [List.cons.injEq, and_true] at q0 q1 q2 q3
        subst q0 q1 q2 q3
        exact ⟨⟨n0, n1, n2, s, w0, w1, w2, w3⟩, by simpa using e0, by simpa using e1, by simpa using e2, by simpa using e3⟩
    obtain ⟨f, hff⟩ := choose_lt each
    obtain ⟨b, off, spot⟩ := a
    refine ⟨some ⟨b, off, spot⟩, (List.range len).map f, cap, b, off, by simp, ⟨fun h0 => ?_, fun j x hj => ?_⟩⟩
    · have hs := World.cell?_spot (hff 0 (by simpa using h0)).1
      simp only [Nat.zero_mul, Addr.add, if_true] at hs
      rw [hs]
    · have hjl : j < len := by have := (List.getElem?_eq_some_iff.1 hj).1; simpa using this
      have hs := World.cell?_spot (hff 0 (by omega)).1
      simp only [Nat.zero_mul, Addr.add, if_true] at hs
      subst hs
      rw [List.getElem?_map, List.getElem?_range hjl] at hj
      simp only [Option.map_some, Option.some.injEq] at hj
      subst hj
      simpa [add_plain, Nat.add_assoc] using hff j hjl

theorem open_zs {H : Type} {enc : TypeId × Value → H} {P : Program} {W : World} {t e : TypeId} (ht : P.underlying t = some (.slice e)) (he : P.underlying e = some (.int .i64)) (ce : P.cellsOf e = 1)
    {r : Reach} {b0 : Nat} {v : Value} {d : DataW H} {p : List MemPlace} (hval : Value.okWide P W r b0 t v) (h : DataW.Trod enc P W 0 (fun _ => true) true t v d p) :
    ∃ (a : Option Addr) (zs : List Int) (c b off : Nat), v = .slice a zs.length c ∧ IR W a zs b off := by
  obtain ⟨a0, len, cap, rfl⟩ := okWide_slice ht hval
  obtain ⟨fuel, hf⟩ := h
  rcases open_ints ht he ce hf with ⟨hcs, hx⟩ | ⟨a, len', cap', zs, hcs, _, hl, hm, hz, hx, hcell, hwz⟩
  · simp [Value.cells] at hcs
    obtain ⟨rfl, rfl, rfl⟩ := hcs
    exact ⟨none, [], 0, 0, 0, rfl, ⟨fun h => absurd h (by simp), fun j x hj => by simp at hj⟩⟩
  · simp [Value.cells] at hcs
    obtain ⟨rfl, rfl, rfl⟩ := hcs
    simp only [if_true] at hz
    obtain ⟨b, off, spot⟩ := a
    have hlen : (zs.take len).length = len := by rw [List.length_take]; omega
    refine ⟨some ⟨b, off, spot⟩, zs.take len, cap, b, off, by rw [hlen], ⟨fun h0 => ?_, fun j x hj => ?_⟩⟩
    · have hs := World.cell?_spot (hcell 0 (by omega))
      simp only [Addr.add, if_true] at hs
      rw [hs]
    · have hjl : j < len := by have := (List.getElem?_eq_some_iff.1 hj).1; omega
      have hs := World.cell?_spot (hcell 0 (by omega))
      simp only [Addr.add, if_true] at hs
      subst hs
      have := hcell j (by omega)
      rw [add_plain] at this
      rw [List.getElem?_take, if_pos hjl] at hj
      rw [this, List.getD, hj]; rfl

theorem Try.own : ownKnob Try.prog.godebug = none := by kernel_rfl
theorem Try.laidOut : laidOutB Try.prog = true := by kernel_rfl

/-- a row of keys, read -/
theorem keys_of {H : Type} {enc : TypeId × Value → H} {W : World} {r : Reach} {b0 : Nat} {v : Value} {d : DataW H} {p : List MemPlace} (hval : Value.okWide Try.prog W r b0 22 v) (h : DataW.Trod enc Try.prog W 0 (fun _ => true) true 22 v d p) :
    ∃ (a : Option Addr) (ks : List K) (c b off : Nat), v = .slice a ks.length c ∧ KR W a ks b off :=
  open_keys Try.underlying22 Try.underlying30 (by kernel_rfl) (by kernel_rfl) (by kernel_rfl) (by kernel_rfl) (by kernel_rfl) (by kernel_rfl) (by kernel_rfl) (by kernel_rfl) (by kernel_rfl) (by kernel_rfl) (by kernel_rfl) (by kernel_rfl) (by kernel_rfl) hval h
theorem zs_of {H : Type} {enc : TypeId × Value → H} {W : World} {r : Reach} {b0 : Nat} {v : Value} {d : DataW H} {p : List MemPlace} (hval : Value.okWide Try.prog W r b0 23 v) (h : DataW.Trod enc Try.prog W 0 (fun _ => true) true 23 v d p) :
    ∃ (a : Option Addr) (zs : List Int) (c b off : Nat), v = .slice a zs.length c ∧ IR W a zs b off :=
  open_zs Try.underlying23 (by kernel_rfl) (by kernel_rfl) hval h

end Go.Proofs.Ytfjlclloddbkmaa
