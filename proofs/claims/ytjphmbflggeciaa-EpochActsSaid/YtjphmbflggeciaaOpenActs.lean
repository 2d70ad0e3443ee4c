/- Arguments read: a slice of Acts; EpochApart where more than 100 Acts come. -/
import Derived.Test.YtjphmbflggeciaaApart
import Derived.ProofKit
import Derived.Deep.Slices
namespace Go.Proofs.Ytjphmbflggeciaa
open Go.RowKit Go.Cw Go.ChangeShapes Go.WideShapes Go.Deep

noncomputable instance : Inhabited A := ⟨⟨0, ⟨0, by decide⟩⟩⟩

theorem open_acts {H : Type} {enc : TypeId × Value → H} {P : Program} {W : World} {t e : TypeId} {f0 f1 : Field} (ht : P.underlying t = some (.slice e)) (he : P.underlying e = some (.struct #[f0, f1])) (ce : P.cellsOf e = 2)
    (o0 : f0.offset = 0) (o1 : f1.offset = 1) (c0 : P.cellsOf f0.type = 1) (c1 : P.cellsOf f1.type = 1)
    (u0 : P.underlying f0.type = some (.int .i64)) (u1 : P.underlying f1.type = some (.int .i64))
    {r : Reach} {b0 : Nat} {v : Value} {d : DataW H} {p : List MemPlace} (hval : Value.okWide P W r b0 t v) (h : DataW.Trod enc P W 0 (fun _ => true) true t v d p) :
    ∃ (a : Option Addr) (xs : List A) (c b off : Nat), v = .slice a xs.length c ∧ AR W a xs b off := by
  obtain ⟨a0, len, cap, rfl⟩ := okWide_slice ht hval
  obtain ⟨fuel, hf⟩ := h
  rcases open_slice ht hf with ⟨hcs, hx⟩ | ⟨a, len', cap', m, n, D, Pl, hcs, _, hl, hm, hmm, hx, hel⟩
  · simp [Value.cells] at hcs
    obtain ⟨rfl, rfl, rfl⟩ := hcs
    exact ⟨none, [], 0, 0, 0, rfl, ⟨fun h => absurd h (by simp), fun j x hj => by simp at hj⟩⟩
  · simp [Value.cells] at hcs
    obtain ⟨rfl, rfl, rfl⟩ := hcs
    simp only [if_true] at hmm
    have each : ∀ i, i < len → ∃ x : A, W.cell? (a.add (i * 2)) = some (.int .i64 x.kind) ∧ W.cell? (a.add (i * 2 + 1)) = some (.int .i64 x.s.1) := by
      intro i hi
      obtain ⟨cs', h1, h2⟩ := hel i (by omega)
      rw [ce] at h1
      obtain ⟨_, hlen, hcell⟩ := World.cells?_some h1
      obtain ⟨xs, k, hk, hxy, _, hxl, hf⟩ := DataW.trod_struct he h2
      match xs, hxl, cs', hlen with
      | [y0, y1], _, [v0, v1], _ =>
        have g0 := hf 0 f0 rfl
        have g1 := hf 1 f1 rfl
        simp [o0, o1, c0, c1] at g0 g1
        have e0 := hcell 0 (by omega)
        have e1 := hcell 1 (by omega)
        rw [add_add] at e0 e1
        obtain ⟨n0, q0, _, w0⟩ := DataW.trod_int u0 g0
        obtain ⟨n1, q1, _, w1⟩ := DataW.trod_int u1 g1
        simp only [List.cons.injEq, and_true] at q0 q1
        subst q0 q1
        exact ⟨⟨n0, ⟨n1, w1⟩⟩, by simpa using e0, by simpa using e1⟩
    obtain ⟨f, hff⟩ := choose_lt each
    obtain ⟨b, off, spot⟩ := a
    refine ⟨some ⟨b, off, spot⟩, (List.range len).map f, cap, b, off, by simp, ⟨fun h0 => ?_, fun j x hj => ?_⟩⟩
    · have hs := World.cell?_spot (hff 0 (by simpa using h0)).1
      simp only [Nat.zero_mul, Addr.add, if_true] at hs
      rw [hs]
    · have hjl : j < len := by have := (List.getElem?_eq_some_iff.1 hj).1; simpa using this
      have hs := World.cell?_spot (hff 0 (by omega)).1
      simp only [Nat.zero_mul, Addr.add, if_true] at hs
      subst hs
      rw [List.getElem?_map, List.getElem?_range hjl] at hj
      simp only [Option.map_some, Option.some.injEq] at hj
      subst hj
      simpa [add_plain, Nat.add_assoc] using hff j hjl

theorem acts_of {H : Type} {enc : TypeId × Value → H} {W : World} {r : Reach} {b0 : Nat} {v : Value} {d : DataW H} {p : List MemPlace} (hval : Value.okWide Try.prog W r b0 33 v) (h : DataW.Trod enc Try.prog W 0 (fun _ => true) true 33 v d p) :
    ∃ (a : Option Addr) (xs : List A) (c b off : Nat), v = .slice a xs.length c ∧ AR W a xs b off :=
  open_acts Try.underlying33 Try.underlying39 (by kernel_rfl) (by kernel_rfl) (by kernel_rfl) (by kernel_rfl) (by kernel_rfl) (by kernel_rfl) (by kernel_rfl) hval h

set_option maxHeartbeats 1000000 in
theorem apart_long (w : World) (a : Option Addr) (n c : Nat) (z : Int) (h : 100 < n) :
    Calls Try.prog 4 #[.slice a n c, .int .i64 z] w fun e w' => e = .returned (.bool true) ∧ Ext none_ w w' := by
  have hd : decide ((100 : Int) < (n : Int)) = true := by simp; omega
  clear h
  go_enter Try.func4, Try.ntmps4
  go_wp2_with fail
  refine (awake_any w).mono ?_
  rintro e w1 ⟨rfl, hx1⟩
  go_wp2_with fail
  refine (awake_any w1).mono ?_
  rintro e w2 ⟨rfl, hx2⟩
  go_wp2
  go_ret
  exact ⟨rfl, hx1.grow hx2⟩

end Go.Proofs.Ytjphmbflggeciaa
