/- Arguments read: a slice of Acts, a key; LimboWaits where more than 60 Acts come. -/
import Derived.Test.YtfjlclloddbkmaaOpen
import Derived.Test.YtfjlclloddbkmaaWaits
namespace Go.Proofs.Ytfjlclloddbkmaa
open Go.RowKit Go.Cw Go.ChangeShapes Go.WideShapes Go.Deep

theorem open_keys_in {H : Type} {enc : TypeId × Value → H} {P : Program} {W : World} {t e : TypeId} {f0 f1 f2 f3 : Field} (ht : P.underlying t = some (.slice e)) (he : P.underlying e = some (.struct #[f0, f1, f2, f3])) (ce : P.cellsOf e = 4)
    (o0 : f0.offset = 0) (o1 : f1.offset = 1) (o2 : f2.offset = 2) (o3 : f3.offset = 3) (c0 : P.cellsOf f0.type = 1) (c1 : P.cellsOf f1.type = 1) (c2 : P.cellsOf f2.type = 1) (c3 : P.cellsOf f3.type = 1)
    (u0 : P.underlying f0.type = some (.int .i64)) (u1 : P.underlying f1.type = some (.int .i64)) (u2 : P.underlying f2.type = some (.int .i64)) (u3 : P.underlying f3.type = some .string)
    {fuel : Nat} {v : Value} {y : DataW H × List MemPlace} (hf : DataW.trod enc P W 0 (fun _ => true) true fuel t [v] = some y) :
    ∃ (a : Option Addr) (ks : List K) (c b off : Nat), v = .slice a ks.length c ∧ KR W a ks b off := by
  rcases open_slice ht hf with ⟨hcs, hx⟩ | ⟨a, len, cap, m, n, D, Pl, hcs, _, hl, hm, hmm, hx, hel⟩
  · simp only [List.cons.injEq, and_true] at hcs
    subst hcs
    exact ⟨none, [], 0, 0, 0, rfl, ⟨fun h => absurd h (by simp), fun j x hj => by simp at hj⟩⟩
  · simp only [List.cons.injEq, and_true] at hcs
    subst hcs
    simp only [if_true] at hmm
    have each : ∀ i, i < len → ∃ x : K, W.cell? (a.add (i * 4)) = some (.int .i64 x.k) ∧ W.cell? (a.add (i * 4 + 1)) = some (.int .i64 x.a) ∧ W.cell? (a.add (i * 4 + 2)) = some (.int .i64 x.b) ∧ W.cell? (a.add (i * 4 + 3)) = some (.string x.s) := by
      intro i hi
      obtain ⟨cs', h1, h2⟩ := hel i (by omega)
      rw [ce] at h1
      obtain ⟨_, hlen, hcell⟩ := World.cells?_some h1
      obtain ⟨xs, k, hk, hxy, _, hxl, hf⟩ := DataW.trod_struct he h2
      match xs, hxl, cs', hlen with
      | [y0, y1, y2, y3], _, [v0, v1, v2, v3], _ =>
        have g0 := hf 0 f0 rfl
        have g1 := hf 1 f1 rfl
        have g2 := hf 2 f2 rfl
        have g3 := hf 3 f3 rfl
        simp [o0, o1, o2, o3, c0, c1, c2, c3] at g0 g1 g2 g3
        have e0 := hcell 0 (by omega)
        have e1 := hcell 1 (by omega)
        have e2 := hcell 2 (by omega)
        have e3 := hcell 3 (by omega)
        rw [add_add] at e0 e1 e2 e3
        obtain ⟨n0, q0, _, w0⟩ := DataW.trod_int u0 g0
        obtain ⟨n1, q1, _, w1⟩ := DataW.trod_int u1 g1
        obtain ⟨n2, q2, _, w2⟩ := DataW.trod_int u2 g2
        obtain ⟨s, q3, _, w3⟩ := DataW.trod_string u3 g3
        simp only [List.cons.injEq, and_true] at q0 q1 q2 q3
        subst q0 q1 q2 q3
        exact ⟨⟨n0, n1, n2, s, w0, w1, w2, w3⟩, by simpa using e0, by simpa using e1, by simpa using e2, by simpa using e3⟩
    obtain ⟨f, hff⟩ := choose_lt each
    obtain ⟨b, off, spot⟩ := a
    refine ⟨some ⟨b, off, spot⟩, (List.range len).map f, cap, b, off, by simp, ⟨fun h0 => ?_, fun j x hj => ?_⟩⟩
    · have hs := World.cell?_spot (hff 0 (by simpa using h0)).1
      simp only [Nat.zero_mul, Addr.add, if_true] at hs
      rw [hs]
    · have hjl : j < len := by have := (List.getElem?_eq_some_iff.1 hj).1; simpa using this
      have hs := World.cell?_spot (hff 0 (by omega)).1
      simp only [Nat.zero_mul, Addr.add, if_true] at hs
      subst hs
      rw [List.getElem?_map, List.getElem?_range hjl] at hj
      simp only [Option.map_some, Option.some.injEq] at hj
      subst hj
      simpa [add_plain, Nat.add_assoc] using hff j hjl


noncomputable instance : Inhabited A := ⟨⟨0, 0, none, 0, [], 0, 0⟩⟩

theorem open_acts {H : Type} {enc : TypeId × Value → H} {P : Program} {W : World} {t e : TypeId} {f0 f1 f2 : Field} (ht : P.underlying t = some (.slice e)) (he : P.underlying e = some (.struct #[f0, f1, f2])) (ce : P.cellsOf e = 3)
    (o0 : f0.offset = 0) (o1 : f1.offset = 1) (o2 : f2.offset = 2) (c0 : P.cellsOf f0.type = 1) (c1 : P.cellsOf f1.type = 1) (c2 : P.cellsOf f2.type = 1)
    (u0 : P.underlying f0.type = some (.int .i64)) (u1 : P.underlying f1.type = some (.int .i64))
    (u2 : ∀ {fuel : Nat} {v : Value} {y : DataW H × List MemPlace}, DataW.trod enc P W 0 (fun _ => true) true fuel f2.type [v] = some y → ∃ (a : Option Addr) (ks : List K) (c b off : Nat), v = .slice a ks.length c ∧ KR W a ks b off)
    {r : Reach} {b0 : Nat} {v : Value} {d : DataW H} {p : List MemPlace} (hval : Value.okWide P W r b0 t v) (h : DataW.Trod enc P W 0 (fun _ => true) true t v d p) :
    ∃ (a : Option Addr) (xs : List A) (c b off : Nat), v = .slice a xs.length c ∧ AR W a xs b off := by
  obtain ⟨a0, len, cap, rfl⟩ := okWide_slice ht hval
  obtain ⟨fuel, hf⟩ := h
  rcases open_slice ht hf with ⟨hcs, hx⟩ | ⟨a, len', cap', m, n, D, Pl, hcs, _, hl, hm, hmm, hx, hel⟩
  · simp [Value.cells] at hcs
    obtain ⟨rfl, rfl, rfl⟩ := hcs
    exact ⟨none, [], 0, 0, 0, rfl, ⟨fun h => absurd h (by simp), fun j x hj => by simp at hj, fun x hx => by simp at hx⟩⟩
  · simp [Value.cells] at hcs
    obtain ⟨rfl, rfl, rfl⟩ := hcs
    simp only [if_true] at hmm
    have each : ∀ i, i < len → ∃ x : A, W.cell? (a.add (i * 3)) = some (.int .i64 x.kind) ∧ W.cell? (a.add (i * 3 + 1)) = some (.int .i64 x.n) ∧ W.cell? (a.add (i * 3 + 2)) = some (.slice x.a x.ks.length x.c) ∧ KR W x.a x.ks x.b x.off := by
      intro i hi
      obtain ⟨cs', h1, h2⟩ := hel i (by omega)
      rw [ce] at h1
      obtain ⟨_, hlen, hcell⟩ := World.cells?_some h1
      obtain ⟨xs, k, hk, hxy, _, hxl, hf⟩ := DataW.trod_struct he h2
      match xs, hxl, cs', hlen with
      | [y0, y1, y2], _, [v0, v1, v2], _ =>
        have g0 := hf 0 f0 rfl
        have g1 := hf 1 f1 rfl
        have g2 := hf 2 f2 rfl
        simp [o0, o1, o2, c0, c1, c2] at g0 g1 g2
        have e0 := hcell 0 (by omega)
        have e1 := hcell 1 (by omega)
        have e2 := hcell 2 (by omega)
        rw [add_add] at e0 e1 e2
        obtain ⟨n0, q0, _, w0⟩ := DataW.trod_int u0 g0
        obtain ⟨n1, q1, _, w1⟩ := DataW.trod_int u1 g1
        obtain ⟨ka, ks, kc, kb, ko, rfl, hkr⟩ := u2 g2
        simp only [List.cons.injEq, and_true] at q0 q1
        subst q0 q1
        exact ⟨⟨n0, n1, ka, kc, ks, kb, ko⟩, by simpa using e0, by simpa using e1, by simpa using e2, hkr⟩
    obtain ⟨f, hff⟩ := choose_lt each
    obtain ⟨b, off, spot⟩ := a
    refine ⟨some ⟨b, off, spot⟩, (List.range len).map f, cap, b, off, by simp, ⟨fun h0 => ?_, fun j x hj => ?_, fun x hx => ?_⟩⟩
    · have hs := World.cell?_spot (hff 0 (by simpa using h0)).1
      simp only [Nat.zero_mul, Addr.add, if_true] at hs
      rw [hs]
    · have hjl : j < len := by have := (List.getElem?_eq_some_iff.1 hj).1; simpa using this
      have hs := World.cell?_spot (hff 0 (by omega)).1
      simp only [Nat.zero_mul, Addr.add, if_true] at hs
      subst hs
      rw [List.getElem?_map, List.getElem?_range hjl] at hj
      simp only [Option.map_some, Option.some.injEq] at hj
      subst hj
      obtain ⟨q0, q1, q2, _⟩ := hff j hjl
      simpa [add_plain, Nat.add_assoc] using And.intro q0 (And.intro q1 q2)
    · obtain ⟨j, hj, rfl⟩ := List.mem_map.1 hx
      exact (hff j (List.mem_range.1 hj)).2.2.2

theorem acts_of {H : Type} {enc : TypeId × Value → H} {W : World} {r : Reach} {b0 : Nat} {v : Value} {d : DataW H} {p : List MemPlace} (hval : Value.okWide Try.prog W r b0 36 v) (h : DataW.Trod enc Try.prog W 0 (fun _ => true) true 36 v d p) :
    ∃ (a : Option Addr) (xs : List A) (c b off : Nat), v = .slice a xs.length c ∧ AR W a xs b off :=
  open_acts Try.underlying36 Try.underlying38 (by kernel_rfl) (by kernel_rfl) (by kernel_rfl) (by kernel_rfl) (by kernel_rfl) (by kernel_rfl) (by kernel_rfl) (by kernel_rfl) (by kernel_rfl)
    (fun {_ _ _} hf => open_keys_in Try.underlying22 Try.underlying30 (by kernel_rfl) (by kernel_rfl) (by kernel_rfl) (by kernel_rfl) (by kernel_rfl) (by kernel_rfl) (by kernel_rfl) (by kernel_rfl) (by kernel_rfl) (by kernel_rfl) (by kernel_rfl) (by kernel_rfl) (by kernel_rfl) hf) hval h

/-- a key, read -/
theorem open_key {H : Type} {enc : TypeId × Value → H} {P : Program} {W : World} {e : TypeId} {f0 f1 f2 f3 : Field} (he : P.underlying e = some (.struct #[f0, f1, f2, f3])) (ce : P.cellsOf e = 4)
    (o0 : f0.offset = 0) (o1 : f1.offset = 1) (o2 : f2.offset = 2) (o3 : f3.offset = 3) (c0 : P.cellsOf f0.type = 1) (c1 : P.cellsOf f1.type = 1) (c2 : P.cellsOf f2.type = 1) (c3 : P.cellsOf f3.type = 1)
    (u0 : P.underlying f0.type = some (.int .i64)) (u1 : P.underlying f1.type = some (.int .i64)) (u2 : P.underlying f2.type = some (.int .i64)) (u3 : P.underlying f3.type = some .string)
    {v : Value} {d : DataW H} {p : List MemPlace} (h : DataW.Trod enc P W 0 (fun _ => true) true e v d p) : ∃ x : K, v = x.val := by
  obtain ⟨fuel, hf⟩ := h
  obtain ⟨xs, k, hk, hxy, hcl, hxl, hf⟩ := DataW.trod_struct he hf
  rw [ce] at hcl
  generalize hcs : v.cells.toList = cs' at *
  match xs, hxl, cs', hcl with
  | [y0, y1, y2, y3], _, [v0, v1, v2, v3], _ =>
    have g0 := hf 0 f0 rfl
    have g1 := hf 1 f1 rfl
    have g2 := hf 2 f2 rfl
    have g3 := hf 3 f3 rfl
    simp [o0, o1, o2, o3, c0, c1, c2, c3] at g0 g1 g2 g3
    obtain ⟨n0, q0, _, w0⟩ := DataW.trod_int u0 g0
    obtain ⟨n1, q1, _, w1⟩ := DataW.trod_int u1 g1
    obtain ⟨n2, q2, _, w2⟩ := DataW.trod_int u2 g2
    obtain ⟨s, q3, _, w3⟩ := DataW.trod_string u3 g3
    simp only [List.cons.injEq, and_true] at q0 q1 q2 q3
    subst q0 q1 q2 q3
    refine ⟨⟨n0, n1, n2, s, w0, w1, w2, w3⟩, ?_⟩
    have hne : v.cells.toList.length = 4 := by rw [hcs]; rfl
    cases v <;> simp [Value.cells] at hcs hne
    rename_i arr
    show Value.agg arr = Value.agg _
    exact congrArg Value.agg (Array.toList_inj.1 hcs)

theorem key_of {H : Type} {enc : TypeId × Value → H} {W : World} {v : Value} {d : DataW H} {p : List MemPlace} (h : DataW.Trod enc Try.prog W 0 (fun _ => true) true 30 v d p) : ∃ x : K, v = x.val :=
  open_key Try.underlying30 (by kernel_rfl) (by kernel_rfl) (by kernel_rfl) (by kernel_rfl) (by kernel_rfl) (by kernel_rfl) (by kernel_rfl) (by kernel_rfl) (by kernel_rfl) (by kernel_rfl) (by kernel_rfl) (by kernel_rfl) (by kernel_rfl) h

set_option maxHeartbeats 1000000 in
theorem waits_long (w : World) (x : K) (z : Int) (a : Option Addr) (n c : Nat) (h : 60 < n) :
    Calls Try.prog 4 #[x.val, .int .i64 z, .slice a n c] w fun e w' => e = .returned (.bool true) ∧ Ext none_ w w' := by
  have hx0 := Ext.alloc w (.cells #[.int .i64 x.k, .int .i64 x.a, .int .i64 x.b, .string x.s] 30)
  have hd : decide ((60 : Int) < (n : Int)) = true := by simp; omega
  clear h
  unfold K.val
  go_enter Try.func4, Try.ntmps4
  go_wp2_with fail
  generalize w.alloc (.cells #[.int .i64 x.k, .int .i64 x.a, .int .i64 x.b, .string x.s] 30) = w0 at *
  refine (awake_any w0).mono ?_
  rintro e w1 ⟨rfl, hx1⟩
  go_wp2_with fail
  refine (awake_any w1).mono ?_
  rintro e w2 ⟨rfl, hx2⟩
  go_wp2
  go_ret
  exact ⟨rfl, hx0.grow (hx1.grow hx2)⟩

end Go.Proofs.Ytfjlclloddbkmaa
