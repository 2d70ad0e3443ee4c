/- Rows of whatever elements, read and owned, appended to. -/
import Derived.Test.YtfjlclloddbkmaaWaits
import Derived.Laws.AppendOwnNone
namespace Go.Proofs.Ytfjlclloddbkmaa
open Go.RowKit Go.Cw

theorem cell_extF {F : Nat → Prop} {w w' : World} (hx : Ext F w w') {a : Addr} {v : Value} (hc : w.cell? a = some v) (hF : ¬ F a.block) : w'.cell? a = some v := by
  have hlt : a.block < w.heap.size := World.block_lt_of_cell? w a hc
  exact (World.cell?_of_block (hx.block a.block hlt hF)).trans hc
/-- a slice's address reads as these, n cells each -/
structure GR {α : Type} (cl : α → List Value) (n : Nat) (w : World) (a : Option Addr) (xs : List α) (b off : Nat) : Prop where
  addr : 0 < xs.length → a = some ⟨b, off, none⟩
  cell : ∀ (j : Nat) (x : α), xs[j]? = some x → ∀ (i : Nat) (u : Value), (cl x)[i]? = some u → w.cell? ⟨b, off + j * n + i, none⟩ = some u
theorem GR.ext0 {α : Type} {cl : α → List Value} {n : Nat} {w w' : World} {a : Option Addr} {xs : List α} {b off : Nat} (h : GR cl n w a xs b off) (hx : Ext none_ w w') : GR cl n w' a xs b off :=
  ⟨h.addr, fun j x hj i u hu => cell_ext0 hx (h.cell j x hj i u hu)⟩
theorem GR.tail {α : Type} {cl : α → List Value} {n : Nat} {w : World} {a : Option Addr} {x : α} {xs : List α} {b off : Nat} (h : GR cl n w a (x :: xs) b off) (a' : Option Addr) (ha : 0 < xs.length → a' = some ⟨b, off + n, none⟩) : GR cl n w a' xs b (off + n) :=
  ⟨ha, fun j y hj i u hu => by
    have := h.cell (j + 1) y (by simpa using hj) i u hu
    rw [show off + n + j * n + i = off + (j + 1) * n + i by rw [Nat.add_mul]; omega]
    exact this⟩
/-- a row that the call owns -/
def GOwn {α : Type} (cl : α → List Value) (e n : Nat) (w : World) (base : Nat) (v : Value) (xs : List α) : Prop := w.ownsRow base e n v xs.length (xs.flatMap cl)
theorem GOwn.nil {α : Type} (cl : α → List Value) (e n : Nat) (w : World) (base : Nat) : GOwn cl e n w base (.slice none 0 0) [] := ⟨by simp, .inl ⟨rfl, rfl⟩⟩
theorem GOwn.lt {α : Type} {cl : α → List Value} {e n : Nat} {w : World} {base : Nat} {v : Value} {xs : List α} (h : GOwn cl e n w base v xs) (k : Nat) (hk : v.ownBlock = some k) : base ≤ k ∧ k < w.heap.size := World.ownsRow.lt h k hk
theorem GOwn.ext {α : Type} {cl : α → List Value} {e n : Nat} {F : Nat → Prop} {w w' : World} {base : Nat} {v : Value} {xs : List α} (h : GOwn cl e n w base v xs) (hx : Ext F w w') (hF : ∀ b, v.ownBlock = some b → ¬ F b) : GOwn cl e n w' base v xs := by
  obtain ⟨h1, h2⟩ := h
  refine ⟨h1, ?_⟩
  rcases h2 with h2 | ⟨g, cap, cur, rfl, hb, hg, rest⟩
  · exact .inl h2
  · exact .inr ⟨g, cap, cur, rfl, hb, hx.blk hg (hF g rfl), rest⟩
theorem GOwn.ext0 {α : Type} {cl : α → List Value} {e n : Nat} {w w' : World} {base : Nat} {v : Value} {xs : List α} (h : GOwn cl e n w base v xs) (hx : Ext none_ w w') : GOwn cl e n w' base v xs := h.ext hx fun _ _ => id
theorem GOwn.base {α : Type} {cl : α → List Value} {e n : Nat} {w : World} {base base' : Nat} {v : Value} {xs : List α} (h : GOwn cl e n w base v xs) (hb : base' ≤ base) : GOwn cl e n w base' v xs := by
  obtain ⟨h1, h2⟩ := h
  refine ⟨h1, ?_⟩
  rcases h2 with h2 | ⟨g, cap, cur, rfl, hb', rest⟩
  · exact .inl h2
  · exact .inr ⟨g, cap, cur, rfl, Nat.le_trans hb hb', rest⟩
theorem flatG_get {α β : Type} {cl : α → List β} {n : Nat} (hn : ∀ x, (cl x).length = n) : ∀ (xs : List α) (j : Nat) (x : α), xs[j]? = some x → ∀ (i : Nat) (u : β), (cl x)[i]? = some u → (xs.flatMap cl)[j * n + i]? = some u
  | [], j, x, h, _, _, _ => by simp at h
  | y :: xs, 0, x, h, i, u, hu => by
    simp at h
    subst h
    have hi := (List.getElem?_eq_some_iff.1 hu).1
    rw [List.flatMap_cons, Nat.zero_mul, Nat.zero_add, List.getElem?_append_left hi]
    exact hu
  | y :: xs, j + 1, x, h, i, u, hu => by
    have ih := flatG_get hn xs j x (by simpa using h) i u hu
    rw [List.flatMap_cons, List.getElem?_append_right (by rw [hn, Nat.add_mul]; omega), hn, show (j + 1) * n + i - n = j * n + i by rw [Nat.add_mul]; omega]
    exact ih
theorem GOwn.read {α : Type} {cl : α → List Value} {e n : Nat} {w : World} {base : Nat} {v : Value} {xs : List α} (hn : ∀ x, (cl x).length = n) (h : GOwn cl e n w base v xs) : ∃ a c b, v = .slice a xs.length c ∧ GR cl n w a xs b 0 ∧ xs.length ≤ c ∧ (a = none → c = 0) := by
  rcases h.2 with ⟨rfl, h0⟩ | ⟨g, cap, cur, rfl, hb, hg, hc1, hc2, hc3, hc4⟩
  · rw [h0]
    exact ⟨none, 0, 0, rfl, ⟨fun h => by omega, fun j r hj => by
      have := (List.getElem?_eq_some_iff.1 hj).1; omega⟩, Nat.le_refl _, fun _ => rfl⟩
  · refine ⟨_, cap, g, rfl, ⟨fun _ => rfl, fun j z hj i u hu => ?_⟩, hc1, fun h => by cases h⟩
    rw [cell_of hg]
    have hj' := flatG_get hn xs j z hj i u hu
    rw [← hc4, List.getElem?_take] at hj'
    split at hj'
    · rw [Nat.zero_add]; simpa using hj'
    · cases hj'

theorem app_g {α : Type} {cl : α → List Value} {t e n by_ : Nat} {z : Value} (ht : Try.prog.underlying t = some (.slice e)) (hi0 : (Try.prog.info? e).map (fun i => (i.zero, i.size, i.bytes)) = some (some z, n, by_)) (hzz : z.cells.size = n) (hn0 : 0 < n) (hb0 : by_ ≤ 1000)
    (hcl : ∀ x, (cl x).length = n) (h1 : ∀ x, ∀ u ∈ cl x, u.oneCell' = true)
    {ops : Array Oper} {rest : List Oper} {o : Oper} {a : Act} {Q : Exit → Act → World → Prop} {w : World} (hgd : o.guard = none) (s y : Operand) (ho : o.op = .call { callee := .builtin .append, args := #[s, y], argTypes := #[t, t] })
    (base : Nat) (v : Value) (xs : List α) (x : α) (hown : GOwn cl e n w base v xs) (hs : a.eval s = v) (bk : Nat) (hx : a.eval y = .slice (some ⟨bk, 0, none⟩) 1 1) (hc : ∀ i u, (cl x)[i]? = some u → w.cell? ⟨bk, i, none⟩ = some u)
    (hn : xs.length ≤ 100000) (hb : base ≤ w.heap.size)
    (h : ∀ v' w', GOwn cl e n w' base v' (xs ++ [x]) → Ext (fun b => v.ownBlock = some b) w w' → wpList Try.prog ops Q rest (a.put o.dst v') w') :
    wpList Try.prog ops Q (o :: rest) a w := by
  obtain ⟨i0, hi, hz0, hz1, hz2⟩ := info_parts hi0
  refine wpList_append_own w hgd s y t ho base e i0 _ n by_ ht hi hz0 hz1 hz2 hzz hn0 v _ _ hs hown ⟨bk, 0, none⟩ 1 1 (cl x) hx (by rw [hcl, Nat.one_mul]) ?_ (h1 x) ?_ ?_ hb ?_
  · intro j u hj
    rw [show (⟨bk, 0, none⟩ : Addr).add j = ⟨bk, j, none⟩ by unfold Addr.add; split <;> simp_all]
    exact hc j u hj
  · unfold maxLen; omega
  · have h2 : (xs.length + 1) * by_ ≤ 100001 * 1000 := Nat.mul_le_mul (by omega) hb0
    omega
  · intro v' w' h1 h2 _
    refine h v' w' ?_ ?_
    · unfold GOwn
      rw [List.length_append, List.flatMap_append]
      simpa using h1
    · exact (Ext.grown h2).mono fun _ _ h => h.symm
theorem GR.get {α : Type} {cl : α → List Value} {n : Nat} {w : World} {a : Option Addr} {xs : List α} {b off : Nat} (hcl : ∀ x, (cl x).length = n) (h : GR cl n w a xs b off) : ∀ (j : Nat) (u : Value), (xs.flatMap cl)[j]? = some u → w.cell? ⟨b, off + j, none⟩ = some u := by
  intro j u hj
  have hgen : ∀ (xs : List α) (off : Nat), (∀ (j : Nat) (x : α), xs[j]? = some x → ∀ (i : Nat) (u : Value), (cl x)[i]? = some u → w.cell? ⟨b, off + j * n + i, none⟩ = some u) → ∀ (j : Nat) (u : Value), (xs.flatMap cl)[j]? = some u → w.cell? ⟨b, off + j, none⟩ = some u := by
    intro xs
    induction xs with
    | nil => intro off _ j u hj; simp at hj
    | cons x xs ih =>
      intro off hc j u hj
      rw [List.flatMap_cons] at hj
      by_cases hlt : j < n
      · rw [List.getElem?_append_left (by rw [hcl]; exact hlt)] at hj
        have := hc 0 x rfl j u hj
        simpa using this
      · rw [List.getElem?_append_right (by rw [hcl]; omega), hcl] at hj
        have := ih (off + n) (fun j y hy i u hu => by
          have := hc (j + 1) y (by simpa using hy) i u hu
          rw [show off + n + j * n + i = off + (j + 1) * n + i by rw [Nat.add_mul]; omega]
          exact this) (j - n) u hj
        rw [show off + n + (j - n) = off + j by omega] at this
        exact this
  exact hgen xs off h.cell j u hj
theorem flatG_len {α β : Type} {cl : α → List β} {n : Nat} (hcl : ∀ x, (cl x).length = n) : ∀ xs : List α, (xs.flatMap cl).length = xs.length * n
  | [] => by simp
  | x :: xs => by rw [List.flatMap_cons, List.length_append, hcl, flatG_len hcl xs, List.length_cons, Nat.add_mul]; omega
/-- a row read, laid behind an owned one -/
theorem app_gs {α : Type} {cl : α → List Value} {t e n by_ : Nat} {z : Value} (ht : Try.prog.underlying t = some (.slice e)) (hi0 : (Try.prog.info? e).map (fun i => (i.zero, i.size, i.bytes)) = some (some z, n, by_)) (hzz : z.cells.size = n) (hn0 : 0 < n) (hb0 : by_ ≤ 1000)
    (hcl : ∀ x, (cl x).length = n) (h1 : ∀ x, ∀ u ∈ cl x, u.oneCell' = true)
    {ops : Array Oper} {rest : List Oper} {o : Oper} {a : Act} {Q : Exit → Act → World → Prop} {w : World} (hgd : o.guard = none) (s y : Operand) (ho : o.op = .call { callee := .builtin .append, args := #[s, y], argTypes := #[t, t] })
    (base : Nat) (v : Value) (xs ys : List α) (hown : GOwn cl e n w base v xs) (hs : a.eval s = v) (p : Option Addr) (b off c : Nat) (hx : a.eval y = .slice p ys.length c) (hG : GR cl n w p ys b off) (hlc : ys.length ≤ c) (hp : p = none → c = 0)
    (hn : xs.length + ys.length ≤ 100000) (hb : base ≤ w.heap.size)
    (h : ∀ v' w', GOwn cl e n w' base v' (xs ++ ys) → Ext (fun b => v.ownBlock = some b) w w' → wpList Try.prog ops Q rest (a.put o.dst v') w') :
    wpList Try.prog ops Q (o :: rest) a w := by
  obtain ⟨i0, hi, hz0, hz1, hz2⟩ := info_parts hi0
  cases p with
  | none =>
    have h0 := hp rfl
    have hl : ys.length = 0 := by omega
    rw [hl, h0] at hx
    refine wpList_append_own_none hgd s y t ho base e i0 n ht hi v _ _ hs hown hx ?_
    refine h v w ?_ (Ext.refl _ _)
    rw [List.length_eq_zero_iff.1 hl, List.append_nil]
    exact hown
  | some ad =>
    refine wpList_append_own w hgd s y t ho base e i0 _ n by_ ht hi hz0 hz1 hz2 hzz hn0 v _ _ hs hown ad ys.length c (ys.flatMap cl) hx (flatG_len hcl ys) ?_ ?_ ?_ ?_ hb ?_
    · intro j u hj
      have hlen : (ys.flatMap cl).length = ys.length * n := flatG_len hcl ys
      have hjl := (List.getElem?_eq_some_iff.1 hj).1
      have hpos : 0 < ys.length := by
        rcases Nat.eq_zero_or_pos ys.length with h0 | h0
        · rw [hlen, h0, Nat.zero_mul] at hjl; omega
        · exact h0
      have ha := hG.addr hpos
      simp only [Option.some.injEq] at ha
      subst ha
      rw [show (⟨b, off, none⟩ : Addr).add j = ⟨b, off + j, none⟩ by unfold Addr.add; split <;> simp_all]
      exact hG.get hcl j u hj
    · intro u hu
      obtain ⟨x, _, hx2⟩ := List.mem_flatMap.1 hu
      exact h1 x u hx2
    · unfold maxLen; omega
    · have h2 : (xs.length + ys.length) * by_ ≤ 100000 * 1000 := Nat.mul_le_mul (by omega) hb0
      omega
    · intro v' w' h1 h2 _
      refine h v' w' ?_ ?_
      · unfold GOwn
        rw [List.length_append, List.flatMap_append]
        exact h1
      · exact (Ext.grown h2).mono fun _ _ h => h.symm

end Go.Proofs.Ytfjlclloddbkmaa
