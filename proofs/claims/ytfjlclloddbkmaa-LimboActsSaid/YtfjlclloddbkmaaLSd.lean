/- Rising rows: what slices.Compact makes of a sorted row, and what the reference's Epochs makes. -/
import Derived.Lib.SlicesCompact
namespace Go.Proofs.Ytfjlclloddbkmaa
open Go.Lib

/-- rising, and of just these -/
structure SD (l : List Int) (S : Int → Prop) : Prop where
  up : l.Pairwise (· < ·)
  mem : ∀ x, x ∈ l ↔ S x
theorem SD.unique : ∀ {l m : List Int} {S : Int → Prop}, SD l S → SD m S → l = m
  | [], [], _, _, _ => rfl
  | [], y :: m, S, h1, h2 => absurd ((h1.mem y).2 ((h2.mem y).1 List.mem_cons_self)) (by simp)
  | x :: l, [], S, h1, h2 => absurd ((h2.mem x).2 ((h1.mem x).1 List.mem_cons_self)) (by simp)
  | x :: l, y :: m, S, h1, h2 => by
    obtain ⟨u1, p1⟩ := List.pairwise_cons.1 h1.up
    obtain ⟨u2, p2⟩ := List.pairwise_cons.1 h2.up
    have hxy : x = y := by
      have a1 : x ∈ y :: m := (h2.mem x).2 ((h1.mem x).1 List.mem_cons_self)
      have a2 : y ∈ x :: l := (h1.mem y).2 ((h2.mem y).1 List.mem_cons_self)
      rcases List.mem_cons.1 a1 with e | e
      · exact e
      · rcases List.mem_cons.1 a2 with e2 | e2
        · exact e2.symm
        · have := u2 x e; have := u1 y e2; omega
    subst hxy
    have ht : l = m := SD.unique (S := fun z => S z ∧ z ≠ x) ⟨p1, fun z => ⟨fun hz => ⟨(h1.mem z).1 (List.mem_cons_of_mem _ hz), fun e => by have := u1 z hz; omega⟩, fun ⟨hz, hne⟩ => (List.mem_cons.1 ((h1.mem z).2 hz)).resolve_left hne⟩⟩
      ⟨p2, fun z => ⟨fun hz => ⟨(h2.mem z).1 (List.mem_cons_of_mem _ hz), fun e => by have := u2 z hz; omega⟩, fun ⟨hz, hne⟩ => (List.mem_cons.1 ((h2.mem z).2 hz)).resolve_left hne⟩⟩
    rw [ht]

theorem get_bang {zs : List Int} {i : Nat} (h : i < zs.length) : zs.toArray[i]! = zs[i] := by simp [h]
theorem sorted_le {zs : List Int} (hs : zs.Pairwise (fun x y => decide (x ≤ y) = true)) {i j : Nat} (hij : i ≤ j) (hj : j < zs.length) : zs[i] ≤ zs[j] := by
  rcases Nat.lt_or_eq_of_le hij with h | h
  · have := List.pairwise_iff_getElem.1 hs i j (by omega) hj h
    exact of_decide_eq_true this
  · subst h; exact Int.le_refl _
theorem compact_sd {zs : List Int} (hs : zs.Pairwise (fun x y => decide (x ≤ y) = true)) : SD (compact zs) (· ∈ zs) := by
  unfold compact compactUpTo
  constructor
  · rw [List.pairwise_map]
    have hr : ((List.range zs.length).filter (keeps zs.toArray)).Pairwise (· < ·) := List.Pairwise.filter _ List.pairwise_lt_range
    refine List.Pairwise.imp_of_mem ?_ hr
    intro i j hi hj hij
    obtain ⟨hj1, hj2⟩ := List.mem_filter.1 hj
    have hjl := List.mem_range.1 hj1
    have hk : zs.toArray[j]! ≠ zs.toArray[j - 1]! := by
      have := of_decide_eq_true hj2
      rcases this with h | h
      · omega
      · exact h
    rw [get_bang (by omega), get_bang hjl]
    rw [get_bang hjl, get_bang (by omega)] at hk
    have h1 := sorted_le hs (show i ≤ j - 1 by omega) (by omega)
    have h2 := sorted_le hs (show j - 1 ≤ j by omega) hjl
    omega
  · intro x
    simp only [List.mem_map, List.mem_filter, List.mem_range]
    constructor
    · rintro ⟨i, ⟨hi, _⟩, rfl⟩
      rw [get_bang hi]
      exact List.getElem_mem hi
    · intro hx
      have hex : ∃ i, i < zs.length ∧ zs.toArray[i]! = x := by
        obtain ⟨i, hi, rfl⟩ := List.mem_iff_getElem.1 hx
        exact ⟨i, hi, get_bang hi⟩
      have hmin : ∀ n, (∃ i, i ≤ n ∧ i < zs.length ∧ zs.toArray[i]! = x) → ∃ i, i < zs.length ∧ zs.toArray[i]! = x ∧ ∀ j, j < i → zs.toArray[j]! ≠ x := by
        intro n
        induction n with
        | zero =>
          rintro ⟨i, h0, hi, hxi⟩
          exact ⟨i, hi, hxi, fun j hj => by omega⟩
        | succ n ih =>
          rintro ⟨i, h0, hi, hxi⟩
          by_cases hex : ∃ j, j ≤ n ∧ j < zs.length ∧ zs.toArray[j]! = x
          · exact ih hex
          · exact ⟨i, hi, hxi, fun j hj e => hex ⟨j, by omega, by omega, e⟩⟩
      obtain ⟨i0, hi0, hx0⟩ := hex
      obtain ⟨i, hi, hxi, hno⟩ := hmin i0 ⟨i0, Nat.le_refl _, hi0, hx0⟩
      refine ⟨i, ⟨hi, ?_⟩, hxi⟩
      unfold keeps
      refine decide_eq_true ?_
      by_cases h0 : i = 0
      · exact .inl h0
      · right
        rw [hxi]
        exact fun e => hno (i - 1) (by omega) e.symm

/-- an element laid into a rising row, at the first place that is not below it -/
def insAt (out : List Int) (at_ : Nat) (e : Int) : List Int := out.take at_ ++ (e :: out.drop at_)
theorem ins_sd {out : List Int} {S : Int → Prop} (h : SD out S) {k : Nat} {e : Int} (hk : k ≤ out.length) (hb : ∀ i x, i < k → out[i]? = some x → x < e) (ha : ∀ x, out[k]? = some x → e < x) : SD (insAt out k e) (fun z => S z ∨ z = e) := by
  unfold insAt
  have hsplit : out.take k ++ out.drop k = out := List.take_append_drop k out
  constructor
  · rw [List.pairwise_append]
    have hp := h.up
    rw [← hsplit, List.pairwise_append] at hp
    have hdrop : ∀ x ∈ out.drop k, e < x := fun x hx => by
      obtain ⟨i, hi⟩ := List.mem_iff_getElem?.1 hx
      rw [List.getElem?_drop] at hi
      have hil := (List.getElem?_eq_some_iff.1 hi).1
      obtain ⟨y, hy⟩ : ∃ y, out[k]? = some y := ⟨_, List.getElem?_eq_getElem (by omega)⟩
      have h1 := ha y hy
      rcases Nat.eq_zero_or_pos i with h0 | h0
      · rw [h0, Nat.add_zero, hy] at hi
        rw [← Option.some.inj hi]; exact h1
      · obtain ⟨hk1, rfl⟩ := List.getElem?_eq_some_iff.1 hy
        obtain ⟨hk2, rfl⟩ := List.getElem?_eq_some_iff.1 hi
        have := List.pairwise_iff_getElem.1 h.up k (k + i) hk1 hk2 (by omega)
        omega
    have htake : ∀ x ∈ out.take k, x < e := fun x hx => by
      obtain ⟨i, hi⟩ := List.mem_iff_getElem?.1 hx
      rw [List.getElem?_take] at hi
      split at hi
      · rename_i h1; exact hb i x h1 hi
      · cases hi
    refine ⟨hp.1, List.pairwise_cons.2 ⟨hdrop, hp.2.1⟩, fun x hx y hy => ?_⟩
    rcases List.mem_cons.1 hy with rfl | hy
    · exact htake x hx
    · have := htake x hx; have := hdrop y hy; omega
  · intro x
    rw [List.mem_append, List.mem_cons, ← h.mem x]
    conv => rhs; rw [← hsplit, List.mem_append]
    constructor
    · rintro (h1 | h1 | h1)
      · exact .inl (.inl h1)
      · exact .inr h1
      · exact .inl (.inr h1)
    · rintro ((h1 | h1) | h1)
      · exact .inl h1
      · exact .inr (.inr h1)
      · exact .inr (.inl h1)
theorem SD.congr {l : List Int} {S T : Int → Prop} (h : SD l S) (hst : ∀ x, S x ↔ T x) : SD l T := ⟨h.up, fun x => (h.mem x).trans (hst x)⟩

end Go.Proofs.Ytfjlclloddbkmaa
