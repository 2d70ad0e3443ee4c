/- The plain law of EpochActs: a table and the reference's row. -/
import Derived.Test.YtjphmbflggeciaaApart
namespace Go.Proofs.Ytjphmbflggeciaa
open Go.RowKit Go.Cw

theorem wfN (i : Nat) (h : i ≤ 1000) : (Lit.int .i64 (i : Int)).wf = true := by
  have h' : IntKind.i64.min ≤ (i : Int) ∧ (i : Int) ≤ IntKind.i64.max := by
    have h1 : IntKind.i64.min = -9223372036854775808 := by decide
    have h2 : IntKind.i64.max = 9223372036854775807 := by decide
    omega
  simpa [Lit.wf] using h'
def zI (i : Nat) (h : i ≤ 1000) : Z := ⟨(i : Int), wfN i h⟩

/-- a table and the reference's row say the same -/
structure Sim (n : Nat) (gl : Int) (M : List (Z × Int)) (R : List Int) : Prop where
  nd : (M.map (·.1)).Nodup
  len : R.length = n
  n1 : 1 ≤ n
  n64 : n ≤ 64
  g0 : 0 ≤ gl
  g1 : gl ≤ 2147483647
  fwd : ∀ (x : Z) (e : Int), mget M x = some e → ∃ i : Nat, x.1 = i ∧ R[i]? = some e ∧ gl - 1 ≤ e ∧ e ≤ gl ∧ 0 ≤ e
  bwd : ∀ (i : Nat) (e : Int), R[i]? = some e → e = -1 ∨ (0 ≤ e ∧ ∀ x : Z, x.1 = i → mget M x = some e)

def rE (R : List Int) (s : Int) : Int := if s < 0 ∨ (R.length : Int) ≤ s then 2 else if 0 ≤ R.getD s.toNat 0 then 31 else 0
def rL (R : List Int) (s : Int) : Int := if s < 0 ∨ (R.length : Int) ≤ s then 2 else if R.getD s.toNat 0 < 0 then 51 else 0

theorem Sim.inIt {n : Nat} {gl : Int} {M : List (Z × Int)} {R : List Int} (h : Sim n gl M R) (s : Z) (h0 : 0 ≤ s.1) (h1 : s.1 < n) : (mget M s).isSome = decide (0 ≤ R.getD s.1.toNat 0) := by
  obtain ⟨e, he⟩ : ∃ e, R[s.1.toNat]? = some e := ⟨_, List.getElem?_eq_getElem (by rw [h.len]; omega)⟩
  rw [List.getD_eq_getElem?_getD, he, Option.getD_some, Bool.eq_iff_iff, decide_eq_true_iff]
  constructor
  · intro hs
    obtain ⟨e', he'⟩ := Option.isSome_iff_exists.1 hs
    obtain ⟨i, hi, hR, _, _, h5⟩ := h.fwd s e' he'
    rw [show s.1.toNat = i by omega, hR] at he
    rw [← Option.some.inj he]; exact h5
  · intro hs
    rcases h.bwd _ e he with h2 | ⟨_, h2⟩
    · omega
    · rw [h2 s (by omega)]; rfl
theorem Sim.enterE {n : Nat} {gl : Int} {M : List (Z × Int)} {R : List Int} (h : Sim n gl M R) (s : Z) : isE n M s false 31 = rE R s.1 := by
  unfold isE rE
  rw [h.len]
  by_cases h1 : s.1 < 0 ∨ (n : Int) ≤ s.1
  · rw [if_pos h1, if_pos h1]
  · rw [if_neg h1, if_neg h1, h.inIt s (by omega) (by omega)]
    by_cases h2 : 0 ≤ R.getD s.1.toNat 0
    · rw [if_pos h2, decide_eq_true h2]; rfl
    · rw [if_neg h2, decide_eq_false h2]; rfl
theorem Sim.leaveE {n : Nat} {gl : Int} {M : List (Z × Int)} {R : List Int} (h : Sim n gl M R) (s : Z) : isE n M s true 51 = rL R s.1 := by
  unfold isE rL
  rw [h.len]
  by_cases h1 : s.1 < 0 ∨ (n : Int) ≤ s.1
  · rw [if_pos h1, if_pos h1]
  · rw [if_neg h1, if_neg h1, h.inIt s (by omega) (by omega)]
    by_cases h2 : 0 ≤ R.getD s.1.toNat 0
    · rw [if_neg (show ¬ R.getD s.1.toNat 0 < 0 by omega), decide_eq_true h2]; rfl
    · rw [if_pos (show R.getD s.1.toNat 0 < 0 by omega), decide_eq_false h2]; rfl
theorem Sim.put {n : Nat} {gl : Int} {M : List (Z × Int)} {R : List Int} (h : Sim n gl M R) (s : Z) (h0 : 0 ≤ s.1) (h1 : s.1 < n) : Sim n gl (mput M s gl) (R.set s.1.toNat gl) := by
  refine ⟨mput_nodup h.nd s gl, by rw [List.length_set, h.len], h.n1, h.n64, h.g0, h.g1, fun x e hx => ?_, fun i e hi => ?_⟩
  · rw [mget_put] at hx
    by_cases hxs : x = s
    · rw [if_pos hxs] at hx
      have he := Option.some.inj hx
      have hl := h.len
      have hg := h.g0
      exact ⟨s.1.toNat, by rw [hxs]; omega, by rw [List.getElem?_set_self (by omega), he], by omega, by omega, by omega⟩
    · rw [if_neg hxs] at hx
      obtain ⟨i, hi, hR, h3, h4, h5⟩ := h.fwd x e hx
      refine ⟨i, hi, ?_, h3, h4, h5⟩
      rw [List.getElem?_set_ne (fun e => hxs (Subtype.ext (by omega)))]
      exact hR
  · rw [List.getElem?_set] at hi
    by_cases his : s.1.toNat = i
    · rw [if_pos his] at hi
      split at hi
      · have he := Option.some.inj hi
        have hg := h.g0
        refine .inr ⟨by omega, fun x hx => ?_⟩
        rw [mget_put, if_pos (Subtype.ext (by omega)), he]
      · cases hi
    · rw [if_neg his] at hi
      rcases h.bwd i e hi with h2 | ⟨h2, h3⟩
      · exact .inl h2
      · refine .inr ⟨h2, fun x hx => ?_⟩
        rw [mget_put, if_neg (fun hxs => his (by rw [← hxs]; omega))]
        exact h3 x hx
theorem Sim.del {n : Nat} {gl : Int} {M : List (Z × Int)} {R : List Int} (h : Sim n gl M R) (s : Z) (h0 : 0 ≤ s.1) (h1 : s.1 < n) : Sim n gl (mdel M s) (R.set s.1.toNat (-1)) := by
  refine ⟨mdel_nodup h.nd s, by rw [List.length_set, h.len], h.n1, h.n64, h.g0, h.g1, fun x e hx => ?_, fun i e hi => ?_⟩
  · rw [mget_del h.nd] at hx
    by_cases hxs : x = s
    · rw [if_pos hxs] at hx; cases hx
    · rw [if_neg hxs] at hx
      obtain ⟨i, hi, hR, h3, h4, h5⟩ := h.fwd x e hx
      refine ⟨i, hi, ?_, h3, h4, h5⟩
      rw [List.getElem?_set_ne (fun e => hxs (Subtype.ext (by omega)))]
      exact hR
  · rw [List.getElem?_set] at hi
    by_cases his : s.1.toNat = i
    · rw [if_pos his] at hi
      split at hi
      · exact .inl (Option.some.inj hi).symm
      · cases hi
    · rw [if_neg his] at hi
      rcases h.bwd i e hi with h2 | ⟨h2, h3⟩
      · exact .inl h2
      · refine .inr ⟨h2, fun x hx => ?_⟩
        rw [mget_del h.nd, if_neg (fun hxs => his (by rw [← hxs]; omega))]
        exact h3 x hx
theorem rE_zero {R : List Int} {s : Int} (h : rE R s = 0) : 0 ≤ s ∧ s < R.length ∧ R.getD s.toNat 0 < 0 := by
  unfold rE at h
  split at h
  · cases h
  · split at h
    · cases h
    · omega
theorem rL_zero {R : List Int} {s : Int} (h : rL R s = 0) : 0 ≤ s ∧ s < R.length ∧ 0 ≤ R.getD s.toNat 0 := by
  unfold rL at h
  split at h
  · cases h
  · split at h
    · cases h
    · omega
theorem Sim.enter {n : Nat} {gl : Int} {M : List (Z × Int)} {R : List Int} (h : Sim n gl M R) (s : Z) : Sim n gl (enterM n gl M s) (if rE R s.1 = 0 then R.set s.1.toNat gl else R) := by
  unfold enterM
  rw [h.enterE s]
  split
  · rename_i h0
    obtain ⟨h1, h2, _⟩ := rE_zero h0
    rw [h.len] at h2
    exact h.put s h1 h2
  · exact h
theorem Sim.leave {n : Nat} {gl : Int} {M : List (Z × Int)} {R : List Int} (h : Sim n gl M R) (s : Z) : Sim n gl (leaveM n M s) (if rL R s.1 = 0 then R.set s.1.toNat (-1) else R) := by
  unfold leaveM
  rw [h.leaveE s]
  split
  · rename_i h0
    obtain ⟨h1, h2, _⟩ := rL_zero h0
    rw [h.len] at h2
    exact h.del s h1 h2
  · exact h
/-- refreshed: the number, the error, the row -/
theorem Sim.ref {n : Nat} {gl : Int} {M : List (Z × Int)} {R : List Int} (h : Sim n gl M R) (s : Z) :
    refE n M s = rL R s.1 ∧ refN n gl M s = (if rL R s.1 = 0 then gl else 0) ∧ Sim n gl (refM n gl M s) (if rL R s.1 = 0 then (R.set s.1.toNat (-1)).set s.1.toNat gl else R) := by
  have hl := h.leave s
  unfold refE refN refM
  rw [h.leaveE s]
  by_cases h0 : rL R s.1 = 0
  · rw [if_pos h0, if_pos h0, if_pos h0, if_pos h0]
    rw [if_pos h0] at hl
    obtain ⟨h1, h2, _⟩ := rL_zero h0
    have hE : rE (R.set s.1.toNat (-1)) s.1 = 0 := by
      unfold rE
      rw [List.length_set, if_neg (by omega), List.getD_eq_getElem?_getD, List.getElem?_set_self (by omega)]
      rfl
    have h3 := hl.enter s
    rw [if_pos hE] at h3
    rw [h0]
    refine ⟨by rw [hl.enterE s]; exact hE, ?_, ?_⟩
    · unfold enterN
      rw [hl.enterE s, if_pos hE]
    · rw [if_pos rfl]; exact h3
  · rw [if_neg h0, if_neg h0, if_neg h0, if_neg h0, if_neg h0]
    rw [if_neg h0] at hl
    exact ⟨rfl, rfl, hl⟩

/-! ### the least -/
def rleast (gl : Int) (R : List Int) : Int := R.foldl (fun m x => if 0 ≤ x ∧ x < m then x else m) gl
theorem IsLeast.congr {m gl : Int} {vs ws : List Int} (h : IsLeast m gl vs) (he : ∀ x, x ∈ vs ↔ x ∈ ws) : IsLeast m gl ws :=
  ⟨h.le, fun x hx => h.all x ((he x).2 hx), h.mem.imp id fun h => (he _).1 h⟩
theorem rleast_any : ∀ (R : List Int) (gl : Int), IsLeast (rleast gl R) gl (R.filter fun x => decide (0 ≤ x))
  | [], gl => ⟨Int.le_refl _, fun x hx => by simp at hx, .inl rfl⟩
  | y :: R, gl => by
    have ih := rleast_any R (if 0 ≤ y ∧ y < gl then y else gl)
    have e : rleast gl (y :: R) = rleast (if 0 ≤ y ∧ y < gl then y else gl) R := rfl
    rw [e]
    generalize rleast (if 0 ≤ y ∧ y < gl then y else gl) R = m at *
    have h1 := ih.le
    refine ⟨?_, fun x hx => ?_, ?_⟩
    · split at h1 <;> omega
    · simp only [List.mem_filter, decide_eq_true_eq] at hx
      rcases List.mem_cons.1 hx.1 with rfl | hx1
      · split at h1
        · exact h1
        · omega
      · exact ih.all x (by simp only [List.mem_filter, decide_eq_true_eq]; exact ⟨hx1, hx.2⟩)
    · rcases ih.mem with h2 | h2
      · split at h2
        · rename_i h3
          right
          rw [h2]
          simp only [List.mem_filter, decide_eq_true_eq]
          exact ⟨List.mem_cons_self, h3.1⟩
        · exact .inl h2
      · right
        simp only [List.mem_filter, decide_eq_true_eq] at h2 ⊢
        exact ⟨List.mem_cons_of_mem _ h2.1, h2.2⟩
theorem Sim.vals {n : Nat} {gl : Int} {M : List (Z × Int)} {R : List Int} (h : Sim n gl M R) (x : Int) : x ∈ R.filter (fun x => decide (0 ≤ x)) ↔ x ∈ M.map (·.2) := by
  simp only [List.mem_filter, decide_eq_true_eq, List.mem_map]
  constructor
  · rintro ⟨hx, h0⟩
    obtain ⟨i, hi⟩ := List.mem_iff_getElem?.1 hx
    have hil := (List.getElem?_eq_some_iff.1 hi).1
    have hn := h.n64
    have hl := h.len
    rcases h.bwd i x hi with h2 | ⟨_, h2⟩
    · omega
    · exact ⟨(zI i (by omega), x), mem_of_mget (h2 _ rfl), rfl⟩
  · rintro ⟨⟨k, e⟩, hm, rfl⟩
    obtain ⟨i, _, hR, _, _, h5⟩ := h.fwd k e (mget_mem h.nd hm)
    exact ⟨List.mem_of_getElem? hR, h5⟩
theorem Sim.least {n : Nat} {gl m : Int} {M : List (Z × Int)} {R : List Int} (h : Sim n gl M R) (hm : IsLeast m gl (M.map (·.2))) : m = rleast gl R ∧ gl - 1 ≤ m := by
  refine ⟨hm.unique ((rleast_any R gl).congr h.vals), ?_⟩
  rcases hm.mem with h1 | h1
  · omega
  · obtain ⟨⟨k, e⟩, h2, rfl⟩ := List.mem_map.1 h1
    obtain ⟨i, _, _, h3, _, _⟩ := h.fwd k e (mget_mem h.nd h2)
    exact h3
def rAN (gl : Int) (R : List Int) : Int := if gl = 2147483647 then 0 else if rleast gl R ≠ gl then 0 else gl + 1
def rAE (gl : Int) (R : List Int) : Int := if gl = 2147483647 then 40 else if rleast gl R ≠ gl then 60 else 0
def rAG (gl : Int) (R : List Int) : Int := if gl = 2147483647 then gl else if rleast gl R ≠ gl then gl else gl + 1
theorem Sim.adv {n : Nat} {gl m : Int} {M : List (Z × Int)} {R : List Int} (h : Sim n gl M R) (hm : IsLeast m gl (M.map (·.2))) :
    advN gl m = rAN gl R ∧ advE gl m = rAE gl R ∧ advG gl m = rAG gl R ∧ Sim n (advG gl m) M R := by
  obtain ⟨h1, h2⟩ := h.least hm
  have h3 := hm.le
  unfold advN advE advG rAN rAE rAG
  rw [← h1]
  by_cases hg : gl = 2147483647
  · simp only [if_pos hg]
    exact ⟨trivial, trivial, trivial, h⟩
  · simp only [if_neg hg]
    by_cases hl : m < gl
    · simp only [if_pos hl, if_pos (show m ≠ gl by omega)]
      exact ⟨trivial, trivial, trivial, h⟩
    · simp only [if_neg hl, if_neg (show ¬ m ≠ gl by omega)]
      have hgg := h.g1
      have hg0 := h.g0
      refine ⟨trivial, trivial, trivial, h.nd, h.len, h.n1, h.n64, by omega, by omega, fun x e hx => ?_, h.bwd⟩
      obtain ⟨i, hi, hR, h4, h5, h6⟩ := h.fwd x e hx
      refine ⟨i, hi, hR, ?_, by omega, h6⟩
      have := hm.all e (List.mem_map.2 ⟨(x, e), mem_of_mget hx, rfl⟩)
      omega

/-! ### who is in one -/
def inN (R : List Int) (i : Nat) : Bool := decide (0 ≤ R.getD i (-1))
def cnt (R : List Int) (i : Nat) : Nat := ((List.range i).filter (inN R)).length
def busyP (R : List Int) : List Int := ((List.range R.length).filter (inN R)).map (Int.ofNat ·)
theorem cnt_succ (R : List Int) (i : Nat) : cnt R (i + 1) = if inN R i = true then cnt R i + 1 else cnt R i := by
  unfold cnt
  rw [List.range_succ, List.filter_append, List.length_append]
  by_cases h : inN R i = true
  · rw [if_pos h]; simp [h]
  · rw [if_neg h]; simp [h]
theorem busyP_len (R : List Int) : (busyP R).length = cnt R R.length := by unfold busyP cnt; rw [List.length_map]
theorem busyP_get {R : List Int} {i : Nat} (hi : i < R.length) (h : inN R i = true) : (busyP R)[cnt R i]? = some (i : Int) := by
  unfold busyP cnt
  obtain ⟨m, hm⟩ : ∃ m, R.length = i + (m + 1) := ⟨R.length - i - 1, by omega⟩
  rw [hm, List.range_add, List.range_succ_eq_map, List.map_cons, List.filter_append, List.getElem?_map, List.getElem?_append_right (Nat.le_refl _), Nat.sub_self, Nat.add_zero, List.filter_cons_of_pos h]
  rfl
theorem busyP_sorted (R : List Int) : (busyP R).Pairwise (fun x y => decide (x ≤ y) = true) := by
  unfold busyP
  rw [List.pairwise_map]
  refine List.Pairwise.filter _ ?_
  refine (List.pairwise_lt_range).imp fun {a b} hab => ?_
  simp only [decide_eq_true_eq]
  show (a : Int) ≤ (b : Int)
  omega
theorem busyP_nodup (R : List Int) : (busyP R).Nodup := by
  unfold busyP
  rw [List.nodup_iff_pairwise_ne, List.pairwise_map]
  refine List.Pairwise.filter _ ?_
  refine (List.pairwise_lt_range).imp fun {a b} hab => ?_
  show (a : Int) ≠ (b : Int)
  omega
theorem Sim.keys {n : Nat} {gl : Int} {M : List (Z × Int)} {R : List Int} (h : Sim n gl M R) : (M.map (·.1.1)).Perm (busyP R) := by
  refine perm_of_nodup ?_ (busyP_nodup R) fun x => ?_
  · have := h.nd
    rw [List.nodup_iff_pairwise_ne, List.pairwise_map] at this ⊢
    exact this.imp fun {a b} hab e => hab (Subtype.ext e)
  · unfold busyP
    simp only [List.mem_map, List.mem_filter, List.mem_range]
    constructor
    · rintro ⟨⟨k, e⟩, hm, rfl⟩
      obtain ⟨i, hi, hR, _, _, h5⟩ := h.fwd k e (mget_mem h.nd hm)
      refine ⟨i, ⟨(List.getElem?_eq_some_iff.1 hR).1, ?_⟩, hi.symm⟩
      unfold inN
      rw [List.getD_eq_getElem?_getD, hR]
      exact decide_eq_true h5
    · rintro ⟨i, ⟨hil, hin⟩, rfl⟩
      unfold inN at hin
      rw [List.getD_eq_getElem?_getD, List.getElem?_eq_getElem hil, Option.getD_some] at hin
      have h0 := of_decide_eq_true hin
      have hn := h.n64
      have hl := h.len
      rcases h.bwd i _ (List.getElem?_eq_getElem hil) with h2 | ⟨_, h2⟩
      · omega
      · exact ⟨(zI i (by omega), R[i]), mem_of_mget (h2 _ rfl), rfl⟩
theorem Sim.busy {n : Nat} {gl : Int} {M : List (Z × Int)} {R : List Int} (h : Sim n gl M R) {ks : List Int} (hk : ks.Perm (M.map (·.1.1))) : ks.mergeSort (fun x y => decide (x ≤ y)) = busyP R := by
  have h1 : ks.Perm (busyP R) := hk.trans h.keys
  have h2 := List.mergeSort_perm ks (fun x y => decide (x ≤ y))
  have h3 : (ks.mergeSort (fun x y => decide (x ≤ y))).Pairwise (fun x y => decide (x ≤ y) = true) := List.pairwise_mergeSort (fun a b c hab hbc => by simp only [decide_eq_true_eq] at *; omega) (fun a b => by simp only [Bool.or_eq_true, decide_eq_true_eq]; omega) ks
  exact List.Perm.eq_of_pairwise (fun a b _ _ hab hba => by simp only [decide_eq_true_eq] at *; omega) h3 (busyP_sorted R) (h2.trans h1)

end Go.Proofs.Ytjphmbflggeciaa
