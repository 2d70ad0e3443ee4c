/- The plain law of LimboActs: a limbo and the reference's list. -/
import Derived.Test.YtfjlclloddbkmaaLRows
import Derived.Test.YtfjlclloddbkmaaBack
namespace Go.Proofs.Ytfjlclloddbkmaa
open Go.RowKit Go.Cw

/-- a limbo's row and map, and the reference's items, say the same -/
structure Sm (row : List K) (M L : List (K × Int)) : Prop where
  row : row = L.map (·.1)
  nd : (L.map (·.1)).Nodup
  ndm : (M.map (·.1)).Nodup
  get : ∀ x v, mget M x = some v ↔ (x, v) ∈ L

theorem Sm.nil : Sm [] [] [] := ⟨rfl, List.nodup_nil, List.nodup_nil, fun x v => by simp [mget]⟩
theorem Sm.getL {row : List K} {M L : List (K × Int)} (h : Sm row M L) (x : K) : mget L x = mget M x := by
  cases hm : mget M x with
  | none =>
    cases hl : mget L x with
    | none => rfl
    | some v =>
      have := (h.get x v).2 (mem_of_mget hl)
      rw [hm] at this; cases this
  | some v => exact mget_mem h.nd ((h.get x v).1 hm)
theorem Sm.none {row : List K} {M L : List (K × Int)} (h : Sm row M L) {x : K} (hx : mget M x = none) : ∀ p ∈ L, p.1 ≠ x := fun p hp e => by
  have := (h.get p.1 p.2).2 hp
  rw [e, hx] at this; cases this
theorem map_filter_key (L : List (K × Int)) (f : K → Bool) : (L.map (·.1)).filter f = (L.filter fun p => f p.1).map (·.1) := by
  rw [List.filter_map]; rfl
theorem nodup_filter_key {L : List (K × Int)} (h : (L.map (·.1)).Nodup) (q : K × Int → Bool) : ((L.filter q).map (·.1)).Nodup :=
  List.Nodup.sublist (List.Sublist.map _ List.filter_sublist) h

noncomputable def rret (e : Int) (L : List (K × Int)) (x : K) : List (K × Int) :=
  (L.filter fun p => !decide (p.1 = x)) ++ [(x, match mget L x with | some old => if e < old then old else e | none => e)]
theorem Sm.ret1 {row : List K} {M L : List (K × Int)} (h : Sm row M L) (e : Int) (x : K) : Sm (ret1 e (row, M) x).1 (ret1 e (row, M) x).2 (rret e L x) := by
  have hkey : ∀ v : Int, ((L.filter fun p : K × Int => !decide (p.1 = x)) ++ [(x, v)]).map (fun q : K × Int => q.1) = (row.filter fun y => !decide (y = x)) ++ [x] := fun v => by
    rw [List.map_append, h.row, map_filter_key]; rfl
  have hnd : ∀ v : Int, (((L.filter fun p : K × Int => !decide (p.1 = x)) ++ [(x, v)]).map (fun q : K × Int => q.1)).Nodup := fun v => by
    rw [List.map_append, List.nodup_append]
    refine ⟨nodup_filter_key h.nd _, by simp, fun a ha b hb => ?_⟩
    simp only [List.map_cons, List.map_nil, List.mem_singleton] at hb
    subst hb
    obtain ⟨p, hp, rfl⟩ := List.mem_map.1 ha
    have := (List.mem_filter.1 hp).2
    simpa using this
  have hget : ∀ (v : Int) (M' : List (K × Int)), (∀ y, mget M' y = if y = x then some v else mget M y) → ∀ (y : K) (u : Int), mget M' y = some u ↔ (y, u) ∈ (L.filter fun p : K × Int => !decide (p.1 = x)) ++ [(x, v)] := fun v M' hM y u => by
    rw [hM y]
    by_cases hy : y = x
    · rw [if_pos hy, hy]
      simp [List.mem_filter, eq_comm]
    · rw [if_neg hy, h.get y u]
      simp [List.mem_filter, hy]
  unfold Ytfjlclloddbkmaa.ret1 rret
  simp only
  rw [h.getL x]
  cases hm : mget M x with
  | none =>
    simp only
    refine ⟨?_, hnd e, mput_nodup h.ndm x e, hget e _ fun y => mget_put M x e y⟩
    rw [hkey e]
    congr 1
    rw [List.filter_eq_self.2]
    intro y hy
    rw [h.row] at hy
    obtain ⟨p, hp, rfl⟩ := List.mem_map.1 hy
    simpa using h.none hm p hp
  | some old =>
    simp only
    have hmx : max old e = if e < old then old else e := by split <;> omega
    rw [hmx]
    exact ⟨(hkey _).symm, hnd _, mput_nodup h.ndm x _, hget _ _ fun y => mget_put M x _ y⟩
theorem mget_delsL : ∀ (G : List K) {M : List (K × Int)}, (M.map (·.1)).Nodup → ∀ x, mget (dels M G) x = if x ∈ G then none else mget M x
  | [], M, _, x => by simp [dels]
  | g :: G, M, hn, x => by
    have h1 : dels M (g :: G) = dels (mdel M g) G := rfl
    rw [h1, mget_delsL G (mdel_nodup hn g) x, mget_del hn]
    by_cases hx : x = g
    · simp [hx]
    · by_cases hG : x ∈ G
      · simp [hG]
      · simp [hG, hx]
theorem dels_nodupL : ∀ (G : List K) {M : List (K × Int)}, (M.map (·.1)).Nodup → ((dels M G).map (·.1)).Nodup
  | [], _, h => h
  | g :: G, _, h => dels_nodupL G (mdel_nodup h g)
theorem Sm.part {row : List K} {M L : List (K × Int)} (h : Sm row M L) (p : K → Bool) (q : K × Int → Bool) (hpq : ∀ z ∈ L, p z.1 = q z) :
    Sm (row.filter fun x => !p x) (dels M (row.filter p)) (L.filter fun z => !q z) ∧ row.filter p = (L.filter q).map (·.1) := by
  have h1 : row.filter p = (L.filter q).map (·.1) := by
    rw [h.row, map_filter_key]
    congr 1
    exact List.filter_congr hpq
  have h2 : (row.filter fun x => !p x) = (L.filter fun z => !q z).map (·.1) := by
    rw [h.row, map_filter_key]
    congr 1
    exact List.filter_congr fun z hz => by rw [hpq z hz]
  refine ⟨⟨h2, nodup_filter_key h.nd _, dels_nodupL _ h.ndm, fun x v => ?_⟩, h1⟩
  rw [mget_delsL _ h.ndm]
  constructor
  · intro hx
    split at hx
    · cases hx
    · rename_i hg
      have hm := (h.get x v).1 hx
      refine List.mem_filter.2 ⟨hm, ?_⟩
      cases hq : q (x, v)
      · rfl
      · exact absurd (by rw [h1]; exact List.mem_map.2 ⟨(x, v), List.mem_filter.2 ⟨hm, hq⟩, rfl⟩) hg
  · intro hx
    obtain ⟨hm, hq⟩ := List.mem_filter.1 hx
    rw [if_neg]
    · exact (h.get x v).2 hm
    · intro hg
      have hp := (List.mem_filter.1 hg).2
      rw [hpq (x, v) hm] at hp
      rw [hp] at hq
      cases hq
theorem Sm.take {row : List K} {M L : List (K × Int)} (h : Sm row M L) (least : Int) :
    Sm (row.filter fun x => !decide ((mget M x).getD 0 < least)) (dels M (row.filter fun x => decide ((mget M x).getD 0 < least))) (L.filter fun z => !decide (z.2 < least)) ∧ (row.filter fun x => decide ((mget M x).getD 0 < least)) = (L.filter fun z => decide (z.2 < least)).map (·.1) :=
  h.part (fun x => decide ((mget M x).getD 0 < least)) (fun z => decide (z.2 < least)) fun z hz => by
    show decide ((mget M z.1).getD 0 < least) = decide (z.2 < least)
    rw [(h.get z.1 z.2).2 hz]; rfl
/-- what is left behind the first keys -/
noncomputable def lft (L : List (K × Int)) (xs : List K) : List (K × Int) := L.filter fun z => !decide (z.1 ∈ xs)
theorem lft_nil (L : List (K × Int)) : lft L [] = L := by unfold lft; simp
theorem lft_succ (L : List (K × Int)) {xs : List K} {k : Nat} {x : K} (h : xs[k]? = some x) : lft L (xs.take (k + 1)) = (lft L (xs.take k)).filter fun z => !decide (z.1 = x) := by
  obtain ⟨hl, rfl⟩ := List.getElem?_eq_some_iff.1 h
  unfold lft
  rw [List.filter_filter, List.take_succ_eq_append_getElem hl]
  apply List.filter_congr
  intro z _
  simp only [List.mem_append, List.mem_singleton]
  by_cases h1 : z.1 ∈ xs.take k <;> by_cases h2 : z.1 = xs[k] <;> simp [h1, h2]
theorem drop_count {L : List (K × Int)} (h : (L.map (·.1)).Nodup) {x : K} {v : Int} (hx : (x, v) ∈ L) : (L.filter fun z => !decide (z.1 = x)).length + 1 = L.length := by
  obtain ⟨i, hi⟩ := List.mem_iff_getElem?.1 hx
  have h1 := mdel_old h hi
  have h2 : mdel L x = L.filter fun z => !decide (z.1 = x) := by
    rw [mdel_eq h]
    apply List.filter_congr
    intro z _
    simp
  have hl := (List.getElem?_eq_some_iff.1 hi).1
  rw [← h2, h1, List.length_eraseIdx_of_lt hl]
  omega
theorem drop_eq {L : List (K × Int)} (h : (L.map (·.1)).Nodup) {x : K} {v : Int} {i : Nat} (hi : L[i]? = some (x, v)) : L.take i ++ L.drop (i + 1) = L.filter fun z => !decide (z.1 = x) := by
  have h1 := mdel_old h hi
  rw [mdel_eq h] at h1
  rw [← List.eraseIdx_eq_take_drop_succ, ← h1]
  apply List.filter_congr
  intro z _
  simp
theorem fil_len {α : Type} (q : α → Bool) : ∀ L : List α, (L.filter q).length + (L.filter fun z => !q z).length = L.length
  | [] => rfl
  | z :: L => by
    have ih := fil_len q L
    cases hq : q z
    · rw [List.filter_cons_of_neg (by simp [hq]), List.filter_cons_of_pos (by simp [hq]), List.length_cons, List.length_cons]; omega
    · rw [List.filter_cons_of_pos (by simp [hq]), List.filter_cons_of_neg (by simp [hq]), List.length_cons, List.length_cons]; omega
theorem Sm.back {row : List K} {M L : List (K × Int)} (h : Sm row M L) (xs : List K) :
    Sm (row.filter fun x => !decide (x ∈ xs)) (dels M (row.filter fun x => decide (x ∈ xs))) (lft L xs) ∧ (row.filter fun x => decide (x ∈ xs)).length + (lft L xs).length = L.length := by
  obtain ⟨h1, h2⟩ := h.part (fun x => decide (x ∈ xs)) (fun z => decide (z.1 ∈ xs)) fun z _ => rfl
  refine ⟨h1, ?_⟩
  rw [h2, List.length_map]
  unfold lft
  exact fil_len (fun z => decide (z.1 ∈ xs)) L
theorem Sm.len {row : List K} {M L : List (K × Int)} (h : Sm row M L) : row.length = L.length := by rw [h.row, List.length_map]
theorem Sm.vals {row : List K} {M L : List (K × Int)} (h : Sm row M L) (v : Int) : v ∈ M.map (·.2) ↔ v ∈ L.map (·.2) := by
  simp only [List.mem_map]
  constructor
  · rintro ⟨⟨x, u⟩, hx, rfl⟩
    exact ⟨(x, u), (h.get x u).1 (mget_mem h.ndm hx), rfl⟩
  · rintro ⟨⟨x, u⟩, hx, rfl⟩
    exact ⟨(x, u), mem_of_mget ((h.get x u).2 hx), rfl⟩

end Go.Proofs.Ytfjlclloddbkmaa
