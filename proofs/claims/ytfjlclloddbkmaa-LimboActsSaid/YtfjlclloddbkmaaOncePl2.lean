/- The plain law of the second loop of LimboOnce, no program in sight. -/
import Derived.Test.YtfjlclloddbkmaaOncePlain
namespace Go.Proofs.Ytfjlclloddbkmaa
open Go.RowKit Go.Cw

theorem dels_nodup {M : List (K × Int)} (hn : (M.map (·.1)).Nodup) (G : List K) : ((dels M G).map (·.1)).Nodup := by
  induction G generalizing M with
  | nil => exact hn
  | cons y G ih => exact ih (mdel_nodup hn y)
theorem mget_dels {M : List (K × Int)} (hn : (M.map (·.1)).Nodup) {G : List K} {x : K} (hx : x ∉ G) : mget (dels M G) x = mget M x := by
  induction G generalizing M with
  | nil => rfl
  | cons y G ih =>
    simp only [List.mem_cons, not_or] at hx
    show mget (dels (mdel M y) G) x = _
    rw [ih (mdel_nodup hn y) hx.2, mget_del hn, if_neg hx.1]

structure Mid (s : List K × List (K × Int)) (e : Nat) (row : List K) (M : List (K × Int)) (T : List K) : Prop where
  nodup : (T ++ row).Nodup
  perm : (T ++ row).Perm s.1
  same : ∀ x ∈ row, mget M x = mget s.2 x
  least : ∀ x ∈ row, ∃ v : Int, mget s.2 x = some v ∧ (e : Int) ≤ v + 1

theorem Mid.start {s : List K × List (K × Int)} (h : Inv s) : Mid s 0 s.1 s.2 [] := by
  refine ⟨h.nodup, .refl _, fun x _ => rfl, fun x hx => ?_⟩
  have hx' := h.perm.mem_iff.1 hx
  obtain ⟨p, hp, rfl⟩ := List.mem_map.1 hx'
  exact ⟨p.2, mget_mem h.keys hp, by have := h.bd p hp; show ((0 : Nat) : Int) ≤ p.2 + 1; omega⟩

noncomputable def gone (e : Nat) (row : List K) (M : List (K × Int)) : List K := row.filter (fun x => decide ((mget M x).getD 0 < (e : Int)))
noncomputable def left (e : Nat) (row : List K) (M : List (K × Int)) : List K := row.filter (fun x => !decide ((mget M x).getD 0 < (e : Int)))

variable {s : List K × List (K × Int)} {e : Nat} {row T : List K} {M : List (K × Int)}

theorem Mid.got (h : Mid s e row M T) {x : K} (hx : x ∈ gone e row M) : mget s.2 x = some ((e : Int) - 1) := by
  obtain ⟨h1, h2⟩ := List.mem_filter.1 hx
  obtain ⟨v, hv, he⟩ := h.least x h1
  rw [h.same x h1, hv] at h2
  simp only [Option.getD_some, decide_eq_true_eq] at h2
  rw [hv, show v = (e : Int) - 1 by omega]

theorem gone_left (e : Nat) (row : List K) (M : List (K × Int)) : (gone e row M ++ left e row M).Perm row := List.filter_append_perm _ _
theorem Mid.perm' (h : Mid s e row M T) : ((T ++ gone e row M) ++ left e row M).Perm (T ++ row) := by
  rw [List.append_assoc]; exact (gone_left e row M).append_left T
theorem Mid.nodup' (h : Mid s e row M T) : ((T ++ gone e row M) ++ left e row M).Nodup := h.perm'.nodup_iff.2 h.nodup

theorem Mid.step (h : Mid s e row M T) (hn : (M.map (·.1)).Nodup) : Mid s (e + 1) (left e row M) (dels M (gone e row M)) (T ++ gone e row M) := by
  refine ⟨h.nodup', h.perm'.trans h.perm, fun x hx => ?_, fun x hx => ?_⟩
  · have hx1 := (List.mem_filter.1 hx)
    rw [mget_dels hn, h.same x hx1.1]
    intro hg
    have hg1 := (List.mem_filter.1 hg).2
    have := hx1.2
    rw [hg1] at this; simp at this
  · have hx1 := (List.mem_filter.1 hx)
    obtain ⟨v, hv, he⟩ := h.least x hx1.1
    refine ⟨v, hv, ?_⟩
    have h2 := hx1.2
    rw [h.same x hx1.1, hv] at h2
    simp only [Option.getD_some, Bool.not_eq_true', decide_eq_false_iff_not] at h2
    omega

/-- the key of a round is new -/
theorem Mid.new (h : Mid s e row M T) {k : Nat} {x : K} (hx : (gone e row M)[k]? = some x) : x ∉ T ++ (gone e row M).take k := by
  have hn := (List.nodup_append.1 h.nodup').1
  obtain ⟨hl, he⟩ := List.getElem?_eq_some_iff.1 hx
  intro hm
  have h2 : T ++ gone e row M = (T ++ (gone e row M).take k) ++ (gone e row M).drop k := by rw [List.append_assoc, List.take_append_drop]
  rw [h2] at hn
  have := (List.nodup_append.1 hn).2.2 x hm x (by rw [List.drop_eq_getElem_cons hl, he]; simp)
  exact this rfl

theorem Mid.done (h : Mid s 101 row M T) (hi : Inv s) : row = [] ∧ T.length = s.2.length := by
  have hr : row = [] := by
    rcases row with _ | ⟨x, r⟩
    · rfl
    · obtain ⟨v, hv, he⟩ := h.least x (by simp)
      have := hi.bd _ (mem_of_mget hv)
      simp only at this
      omega
  refine ⟨hr, ?_⟩
  have := h.perm.length_eq
  rw [hr, List.append_nil] at this
  rw [this, hi.len]
theorem Mid.len (h : Mid s e row M T) : row.length ≤ s.1.length := by
  have := h.perm.length_eq
  rw [List.length_append] at this; omega

/-- the counts so far -/
noncomputable def ones (T : List K) : List (K × Int) := T.map fun x => (x, 1)
theorem ones_len (T : List K) : (ones T).length = T.length := by simp [ones]
theorem ones_get {T : List K} {x : K} (h : x ∉ T) : mget (ones T) x = none := by
  rw [mget_eq_none]; simpa [ones, Function.comp_def] using h
theorem ones_put {T : List K} {x : K} (h : x ∉ T) : mput (ones T) x 1 = ones (T ++ [x]) := by
  rw [mput_new]
  · simp [ones]
  · intro p hp
    obtain ⟨y, hy, rfl⟩ := List.mem_map.1 hp
    rintro rfl
    exact h hy
theorem take_more {T G : List K} {k : Nat} {x : K} (h : G[k]? = some x) : T ++ G.take k ++ [x] = T ++ G.take (k + 1) := by
  obtain ⟨hl, rfl⟩ := List.getElem?_eq_some_iff.1 h
  rw [List.take_succ_eq_append_getElem hl, List.append_assoc]

end Go.Proofs.Ytfjlclloddbkmaa
