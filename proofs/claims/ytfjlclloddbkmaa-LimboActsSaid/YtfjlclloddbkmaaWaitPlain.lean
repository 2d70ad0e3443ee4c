/- The plain law of LimboWaits, no program in sight. -/
import Derived.Test.YtfjlclloddbkmaaOncePl2
import Derived.Test.YtfjlclloddbkmaaBack
namespace Go.Proofs.Ytfjlclloddbkmaa
open Go.RowKit Go.Cw

/-- an epoch as LimboWaits takes it -/
def ep3 (z : Int) : Int := (z.tmod 1000 + 1000) % 1000
theorem ep3_bd (z : Int) : 0 ≤ ep3 z ∧ ep3 z ≤ 999 := by unfold ep3; omega
theorem tmod1000 (z : Int) : -1000 < z.tmod 1000 ∧ z.tmod 1000 < 1000 := by
  have h1 := Int.tmod_lt_of_pos z (show (0 : Int) < 1000 by decide)
  have h2 := Int.tmod_lt_of_pos (-z) (show (0 : Int) < 1000 by decide)
  rw [Int.neg_tmod] at h2
  omega

/-- the row holds each key once, and the map tells these keys and no other -/
structure Wf (row : List K) (M : List (K × Int)) : Prop where
  nodup : row.Nodup
  mem : ∀ x, x ∈ row ↔ mget M x ≠ none

theorem Wf.nil : Wf [] [] := ⟨by simp, fun x => by simp [mget]⟩

theorem Wf.ret1 {s : List K × List (K × Int)} (h : Wf s.1 s.2) (e : Int) (x : K) : Wf (ret1 e s x).1 (ret1 e s x).2 := by
  unfold Go.Proofs.Ytfjlclloddbkmaa.ret1
  split
  · rename_i old ho
    refine ⟨?_, fun y => ?_⟩
    · simp only
      rw [List.nodup_append]
      refine ⟨h.nodup.filter _, by simp, fun a ha b hb => ?_⟩
      simp only [List.mem_singleton] at hb
      subst hb
      have := (List.mem_filter.1 ha).2
      simpa using this
    · simp only [mget_put]
      by_cases hyx : y = x
      · simp [hyx]
      · rw [if_neg hyx, ← h.mem y]
        simp [hyx]
  · rename_i ho
    refine ⟨?_, fun y => ?_⟩
    · simp only
      rw [List.nodup_append]
      refine ⟨h.nodup, by simp, fun a ha b hb => ?_⟩
      simp only [List.mem_singleton] at hb
      subst hb
      rintro rfl
      exact (h.mem a).1 ha ho
    · simp only [mget_put]
      by_cases hyx : y = x
      · simp [hyx]
      · rw [if_neg hyx, ← h.mem y]
        simp [hyx]

theorem Wf.rets {xs : List K} : ∀ {s : List K × List (K × Int)}, Wf s.1 s.2 → ∀ (e : Int), Wf (rets e s xs).1 (rets e s xs).2 := by
  induction xs with
  | nil => intro s h e; exact h
  | cons x xs ih => intro s h e; exact ih (s := Go.Proofs.Ytfjlclloddbkmaa.ret1 e s x) (h.ret1 e x) e

theorem mget_dels_in {M : List (K × Int)} (hn : (M.map (·.1)).Nodup) {G : List K} {x : K} (hx : x ∈ G) : mget (dels M G) x = none := by
  induction G generalizing M with
  | nil => cases hx
  | cons y G ih =>
    show mget (dels (mdel M y) G) x = _
    by_cases hg : x ∈ G
    · exact ih (mdel_nodup hn y) hg
    · have : x = y := by simpa [hg] using hx
      rw [mget_dels (mdel_nodup hn y) hg, mget_del hn, if_pos this]

/-- what is taken out goes from the map, too -/
theorem Wf.part {row : List K} {M : List (K × Int)} (h : Wf row M) (hn : (M.map (·.1)).Nodup) (p : K → Bool) : Wf (row.filter (fun x => !p x)) (dels M (row.filter p)) := by
  refine ⟨h.nodup.filter _, fun x => ?_⟩
  by_cases hx : x ∈ row.filter p
  · rw [mget_dels_in hn hx]
    have := (List.mem_filter.1 hx).2
    simp [this]
  · rw [mget_dels hn hx, ← h.mem x]
    simp only [List.mem_filter, not_and] at hx ⊢
    constructor
    · exact fun h => h.1
    · intro h; refine ⟨h, ?_⟩
      have := hx h
      simpa using this

/-- k stands in the row, at e -/
structure Has (k : K) (e : Int) (row : List K) (M : List (K × Int)) : Prop where
  nodup : row.Nodup
  mem : k ∈ row
  get : mget M k = some e

theorem Has.start {row : List K} {M : List (K × Int)} (h : Wf row M) (hn : (M.map (·.1)).Nodup) (k : K) (e : Int) :
    Has k e (rets e (row.filter (fun x => !decide (x ∈ [k])), dels M (row.filter (fun x => decide (x ∈ [k])))) [k]).1 (rets e (row.filter (fun x => !decide (x ∈ [k])), dels M (row.filter (fun x => decide (x ∈ [k])))) [k]).2 := by
  have h2 := h.part hn (fun x => decide (x ∈ [k]))
  generalize hr : row.filter (fun x => !decide (x ∈ [k])) = r at *
  generalize dels M (row.filter (fun x => decide (x ∈ [k]))) = N at *
  have hk : k ∉ r := by rw [← hr]; simp
  have hg : mget N k = none := by
    have := mt (h2.mem k).2 hk
    simpa using this
  have hw := Wf.ret1 (s := (r, N)) h2 e k
  show Has k e (ret1 e (r, N) k).1 (ret1 e (r, N) k).2
  unfold ret1 at hw ⊢
  simp only [hg] at hw ⊢
  exact ⟨hw.nodup, by simp, by rw [mget_put, if_pos rfl]⟩

variable {k : K} {e : Int} {row : List K} {M : List (K × Int)}
theorem part_len (row : List K) (p : K → Bool) : (row.filter p).length + (row.filter (fun x => !p x)).length = row.length := by
  have := (List.filter_append_perm p row).length_eq
  rwa [List.length_append] at this

/-- at an epoch that isn't later the key stays -/
theorem Has.stays (h : Has k e row M) (hn : (M.map (·.1)).Nodup) {i : Int} (hi : i ≤ e) :
    k ∉ row.filter (fun x => decide ((mget M x).getD 0 < i)) ∧ Has k e (row.filter (fun x => !decide ((mget M x).getD 0 < i))) (dels M (row.filter (fun x => decide ((mget M x).getD 0 < i)))) := by
  have hk : k ∉ row.filter (fun x => decide ((mget M x).getD 0 < i)) := by
    simp only [List.mem_filter, h.get, Option.getD_some, decide_eq_true_eq, not_and]
    intro _; omega
  refine ⟨hk, h.nodup.filter _, ?_, by rw [mget_dels hn hk, h.get]⟩
  simp only [List.mem_filter, h.mem, h.get, Option.getD_some, true_and, Bool.not_eq_true', decide_eq_false_iff_not]
  omega

/-- at the next it goes -/
theorem Has.goes (h : Has k e row M) (hn : (M.map (·.1)).Nodup) :
    (row.filter (fun x => decide ((mget M x).getD 0 < e + 1))).Nodup ∧ k ∈ row.filter (fun x => decide ((mget M x).getD 0 < e + 1)) ∧ mget (dels M (row.filter (fun x => decide ((mget M x).getD 0 < e + 1)))) k = none := by
  have hk : k ∈ row.filter (fun x => decide ((mget M x).getD 0 < e + 1)) := by
    simp only [List.mem_filter, h.mem, h.get, Option.getD_some, true_and, decide_eq_true_eq]
    omega
  exact ⟨h.nodup.filter _, hk, mget_dels_in hn hk⟩

theorem count_succ {gs : List K} {n : Nat} {x : K} (h : gs[n]? = some x) (k : K) : (gs.take (n + 1)).count k = (gs.take n).count k + if x = k then 1 else 0 := by
  obtain ⟨hl, rfl⟩ := List.getElem?_eq_some_iff.1 h
  rw [List.take_succ_eq_append_getElem hl, List.count_append, List.count_singleton]
  by_cases hx : gs[n] = k <;> simp [hx]
theorem count_one {gs : List K} (hn : gs.Nodup) {k : K} (h : k ∈ gs) : gs.count k = 1 := by
  have h1 := List.nodup_iff_count.1 hn k
  have h2 := List.one_le_count_iff.2 h
  omega

end Go.Proofs.Ytfjlclloddbkmaa
