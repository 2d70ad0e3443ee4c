/- The plain law of the first loop of LimboOnce, no program in sight. -/
import Derived.Test.YtfjlclloddbkmaaAwake
namespace Go.Proofs.Ytfjlclloddbkmaa
open Go.RowKit Go.Cw

/-- an epoch as the law takes it -/
def ep (z : Int) : Int := (z.tmod 100 + 100) % 100
theorem ep_bd (z : Int) : 0 ≤ ep z ∧ ep z ≤ 99 := by unfold ep; omega

/-- what the limbo and the law's map hold after i rounds -/
noncomputable def st (ks : List K) (zs : List Int) (i : Nat) : List K × List (K × Int) := ((ks.zip zs).take i).foldl (fun s p => ret1 (ep p.2) s p.1) ([], [])
theorem st_zero (ks : List K) (zs : List Int) : st ks zs 0 = ([], []) := rfl
theorem st_succ {ks : List K} {zs : List Int} {i : Nat} {x : K} {z : Int} (h1 : ks[i]? = some x) (h2 : zs[i]? = some z) : st ks zs (i + 1) = ret1 (ep z) (st ks zs i) x := by
  have h : (ks.zip zs)[i]? = some (x, z) := by rw [List.getElem?_zip_eq_some]; exact ⟨h1, h2⟩
  obtain ⟨hl, he⟩ := List.getElem?_eq_some_iff.1 h
  unfold st
  rw [List.take_succ_eq_append_getElem hl, List.foldl_append, he]; rfl

structure Inv (s : List K × List (K × Int)) : Prop where
  nodup : s.1.Nodup
  keys : (s.2.map (·.1)).Nodup
  perm : s.1.Perm (s.2.map (·.1))
  bd : ∀ p ∈ s.2, 0 ≤ p.2 ∧ p.2 ≤ 99

theorem Inv.len {s : List K × List (K × Int)} (h : Inv s) : s.1.length = s.2.length := by simpa using h.perm.length_eq

theorem Inv.step {s : List K × List (K × Int)} (h : Inv s) (x : K) {e : Int} (he : 0 ≤ e ∧ e ≤ 99) : Inv (ret1 e s x) := by
  have hbd : ∀ (M : List (K × Int)) (v : Int), (∀ p ∈ M, 0 ≤ p.2 ∧ p.2 ≤ 99) → (0 ≤ v ∧ v ≤ 99) → ∀ p ∈ mput M x v, 0 ≤ p.2 ∧ p.2 ≤ 99 := by
    intro M v hM hv
    induction M with
    | nil => intro p hp; simp [mput] at hp; subst hp; exact hv
    | cons q r ih =>
      obtain ⟨y, u⟩ := q
      intro p hp
      simp only [mput] at hp
      split at hp
      · rcases List.mem_cons.1 hp with rfl | hp
        · exact hv
        · exact hM p (by simp [hp])
      · rcases List.mem_cons.1 hp with rfl | hp
        · exact hM (y, u) (by simp)
        · exact ih (fun q hq => hM q (by simp [hq])) p hp
  unfold ret1
  split
  · rename_i old ho
    have hx : x ∈ s.2.map (·.1) := List.mem_map.2 ⟨(x, old), mem_of_mget ho, rfl⟩
    have hxr : x ∈ s.1 := h.perm.mem_iff.2 hx
    have hold := h.bd _ (mem_of_mget ho)
    have hkeys : (mput s.2 x (max old e)).map (·.1) = s.2.map (·.1) := by rw [mput_keys, if_pos hx]
    refine ⟨?_, by rw [hkeys]; exact h.keys, ?_, hbd _ _ h.bd (by simp only at hold; omega)⟩
    · rw [List.nodup_append]
      refine ⟨h.nodup.filter _, by simp, fun a ha b hb => ?_⟩
      simp only [List.mem_singleton] at hb
      subst hb
      have := (List.mem_filter.1 ha).2
      simpa using this
    · rw [hkeys]
      refine List.Perm.trans ?_ h.perm
      have h1 : (s.1.filter (fun y => !decide (y = x)) ++ [x]).Perm (x :: s.1.filter (fun y => !decide (y = x))) := List.perm_append_singleton _ _
      refine h1.trans ?_
      have h2 : s.1.filter (fun y => !decide (y = x)) = s.1.erase x := by
        rw [h.nodup.erase_eq_filter]
        apply List.filter_congr
        intro y _
        by_cases hy : y = x <;> simp [hy]
      rw [h2]
      exact (List.perm_cons_erase hxr).symm
  · rename_i ho
    have hx : x ∉ s.2.map (·.1) := mget_eq_none.1 ho
    have hkeys : (mput s.2 x e).map (·.1) = s.2.map (·.1) ++ [x] := by rw [mput_keys, if_neg hx]
    refine ⟨?_, mput_nodup h.keys x e, ?_, hbd _ _ h.bd he⟩
    · rw [List.nodup_append]
      refine ⟨h.nodup, by simp, fun a ha b hb => ?_⟩
      simp only [List.mem_singleton] at hb
      subst hb
      rintro rfl
      exact hx (h.perm.mem_iff.1 ha)
    · rw [hkeys]; exact h.perm.append_right _

theorem st_inv {ks : List K} {zs : List Int} : ∀ (i : Nat), i ≤ ks.length → i ≤ zs.length → Inv (st ks zs i)
  | 0, _, _ => ⟨by simp [st_zero], by simp [st_zero], by simp [st_zero], by simp [st_zero]⟩
  | i + 1, h1, h2 => by
    rw [st_succ (List.getElem?_eq_getElem (by omega)) (List.getElem?_eq_getElem (by omega))]
    exact (st_inv i (by omega) (by omega)).step _ (ep_bd _)
theorem st_len {ks : List K} {zs : List Int} : ∀ (i : Nat), i ≤ ks.length → i ≤ zs.length → (st ks zs i).1.length ≤ i
  | 0, _, _ => by simp [st_zero]
  | i + 1, h1, h2 => by
    rw [st_succ (List.getElem?_eq_getElem (by omega)) (List.getElem?_eq_getElem (by omega))]
    have := ret1_len (ep (zs[i]'(by omega))) (st ks zs i) (ks[i]'(by omega))
    have := st_len i (ks := ks) (zs := zs) (by omega) (by omega)
    omega

/-- behind a retiring the key is there -/
theorem ret1_get (e : Int) (s : List K × List (K × Int)) (x : K) : ∃ v, mget (ret1 e s x).2 x = some v := by
  unfold ret1
  split <;> (simp only [mget_put, if_true]; exact ⟨_, rfl⟩)

end Go.Proofs.Ytfjlclloddbkmaa
