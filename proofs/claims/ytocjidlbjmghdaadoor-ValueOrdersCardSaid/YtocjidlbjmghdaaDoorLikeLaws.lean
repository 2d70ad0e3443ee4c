/- Plain laws of patterns and of the order of texts. -/
import Derived.Test.YtocjidlbjmghdaaDoorCompare
import Derived.Test.YtocjidlbjmghdaaDoorLike
namespace Go.Proofs.YtocjidlbjmghdaaDoor
open Go.RowKit Go.Cw

theorem nx_mono {text : List Int} {p : Int} {f g : Nat → Bool} (h : ∀ i, f i = true → g i = true) : ∀ i, nx text p f i = true → nx text p g i = true
  | 0, hi => by
    unfold nx at hi ⊢
    rw [Bool.and_eq_true] at hi ⊢
    exact ⟨hi.1, h 0 hi.2⟩
  | i + 1, hi => by
    unfold nx at hi ⊢
    split at hi
    · rename_i h42
      rw [if_pos h42, Bool.or_eq_true] at *
      rcases hi with hi | hi
      · exact .inl (h _ hi)
      · exact .inr (nx_mono h i hi)
    · rename_i h42
      rw [if_neg h42]
      rw [Bool.and_eq_true] at hi ⊢
      exact ⟨hi.1, h i hi.2⟩
theorem fold_mono {text : List Int} : ∀ (pat : List Int) {f g : Nat → Bool}, (∀ i, f i = true → g i = true) → ∀ i, pat.foldl (fun f p => nx text p f) f i = true → pat.foldl (fun f p => nx text p f) g i = true
  | [], _, _, h, i, hi => h i hi
  | _ :: pat, _, _, h, i, hi => fold_mono pat (fun i => nx_mono h i) i hi
theorem nx_star_more {text : List Int} {f : Nat → Bool} (i : Nat) (h : f i = true) : nx text 42 f i = true := by
  rw [nx_star]; exact decide_eq_true ⟨i, Nat.le_refl _, h⟩
/-- a star more fits no less -/
theorem like_star (text p1 p2 : List Int) (h : likeP text (p1 ++ p2) = true) : likeP text (p1 ++ [42] ++ p2) = true := by
  unfold likeP at h ⊢
  rw [List.foldl_append] at h
  rw [List.foldl_append, List.foldl_append]
  exact fold_mono p2 (fun i hi => nx_star_more i hi) _ h
theorem take_more {l : List Int} {k : Nat} (h : k < l.length) : l.take (k + 1) = l.take k ++ [l[k]] := List.take_succ_eq_append_getElem h
/-- a text fits its own first runes -/
theorem like_self_at {text pre suf : List Int} (h : text = pre ++ suf) : ∀ k, k ≤ pre.length → (pre.take k).foldl (fun f p => nx text p f) first k = true
  | 0, _ => rfl
  | k + 1, hk => by
    have h1 := like_self_at h k (by omega)
    have hk' : k < pre.length := by omega
    rw [take_more hk', List.foldl_append]
    show nx text pre[k] _ (k + 1) = true
    unfold nx
    have hp : text[k]? = some pre[k] := by rw [h, List.getElem?_append_left hk', List.getElem?_eq_getElem hk']
    by_cases h42 : pre[k] = 42
    · rw [if_pos h42, Bool.or_eq_true]
      right
      rw [h42]
      exact nx_star_more _ h1
    · rw [if_neg h42, hp, decide_eq_true (show some pre[k] = some pre[k] from rfl), Bool.or_true, Bool.true_and]
      exact h1
theorem like_self (text : List Int) : likeP text text = true := by
  have := like_self_at (text := text) (pre := text) (suf := []) (by simp) text.length (Nat.le_refl _)
  rw [List.take_length] at this
  exact this
theorem like_any_one (text : List Int) (x : Int) : likeP (text ++ [x]) (text ++ [63]) = true := by
  unfold likeP
  rw [List.foldl_append, List.length_append]
  show nx (text ++ [x]) 63 _ (text.length + 1) = true
  unfold nx
  rw [if_neg (by omega), decide_eq_true (show (63 : Int) = 63 from rfl), Bool.true_or, Bool.true_and]
  have := like_self_at (text := text ++ [x]) (pre := text) (suf := [x]) rfl text.length (Nat.le_refl _)
  rw [List.take_length] at this
  exact this
/-- without * and ? -/
theorem like_plain_at {text pat : List Int} (h : ∀ p ∈ pat, p ≠ 42 ∧ p ≠ 63) : ∀ k, k ≤ pat.length → ∀ i, (pat.take k).foldl (fun f p => nx text p f) first i = decide (k = i ∧ text.take i = pat.take k)
  | 0, _, i => by
    show first i = _
    unfold first
    cases i <;> simp
  | k + 1, hk, i => by
    have hk' : k < pat.length := by omega
    have hp := h pat[k] (List.getElem_mem hk')
    have ih' := like_plain_at (text := text) h k (by omega)
    rw [take_more hk', List.foldl_append]
    show nx text pat[k] ((pat.take k).foldl (fun f p => nx text p f) first) i = _
    cases i with
    | zero =>
      unfold nx
      rw [decide_eq_false hp.1, Bool.false_and, eq_comm, decide_eq_false_iff_not]
      rintro ⟨hl, _⟩
      omega
    | succ i =>
      unfold nx
      rw [if_neg hp.1, decide_eq_false hp.2, Bool.false_or, ih' i, Bool.eq_iff_iff, Bool.and_eq_true, decide_eq_true_eq, decide_eq_true_eq, decide_eq_true_eq]
      constructor
      · rintro ⟨h1, h2, h3⟩
        refine ⟨by rw [h2], ?_⟩
        obtain ⟨hl, e⟩ := List.getElem?_eq_some_iff.1 h1.symm
        rw [take_more hl, h3, e]
      · rintro ⟨h1, h2⟩
        have h3 : k = i := by omega
        have hlen := congrArg List.length h2
        rw [List.length_take, List.length_append, List.length_singleton, List.length_take] at hlen
        have hl : i < text.length := by omega
        rw [take_more hl] at h2
        have h4 := List.append_inj h2 (by rw [List.length_take, List.length_take]; omega)
        refine ⟨?_, h3, h4.1⟩
        rw [List.getElem?_eq_getElem hl]
        have := h4.2
        simp only [List.cons.injEq, and_true] at this
        rw [this]
theorem like_plain (text pat : List Int) (h : ∀ p ∈ pat, p ≠ 42 ∧ p ≠ 63) : likeP text pat = decide (cmpP text pat = 0) := by
  unfold likeP
  have h1 := like_plain_at (text := text) h pat.length (Nat.le_refl _) text.length
  rw [List.take_length, List.take_length] at h1
  rw [h1, Bool.eq_iff_iff, decide_eq_true_eq, decide_eq_true_eq, cmpP_eq]
  exact ⟨fun h => h.2, fun h => ⟨by rw [h], h⟩⟩

/-- a text ahead of itself with more behind -/
theorem cmp_behind : ∀ (xs ys : List Int), cmpP xs (xs ++ ys) = if ys = [] then 0 else -1
  | [], [] => rfl
  | [], _ :: _ => by rw [if_neg (by simp)]; rfl
  | x :: xs, ys => by
    show (if x < x then -1 else if x < x then 1 else cmpP xs (xs ++ ys)) = _
    rw [if_neg (by omega), if_neg (by omega), cmp_behind xs ys]
theorem cmp_ahead : ∀ (hs xs ys : List Int), cmpP (hs ++ xs) (hs ++ ys) = cmpP xs ys
  | [], _, _ => rfl
  | h :: hs, xs, ys => by
    show (if h < h then -1 else if h < h then 1 else cmpP (hs ++ xs) (hs ++ ys)) = _
    rw [if_neg (by omega), if_neg (by omega), cmp_ahead hs xs ys]

end Go.Proofs.YtocjidlbjmghdaaDoor
