/- The plain laws of there and back. -/
import Derived.Test.YtocjidlbjmghdaaDoorLawStars
import Derived.Test.YtocjidlbjmghdaaDoorCutPlain
namespace Go.Proofs.YtocjidlbjmghdaaDoor
open Go.RowKit Go.Cw

theorem enc_fix (r : Int) : Lib.encodeRune (fixr r : Int) = Lib.encodeRune r := by
  cases h : Utf8.valid r
  · rw [fixr_bad h]
    have hb : r < 0 ∨ (55296 ≤ r ∧ r ≤ 57343) ∨ 1114111 < r := by
      have h2 : ¬ ((0 ≤ r ∧ r < 55296) ∨ (57343 < r ∧ r ≤ 1114111)) := fun h3 => by rw [(valid_iff r).2 h3] at h; cases h
      omega
    unfold Lib.encodeRune
    rw [Lib.encodeRuneZ_bad hb]
    rfl
  · rw [fixr_ok h]
theorem text_fix : ∀ xs : List Int, text (zs (xs.map fixr)) = text xs
  | [] => rfl
  | r :: xs => by
    show Lib.encodeRune (fixr r : Int) ++ text (zs (xs.map fixr)) = Lib.encodeRune r ++ text xs
    rw [enc_fix, text_fix xs]
theorem tB_fix (xs : List Int) : tB xs = tB (zs (xs.map fixr)) := by unfold tB; rw [text_fix]
theorem fix_valid (xs : List Int) : ∀ r ∈ xs.map fixr, Utf8.valid (r : Int) = true := by
  intro r hr
  rw [← runes_tB] at hr
  exact (runes_valid _ r hr).1

theorem back_unquote (xs : List Int) : unquoteP ⟨(quoteP (runes (tB xs))).toArray⟩ = some (text xs) := by
  rw [unquote_quoted (rs := runes (tB xs)) (fun r hr => (runes_valid _ r hr).1) rfl, runes_tB, text_fix]
theorem back_like (s : ByteArray) : likeP (zs (runes s)) (zs (runes s)) = true := like_self _
theorem back_star (xs : List Int) (K : Nat) : likeP (zs (runes (tB xs))) (zs (runes (tB (xs.take K) ++ ⟨#[42]⟩ ++ tB (xs.drop K)))) = true := by
  have h1 : tB (xs.take K) = tB ((zs (xs.map fixr)).take K) := by
    rw [tB_fix (xs.take K)]; unfold zs; rw [List.map_take, List.map_take]
  have h2 : tB (xs.drop K) = tB ((zs (xs.map fixr)).drop K) := by
    rw [tB_fix (xs.drop K)]; unfold zs; rw [List.map_drop, List.map_drop]
  rw [h1, h2, star_runes (fix_valid xs), runes_tB]
  refine like_star _ _ _ ?_
  rw [List.take_append_drop]
  exact like_self _
theorem back_one (xs : List Int) : likeP (zs (runes (tB xs ++ ⟨#[120]⟩))) (zs (runes (tB xs ++ ⟨#[63]⟩))) = true := by
  rw [show (⟨#[120]⟩ : ByteArray) = tB [120] from rfl, show (⟨#[63]⟩ : ByteArray) = tB [63] from rfl, tB_app, tB_app, runes_tB, runes_tB, List.map_append, List.map_append, zs_append2, zs_append2]
  exact like_any_one _ 120
theorem foldR_ok {r : Nat} (h : Utf8.valid (r : Int) = true) : Utf8.valid (foldR r) = true ∧ foldR (foldR r) = foldR r := by
  have h1 := (valid_iff _).1 h
  unfold foldR
  by_cases hc : (65 ≤ (r : Int) ∧ (r : Int) ≤ 90) ∨ (192 ≤ (r : Int) ∧ (r : Int) ≤ 222 ∧ (r : Int) ≠ 215)
  · rw [if_pos hc, if_neg (by omega)]
    exact ⟨(valid_iff _).2 (by omega), rfl⟩
  · rw [if_neg hc, if_neg hc]
    exact ⟨h, rfl⟩
theorem fold_twice : ∀ rs : List Nat, (∀ r ∈ rs, Utf8.valid (r : Int) = true) → (zs (((zs rs).map foldR).map fixr)).map foldR = (zs rs).map foldR
  | [], _ => rfl
  | r :: rs, h => by
    obtain ⟨h1, h2⟩ := foldR_ok (h r (List.mem_cons_self ..))
    have ih := fold_twice rs fun x hx => h x (List.mem_cons_of_mem _ hx)
    show foldR (fixr (foldR (r : Int)) : Int) :: (zs (((zs rs).map foldR).map fixr)).map foldR = foldR (r : Int) :: (zs rs).map foldR
    rw [fixr_ok h1, h2, ih]
theorem back_fold (s : ByteArray) : foldP (runes ⟨(foldP (runes s)).toArray⟩) = foldP (runes s) := by
  have h : runes ⟨(foldP (runes s)).toArray⟩ = ((zs (runes s)).map foldR).map fixr := runes_tB _
  rw [h]
  unfold foldP
  rw [fold_twice _ fun r hr => (runes_valid s r hr).1]
theorem back_count (xs : List Int) : (runes (tB xs)).length = xs.length := by rw [runes_tB, List.length_map]
theorem endL_text : ∀ (K : Nat) (xs : List Int), endL K (text xs) = (text (xs.take K)).length
  | 0, xs => rfl
  | K + 1, [] => rfl
  | K + 1, r :: xs => by
    have hne : text (r :: xs) ≠ [] := by
      rw [text_cons]; intro e; exact enc_ne r (List.append_eq_nil_iff.1 e).1
    rw [endL_more hne, text_cons, decode_enc, List.drop_left, endL_text K xs, List.take_succ_cons, text_cons, List.length_append]
theorem back_cut (xs : List Int) (K : Nat) : cutB (tB xs) K ++ tB (xs.drop K) = tB xs := by
  have h : cutB (tB xs) K = tB (xs.take K) := by
    apply bytes_ext
    rw [cutB_bytes]
    show (text xs).take (endL K (text xs)) = text (xs.take K)
    rw [endL_text]
    conv => lhs; rw [← List.take_append_drop K xs, text_append]
    rw [List.take_append_drop, List.take_left]
  rw [h, tB_app, List.take_append_drop]

end Go.Proofs.YtocjidlbjmghdaaDoor
