/- Round trips: a number's text read back; a text of runes' read back. -/
import Derived.Test.YtocjidlbjmghdaaDoorVOrderPlain2
import Derived.Test.YtocjidlbjmghdaaDoorBackPlain
import Derived.Lib.AtoiAllCases
namespace Go.Proofs.YtocjidlbjmghdaaDoor
open Go.Lib Go.Cw

theorem parse_snoc (c : UInt8) : ∀ (l : List UInt8) (acc u : Nat), parseUint10 acc l = .ok u → parseUint10 acc (l ++ [c]) = parseUint10 u [c]
  | [], acc, u, h => by
    simp only [parseUint10, NumEnd.ok.injEq] at h
    subst h; rfl
  | d :: r, acc, u, h => by
    simp only [List.cons_append, parseUint10] at h ⊢
    split at h
    · rename_i h1
      rw [if_pos h1]
      split at h
      · cases h
      · rename_i h2
        rw [if_neg h2]
        split at h
        · cases h
        · rename_i h3
          rw [if_neg h3]
          have := parse_snoc c r _ u h
          simpa only [parseUint10] using this
    · cases h
theorem digit_nat {d : Nat} (h : d < 10) : (UInt8.ofNat (48 + d)).toNat = 48 + d := by
  rw [UInt8.toNat_ofNat']
  omega
theorem parse_dec (u : Nat) (hu : u < 18446744073709551616) : parseUint10 0 (decDigits u) = .ok u := by
  induction u using Nat.strongRecOn with
  | ind u ih =>
    rw [decDigits]
    split
    · rename_i h
      have := digit_nat h
      simp only [parseUint10, this]
      rw [if_pos (by omega), if_neg (by omega), if_neg (by omega)]
      congr 1; omega
    · rename_i h
      rw [parse_snoc _ _ _ _ (ih (u / 10) (by omega) (by omega))]
      have := digit_nat (show u % 10 < 10 by omega)
      simp only [parseUint10, this]
      rw [if_pos (by omega), if_neg (by omega), if_neg (by omega)]
      congr 1; omega
theorem dec_head (u : Nat) : ∃ c r, decDigits u = c :: r ∧ 48 ≤ c.toNat := by
  induction u using Nat.strongRecOn with
  | ind u ih =>
    rw [decDigits]
    split
    · rename_i h
      exact ⟨_, [], rfl, by rw [digit_nat h]; omega⟩
    · obtain ⟨c, r, h1, h2⟩ := ih (u / 10) (by omega)
      exact ⟨c, r ++ [_], by rw [h1]; rfl, h2⟩
theorem parseMag_dec (u : Nat) (hu : u < 18446744073709551616) : parseMag (decDigits u) = .ok u := by
  obtain ⟨c, r, h1, _⟩ := dec_head u
  unfold parseMag
  rw [if_neg (by rw [h1]; simp), parse_dec u hu]
theorem atoi_itoa (n : Int) (hn : -9223372036854775808 ≤ n ∧ n ≤ 9223372036854775807) : atoiAll (itoa n) = .ok n := by
  unfold itoa
  by_cases h : n < 0
  · rw [if_pos h, atoiAll_minus, parseMag_dec _ (by omega)]
    simp only [signed]
    rw [if_neg (by omega)]
    congr 1; omega
  · rw [if_neg h]
    obtain ⟨c, r, h1, h2⟩ := dec_head n.toNat
    have h3 := parseMag_dec n.toNat (by omega)
    rw [h1] at h3 ⊢
    rw [atoiAll_plain c r (by omega) (by omega), h3]
    simp only [signless]
    rw [if_neg (by omega)]
    congr 1; omega
theorem read_num (n : Int) (hn : -9223372036854775808 ≤ n ∧ n ≤ 9223372036854775807) : readP ⟨(Vl.print ⟨1, n, ⟨#[]⟩⟩).toArray⟩ = some ⟨1, n, ⟨#[]⟩⟩ := by
  have hp : Vl.print ⟨1, n, ⟨#[]⟩⟩ = itoa n := by unfold Vl.print; rw [if_pos (show Vl.isN _ from ⟨rfl, rfl⟩)]
  unfold readP
  simp only [hp, atoi_itoa n hn, if_true]
theorem read_text (xs : List Int) (h : (tB xs).size ≤ 200) : readP ⟨(Vl.print ⟨2, 0, tB xs⟩).toArray⟩ = some ⟨2, 0, tB xs⟩ := by
  have hp : Vl.print ⟨2, 0, tB xs⟩ = quoteP (runes (tB xs)) := by
    unfold Vl.print
    rw [if_neg (fun h => by have := h.1; simp only at this; omega), if_pos (show Vl.isT _ from ⟨rfl, rfl, h⟩)]
  have ha : ∀ (l : List UInt8) (v : Int), atoiAll (34 :: l) ≠ .ok v := fun l v h => by
    rw [atoiAll_plain 34 l (by decide) (by decide)] at h
    unfold parseMag parseUint10 at h
    rw [if_neg (by simp), if_neg (by decide)] at h
    cases h
  have hq : quoteP (runes (tB xs)) = 34 :: ((zs (runes (tB xs))).flatMap qr ++ [34]) := rfl
  have ht : (⟨(text xs).toArray⟩ : ByteArray) = tB xs := rfl
  unfold readP
  simp only [hp]
  rw [back_unquote]
  split
  · rename_i v hv
    rw [hq] at hv
    exact absurd hv (ha _ _)
  · simp only [ht, hp, if_true]

end Go.Proofs.YtocjidlbjmghdaaDoor
