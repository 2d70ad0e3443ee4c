/- Values' bytes are ordered as the values; none begin as others. -/
import Derived.Test.YtocjidlbjmghdaaDoorVApartPlain
namespace Go.Proofs.YtocjidlbjmghdaaDoor

/-- a number's k digits, to the base 256, the greatest first -/
def dg : Nat → Nat → List Int
  | 0, _ => []
  | k + 1, u => ((u / 256 ^ k % 256 : Nat) : Int) :: dg k u
theorem dg_cmp (u v : Nat) : ∀ k, cmpP (dg k u) (dg k v) = if u % 256 ^ k < v % 256 ^ k then -1 else if v % 256 ^ k < u % 256 ^ k then 1 else 0
  | 0 => by simp [dg, cmpP, Nat.mod_one]
  | k + 1 => by
    have hX : 0 < 256 ^ k := Nat.pow_pos (by decide)
    have hu : u % 256 ^ (k + 1) = u % 256 ^ k + 256 ^ k * (u / 256 ^ k % 256) := Nat.mod_pow_succ
    have hv : v % 256 ^ (k + 1) = v % 256 ^ k + 256 ^ k * (v / 256 ^ k % 256) := Nat.mod_pow_succ
    have h1 := Nat.mod_lt u hX
    have h2 := Nat.mod_lt v hX
    have ih := dg_cmp u v k
    unfold dg cmpP
    rw [ih, hu, hv]
    generalize u / 256 ^ k % 256 = x at *
    generalize v / 256 ^ k % 256 = y at *
    generalize u % 256 ^ k = r at *
    generalize v % 256 ^ k = s at *
    generalize 256 ^ k = X at *
    by_cases hxy : x < y
    · have := Nat.mul_le_mul_left X (show x + 1 ≤ y from hxy)
      rw [Nat.mul_add] at this
      rw [if_pos (by omega), if_pos (by omega)]
    · by_cases hyx : y < x
      · have := Nat.mul_le_mul_left X (show y + 1 ≤ x from hyx)
        rw [Nat.mul_add] at this
        rw [if_neg (by omega), if_pos (by omega), if_neg (by omega), if_pos (by omega)]
      · obtain rfl : x = y := by omega
        rw [if_neg (by omega), if_neg (by omega)]
        by_cases hrs : r < s
        · rw [if_pos hrs, if_pos (by omega)]
        · rw [if_neg hrs, if_neg (show ¬ r + X * x < s + X * x by omega)]
          by_cases hsr : s < r
          · rw [if_pos hsr, if_pos (by omega)]
          · rw [if_neg hsr, if_neg (by omega)]
def ints (l : List UInt8) : List Int := l.map fun b => (b.toNat : Int)
theorem numB_dg (n : Int) : ints (numB n) = 1 :: dg 8 (usign n) := by
  unfold numB ints
  simp [List.range_succ, dg, byteN_nat]
theorem numB_cmp {n m : Int} (hn : -9223372036854775808 ≤ n ∧ n ≤ 9223372036854775807) (hm : -9223372036854775808 ≤ m ∧ m ≤ 9223372036854775807) : cmpP (ints (numB n)) (ints (numB m)) = if n < m then -1 else if m < n then 1 else 0 := by
  rw [numB_dg, numB_dg]
  unfold cmpP
  rw [if_neg (by omega), if_neg (by omega), dg_cmp]
  have hu : usign n < 256 ^ 8 := by unfold usign; omega
  have hv : usign m < 256 ^ 8 := by unfold usign; omega
  rw [Nat.mod_eq_of_lt hu, Nat.mod_eq_of_lt hv]
  unfold usign
  by_cases h1 : n < m
  · rw [if_pos h1, if_pos (by omega)]
  · rw [if_neg h1, if_neg (by omega)]
    by_cases h2 : m < n
    · rw [if_pos h2, if_pos (by omega)]
    · rw [if_neg h2, if_neg (by omega)]
theorem enc0_cmp : ∀ l l' : List UInt8, cmpP (ints (l.flatMap enc0 ++ [0, 0])) (ints (l'.flatMap enc0 ++ [0, 0])) = cmpP (ints l) (ints l')
  | [], [] => rfl
  | [], c :: l' => by
    by_cases hc : c = 0
    · subst hc
      simp [enc0, ints, cmpP]
    · have : 0 < c.toNat := by
        rcases Nat.eq_zero_or_pos c.toNat with h | h
        · exact absurd (UInt8.toNat_inj.1 h) hc
        · exact h
      simp [enc0, ints, cmpP, hc, this]
  | c :: l, [] => by
    by_cases hc : c = 0
    · subst hc
      simp [enc0, ints, cmpP]
    · have : 0 < c.toNat := by
        rcases Nat.eq_zero_or_pos c.toNat with h | h
        · exact absurd (UInt8.toNat_inj.1 h) hc
        · exact h
      simp [enc0, ints, cmpP, hc, this]
  | c :: l, c' :: l' => by
    have ih := enc0_cmp l l'
    have pos : ∀ c : UInt8, c ≠ 0 → 0 < c.toNat := fun c hc => by
      rcases Nat.eq_zero_or_pos c.toNat with h | h
      · exact absurd (UInt8.toNat_inj.1 h) hc
      · exact h
    by_cases hc : c = 0
    · subst hc
      by_cases hc' : c' = 0
      · subst hc'
        simpa [enc0, ints, cmpP] using ih
      · have := pos c' hc'
        simp [enc0, ints, cmpP, hc', this]
    · have h1 := pos c hc
      by_cases hc' : c' = 0
      · subst hc'
        simp [enc0, ints, cmpP, hc, h1]
      · have h2 := pos c' hc'
        simp only [ints, List.map_append, List.map_cons, List.map_nil] at ih
        simp only [List.flatMap_cons, enc0, hc, hc', if_false, List.cons_append, List.nil_append, ints, List.map_cons, List.map_append, List.map_nil, cmpP]
        rw [ih]
theorem bytes_cmp {a b : Vl} (ha : a.right = true) (hb : b.right = true) (hn : -9223372036854775808 ≤ a.n ∧ a.n ≤ 9223372036854775807) (hm : -9223372036854775808 ≤ b.n ∧ b.n ≤ 9223372036854775807) : cmpP (ints a.bytes) (ints b.bytes) = vcmp a b := by
  have ha' := of_decide_eq_true ha
  have hb' := of_decide_eq_true hb
  have hs2 : ∀ s : ByteArray, ints (strB s) = 2 :: ints (s.data.toList.flatMap enc0 ++ [0, 0]) := fun s => rfl
  have hn1 : ∀ n, ints (numB n) = 1 :: dg 8 (usign n) := numB_dg
  have he : ∀ s : ByteArray, s.size = 0 → bytesI s = [] := fun s h => List.length_eq_zero_iff.1 (by rw [bytesI_len]; exact h)
  unfold Vl.bytes
  by_cases h1 : a.isN
  · by_cases h2 : b.isN
    · rw [if_pos h1, if_pos h2, numB_cmp hn hm]
      unfold vcmp Vl.key
      rw [h1.1, h2.1, he _ h1.2, he _ h2.2]
      show _ = (if (1 : Int) < 1 then -1 else if (1 : Int) < 1 then 1 else if a.n < b.n then -1 else if b.n < a.n then 1 else cmpP [] [])
      rw [if_neg (show ¬ (1 : Int) < 1 by omega), if_neg (show ¬ (1 : Int) < 1 by omega)]
      rfl
    · have h3 := hb'.resolve_left h2
      rw [if_pos h1, if_neg h2, hn1, hs2]
      unfold vcmp Vl.key
      rw [h1.1, h3.1]
      rfl
  · have h4 := ha'.resolve_left h1
    by_cases h2 : b.isN
    · rw [if_neg h1, if_pos h2, hn1, hs2]
      unfold vcmp Vl.key
      rw [h4.1, h2.1]
      rfl
    · have h3 := hb'.resolve_left h2
      rw [if_neg h1, if_neg h2, hs2, hs2]
      unfold vcmp Vl.key
      rw [h4.1, h3.1, h4.2.1, h3.2.1]
      show (if (2 : Int) < 2 then -1 else if (2 : Int) < 2 then 1 else _) = (if (2 : Int) < 2 then -1 else if (2 : Int) < 2 then 1 else if (0 : Int) < 0 then -1 else if (0 : Int) < 0 then 1 else cmpP (bytesI a.s) (bytesI b.s))
      rw [if_neg (by omega), if_neg (by omega), if_neg (by omega), if_neg (by omega), if_neg (by omega), if_neg (by omega)]
      rw [enc0_cmp]
      rfl

end Go.Proofs.YtocjidlbjmghdaaDoor
