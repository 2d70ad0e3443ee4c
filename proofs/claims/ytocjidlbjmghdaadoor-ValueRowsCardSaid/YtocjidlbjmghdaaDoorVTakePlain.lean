/- What taking a value off bytes gives; a right value's bytes are taken as it, whatever stands behind them. -/
import Derived.Test.YtocjidlbjmghdaaDoorVOrderPlain2
namespace Go.Proofs.YtocjidlbjmghdaaDoor

/-- a text taken: the rest, the text so far, how many bytes were taken; the value, how many bytes, the error -/
def tk : List UInt8 → List UInt8 → Nat → Vl × Nat × Int
  | [], _, _ => (⟨0, 0, ⟨#[]⟩⟩, 0, 20)
  | [c], s, _ => if c = 0 then (⟨0, 0, ⟨#[]⟩⟩, 0, 20) else if 200 ≤ s.length then (⟨0, 0, ⟨#[]⟩⟩, 0, 32) else (⟨0, 0, ⟨#[]⟩⟩, 0, 20)
  | c :: d :: r, s, k =>
    if c = 0 then
      if d = 0 then (⟨2, 0, ⟨s.toArray⟩⟩, k + 2, 0)
      else if d = 255 then if 200 ≤ s.length then (⟨0, 0, ⟨#[]⟩⟩, 0, 32) else tk r (s ++ [0]) (k + 2)
      else (⟨0, 0, ⟨#[]⟩⟩, 0, 10)
    else if 200 ≤ s.length then (⟨0, 0, ⟨#[]⟩⟩, 0, 32) else tk (d :: r) (s ++ [c]) (k + 1)
/-- eight bytes as a number -/
def be (l : List UInt8) : Nat := l.foldl (fun u b => u * 256 + b.toNat) 0
/-- a value taken -/
def takeP (b : List UInt8) : Vl × Nat × Int :=
  match b with
  | [] => (⟨0, 0, ⟨#[]⟩⟩, 0, 20)
  | c :: r => if c = 2 then tk r [] 1 else if c = 1 then if b.length < 9 then (⟨0, 0, ⟨#[]⟩⟩, 0, 20) else (⟨1, (be (r.take 8) : Int) - 9223372036854775808, ⟨#[]⟩⟩, 9, 0) else (⟨0, 0, ⟨#[]⟩⟩, 0, 22)

theorem tk_enc (r : List UInt8) : ∀ (l s : List UInt8) (k : Nat), s.length + l.length ≤ 200 → tk (l.flatMap enc0 ++ ([0, 0] ++ r)) s k = (⟨2, 0, ⟨(s ++ l).toArray⟩⟩, k + (l.flatMap enc0).length + 2, 0)
  | [], s, k, _ => by simp [tk]
  | c :: l, s, k, h => by
    rw [List.length_cons] at h
    have ih := fun c => tk_enc r l (s ++ [c])
    by_cases hc : c = 0
    · subst hc
      have h1 : (0 :: l).flatMap enc0 ++ ([0, 0] ++ r) = 0 :: 255 :: (l.flatMap enc0 ++ ([0, 0] ++ r)) := rfl
      have h2 : ((0 :: l).flatMap enc0).length = (l.flatMap enc0).length + 2 := rfl
      rw [h1, h2]
      unfold tk
      rw [if_pos rfl, if_neg (by decide), if_pos rfl, if_neg (by omega), ih 0 (k + 2) (by rw [List.length_append]; simp; omega)]
      rw [List.append_assoc, show k + 2 + (l.flatMap enc0).length + 2 = k + ((l.flatMap enc0).length + 2) + 2 by omega]
      rfl
    · have he : enc0 c = [c] := by unfold enc0; rw [if_neg hc]
      have h1 : (c :: l).flatMap enc0 ++ ([0, 0] ++ r) = c :: (l.flatMap enc0 ++ ([0, 0] ++ r)) := by rw [List.flatMap_cons, he]; rfl
      have h2 : ((c :: l).flatMap enc0).length = (l.flatMap enc0).length + 1 := by rw [List.flatMap_cons, he]; rw [List.length_append]; simp; omega
      rw [h1, h2]
      obtain ⟨d, t, hd⟩ : ∃ d t, l.flatMap enc0 ++ ([0, 0] ++ r) = d :: t := by
        cases h3 : l.flatMap enc0 with
        | nil => exact ⟨_, _, rfl⟩
        | cons d t => exact ⟨_, _, rfl⟩
      rw [hd]
      unfold tk
      rw [if_neg hc, if_neg (by omega), ← hd, ih c (k + 1) (by rw [List.length_append]; simp; omega)]
      rw [List.append_assoc, show k + 1 + (l.flatMap enc0).length + 2 = k + ((l.flatMap enc0).length + 1) + 2 by omega]
      rfl
theorem be_num (n : Int) (hn : -9223372036854775808 ≤ n ∧ n ≤ 9223372036854775807) : be ((List.range 8).map (byteN (usign n))) = usign n := by
  have hu : usign n < 256 ^ 8 := by unfold usign; omega
  simp only [be, List.range_succ, List.range_zero, List.nil_append, List.map_cons, List.map_nil, List.cons_append, List.foldl_cons, List.foldl_nil, byteN_nat]
  generalize usign n = u at *
  simp only [Nat.reducePow, Nat.reduceSub] at *
  omega
theorem take_bytes {a : Vl} (ha : a.right = true) (hn : -9223372036854775808 ≤ a.n ∧ a.n ≤ 9223372036854775807) (r : List UInt8) : takeP (a.bytes ++ r) = (a, a.bytes.length, 0) := by
  by_cases h1 : a.isN
  · have e1 : a.bytes = numB a.n := by unfold Vl.bytes; rw [if_pos h1]
    rw [e1, numB_len]
    have hl : ((List.range 8).map (byteN (usign a.n))).length = 8 := by rw [List.length_map, List.length_range]
    have h2 : numB a.n ++ r = 1 :: ((List.range 8).map (byteN (usign a.n)) ++ r) := rfl
    rw [h2]
    unfold takeP
    simp only
    rw [if_neg (by decide), if_pos trivial, if_neg (by rw [List.length_cons, List.length_append, hl]; omega)]
    rw [List.take_left' hl, be_num _ hn]
    obtain ⟨k, n, s⟩ := a
    obtain ⟨e2, e3⟩ := h1
    simp only at e2 e3 hn ⊢
    obtain rfl : s = ⟨#[]⟩ := by
      obtain ⟨⟨l⟩⟩ := s
      have : l.length = 0 := e3
      rw [List.length_eq_zero_iff] at this
      rw [this]
    subst e2
    rw [show ((usign n : Nat) : Int) - 9223372036854775808 = n by unfold usign; omega]
  · have e1 : a.bytes = strB a.s := by unfold Vl.bytes; rw [if_neg h1]
    obtain ⟨e2, e3, e4⟩ := (of_decide_eq_true ha).resolve_left h1
    rw [e1]
    have h2 : strB a.s ++ r = 2 :: (a.s.data.toList.flatMap enc0 ++ ([0, 0] ++ r)) := by rw [strB_eq]; simp
    have hl : (strB a.s).length = 1 + (a.s.data.toList.flatMap enc0).length + 2 := by rw [strB_eq]; simp; omega
    have hs : a.s.data.toList.length = a.s.size := Array.length_toList
    rw [h2, hl]
    unfold takeP
    simp only
    rw [if_pos trivial, tk_enc r _ [] 1 (by rw [hs]; simpa using e4)]
    obtain ⟨k, n, s⟩ := a
    simp only at e2 e3
    subst e2 e3
    rfl

end Go.Proofs.YtocjidlbjmghdaaDoor
