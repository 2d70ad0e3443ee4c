/- No right value's bytes are how another's begin; a number's text is read as it. -/
import Derived.Test.YtocjidlbjmghdaaDoorVOrderPlain
namespace Go.Proofs.YtocjidlbjmghdaaDoor

theorem take_pre {x y : List UInt8} (h : x.take (min x.length y.length) = y.take (min x.length y.length)) : (∃ r, y = x ++ r) ∨ ∃ r, x = y ++ r := by
  rcases Nat.le_total x.length y.length with hl | hl
  · rw [Nat.min_eq_left hl, List.take_of_length_le (Nat.le_refl _)] at h
    exact .inl ⟨y.drop x.length, by rw [h]; rw [show (y.take x.length).length = x.length by rw [List.length_take]; omega, List.take_append_drop]⟩
  · rw [Nat.min_eq_right hl, List.take_of_length_le (l := y) (Nat.le_refl _)] at h
    exact .inr ⟨x.drop y.length, by rw [← h]; rw [show (x.take y.length).length = y.length by rw [List.length_take]; omega, List.take_append_drop]⟩
theorem numB_len (n : Int) : (numB n).length = 9 := by
  unfold numB
  rw [List.length_cons, List.length_map, List.length_range]
theorem bytes_free {a b : Vl} (ha : a.right = true) (hb : b.right = true) (hn : -9223372036854775808 ≤ a.n ∧ a.n ≤ 9223372036854775807) (hm : -9223372036854775808 ≤ b.n ∧ b.n ≤ 9223372036854775807) {r : List UInt8} (h : b.bytes = a.bytes ++ r) : a = b := by
  have hi := bytes_inj ha hb hn hm
  by_cases h1 : a.isN
  · by_cases h2 : b.isN
    · refine hi.1 ?_
      have e1 : a.bytes = numB a.n := by unfold Vl.bytes; rw [if_pos h1]
      have e2 : b.bytes = numB b.n := by unfold Vl.bytes; rw [if_pos h2]
      have hl := congrArg List.length h
      rw [List.length_append, e1, e2, numB_len, numB_len] at hl
      have : r = [] := List.length_eq_zero_iff.1 (by omega)
      rw [h, this, List.append_nil]
    · have e1 : a.bytes = numB a.n := by unfold Vl.bytes; rw [if_pos h1]
      have e2 : b.bytes = strB b.s := by unfold Vl.bytes; rw [if_neg h2]
      rw [e1, e2, strB_eq] at h
      unfold numB at h
      exact absurd (List.cons.inj h).1 (by decide)
  · have e1 : a.bytes = strB a.s := by unfold Vl.bytes; rw [if_neg h1]
    by_cases h2 : b.isN
    · have e2 : b.bytes = numB b.n := by unfold Vl.bytes; rw [if_pos h2]
      rw [e1, e2, strB_eq] at h
      unfold numB at h
      exact absurd (List.cons.inj h).1 (by decide)
    · have e2 : b.bytes = strB b.s := by unfold Vl.bytes; rw [if_neg h2]
      refine hi.1 ?_
      rw [e1, e2] at h
      have h0 : 2 :: (b.s.data.toList.flatMap enc0 ++ [0, 0]) = 2 :: ((a.s.data.toList.flatMap enc0 ++ [0, 0]) ++ r) := h
      have h3 := enc0_free b.s.data.toList a.s.data.toList [] r (by rw [List.append_nil, (List.cons.inj h0).2, List.append_assoc])
      rw [e1, e2, strB_eq, strB_eq, h3.1]
theorem bytes_pre {a b : Vl} (ha : a.right = true) (hb : b.right = true) (hn : -9223372036854775808 ≤ a.n ∧ a.n ≤ 9223372036854775807) (hm : -9223372036854775808 ≤ b.n ∧ b.n ≤ 9223372036854775807) :
    a.bytes.take (min a.bytes.length b.bytes.length) = b.bytes.take (min a.bytes.length b.bytes.length) ↔ a = b := by
  constructor
  · intro h
    rcases take_pre h with ⟨r, h⟩ | ⟨r, h⟩
    · exact bytes_free ha hb hn hm h
    · exact (bytes_free hb ha hm hn h).symm
  · rintro rfl; rfl

end Go.Proofs.YtocjidlbjmghdaaDoor
