/- Right values' bytes: unlike values have unlike bytes; none begin as others. -/
import Derived.Test.YtocjidlbjmghdaaDoorVPrint
namespace Go.Proofs.YtocjidlbjmghdaaDoor

theorem byteN_nat (u j : Nat) : (byteN u j).toNat = u / 256 ^ (7 - j) % 256 := by
  unfold byteN
  exact Nat.mod_eq_of_lt (Nat.mod_lt _ (by decide))
theorem div_step {u v k : Nat} (h : u / 256 ^ (k + 1) = v / 256 ^ (k + 1)) (hm : u / 256 ^ k % 256 = v / 256 ^ k % 256) : u / 256 ^ k = v / 256 ^ k := by
  rw [Nat.pow_succ, ← Nat.div_div_eq_div_mul, ← Nat.div_div_eq_div_mul] at h
  omega
theorem numB_inj {n m : Int} (hn : -9223372036854775808 ≤ n ∧ n ≤ 9223372036854775807) (hm : -9223372036854775808 ≤ m ∧ m ≤ 9223372036854775807) (h : numB n = numB m) : n = m := by
  have hb : ∀ j, j < 8 → usign n / 256 ^ (7 - j) % 256 = usign m / 256 ^ (7 - j) % 256 := fun j hj => by
    have h1 := congrArg (fun l => l[j + 1]?) h
    simp only [numB, List.getElem?_cons_succ, List.getElem?_map, List.getElem?_range hj, Option.map_some, Option.some.injEq] at h1
    rw [← byteN_nat, ← byteN_nat, h1]
  have hu : usign n < 256 ^ 8 := by unfold usign; omega
  have hv : usign m < 256 ^ 8 := by unfold usign; omega
  have h8 : usign n / 256 ^ (7 + 1) = usign m / 256 ^ (7 + 1) := by rw [Nat.div_eq_of_lt hu, Nat.div_eq_of_lt hv]
  have h7 := div_step h8 (hb 0 (by omega))
  have h6 := div_step (k := 6) h7 (hb 1 (by omega))
  have h5 := div_step (k := 5) h6 (hb 2 (by omega))
  have h4 := div_step (k := 4) h5 (hb 3 (by omega))
  have h3 := div_step (k := 3) h4 (hb 4 (by omega))
  have h2 := div_step (k := 2) h3 (hb 5 (by omega))
  have h1 := div_step (k := 1) h2 (hb 6 (by omega))
  have h0 := div_step (k := 0) h1 (hb 7 (by omega))
  simp only [Nat.pow_zero, Nat.div_one] at h0
  unfold usign at h0
  omega
theorem enc0_free : ∀ (l l' r r' : List UInt8), l.flatMap enc0 ++ ([0, 0] ++ r) = l'.flatMap enc0 ++ ([0, 0] ++ r') → l = l' ∧ r = r'
  | [], [], r, r', h => ⟨rfl, by simpa using h⟩
  | [], c :: l', r, r', h => by
    exfalso
    by_cases hc : c = 0
    · simp [enc0, hc] at h
    · simp [enc0, hc] at h
      exact hc h.1.symm
  | c :: l, [], r, r', h => by
    exfalso
    by_cases hc : c = 0
    · simp [enc0, hc] at h
    · simp [enc0, hc] at h
  | c :: l, c' :: l', r, r', h => by
    by_cases hc : c = 0
    · by_cases hc' : c' = 0
      · simp only [List.flatMap_cons, enc0, hc, hc', if_true, List.cons_append, List.nil_append, List.cons.injEq, true_and] at h
        obtain ⟨h1, h2⟩ := enc0_free l l' r r' h
        exact ⟨by rw [hc, hc', h1], h2⟩
      · exfalso
        simp [enc0, hc, hc'] at h
        exact hc' h.1.symm
    · by_cases hc' : c' = 0
      · exfalso
        simp [enc0, hc, hc'] at h
      · simp only [List.flatMap_cons, enc0, hc, hc', if_false, List.cons_append, List.nil_append, List.cons.injEq] at h
        obtain ⟨h1, h2⟩ := enc0_free l l' r r' h.2
        exact ⟨by rw [h.1, h1], h2⟩
theorem strB_eq (s : ByteArray) : strB s = 2 :: (s.data.toList.flatMap enc0 ++ ([0, 0] ++ [])) := rfl
theorem strB_inj {s t : ByteArray} (h : strB s = strB t) : s = t := by
  rw [strB_eq, strB_eq, List.cons.injEq] at h
  have := (enc0_free _ _ _ _ h.2).1
  obtain ⟨⟨s⟩⟩ := s
  obtain ⟨⟨t⟩⟩ := t
  simp only at this
  rw [this]
theorem bytes_inj {a b : Vl} (ha : a.right = true) (hb : b.right = true) (hn : -9223372036854775808 ≤ a.n ∧ a.n ≤ 9223372036854775807) (hm : -9223372036854775808 ≤ b.n ∧ b.n ≤ 9223372036854775807) : a.bytes = b.bytes ↔ a = b := by
  constructor
  · intro h
    have ha' := of_decide_eq_true ha
    have hb' := of_decide_eq_true hb
    unfold Vl.bytes at h
    by_cases h1 : a.isN
    · by_cases h2 : b.isN
      · rw [if_pos h1, if_pos h2] at h
        have hnn := numB_inj hn hm h
        obtain ⟨k, n, s⟩ := a
        obtain ⟨k', n', s'⟩ := b
        obtain ⟨e1, e2⟩ := h1
        obtain ⟨e3, e4⟩ := h2
        simp only at e1 e2 e3 e4 hnn
        have hs : s = s' := by
          obtain ⟨⟨s⟩⟩ := s
          obtain ⟨⟨s'⟩⟩ := s'
          have e2' : s.length = 0 := e2
          have e4' : s'.length = 0 := e4
          rw [List.length_eq_zero_iff] at e2' e4'
          rw [e2', e4']
        rw [e1, e3, hnn, hs]
      · rw [if_pos h1, if_neg h2] at h
        rw [strB_eq] at h
        unfold numB at h
        exact absurd (List.cons.inj h).1 (by decide)
    · by_cases h2 : b.isN
      · rw [if_neg h1, if_pos h2] at h
        rw [strB_eq] at h
        unfold numB at h
        exact absurd (List.cons.inj h).1 (by decide)
      · rw [if_neg h1, if_neg h2] at h
        have hs := strB_inj h
        obtain ⟨k, n, s⟩ := a
        obtain ⟨k', n', s'⟩ := b
        obtain ⟨e1, e2, _⟩ := ha'.resolve_left h1
        obtain ⟨e3, e4, _⟩ := hb'.resolve_left h2
        simp only at e1 e2 e3 e4 hs
        rw [e1, e2, e3, e4, hs]
  · rintro rfl; rfl

end Go.Proofs.YtocjidlbjmghdaaDoor
