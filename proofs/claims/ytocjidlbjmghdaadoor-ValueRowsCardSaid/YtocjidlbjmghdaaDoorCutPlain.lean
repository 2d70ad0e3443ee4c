/- The plain law of first runes and the rest. -/
import Derived.Test.YtocjidlbjmghdaaDoorCut
namespace Go.Proofs.YtocjidlbjmghdaaDoor
open Go.RowKit Go.Cw

theorem getD_take (l : List UInt8) (m i : Nat) : (l.take m).getD i 0 = if i < m then l.getD i 0 else 0 := by
  rw [List.getD_eq_getElem?_getD, List.getElem?_take, List.getD_eq_getElem?_getD]
  split <;> rfl
set_option maxHeartbeats 2000000 in
theorem decodeN_less (n n' b0 b1 b2 b3 c1 c2 c3 : Nat) (hn : n' ≤ n) (h1 : 1 < n' → c1 = b1) (h2 : 2 < n' → c2 = b2) (h3 : 3 < n' → c3 = b3) (hw : (Lib.decodeN n b0 b1 b2 b3).2 ≤ n') : Lib.decodeN n' b0 c1 c2 c3 = Lib.decodeN n b0 b1 b2 b3 := by
  rcases Lib.decodeN_shape n b0 b1 b2 b3 with ⟨c, e⟩ | ⟨d1, d2, d3, dv, e⟩ | ⟨d1, d2, d3, d4, dv, ds, e⟩ | ⟨d1, d2, d3, d4, d5, dv, dw, e⟩ | e
  · rw [e]; unfold Lib.decodeN; rw [if_pos c]
  · rw [e] at hw ⊢
    simp only at hw
    have g1 := h1 (by omega)
    subst g1
    unfold Lib.decodeN
    rw [if_neg (by omega), if_pos (by omega), if_pos (by omega)]
  · rw [e] at hw ⊢
    simp only at hw
    have g1 := h1 (by omega)
    have g2 := h2 (by omega)
    subst g1 g2
    unfold Lib.decodeN
    rw [if_neg (by omega), if_neg (by omega), if_pos (by omega), if_pos (by omega)]
  · rw [e] at hw ⊢
    simp only at hw
    have g1 := h1 (by omega)
    have g2 := h2 (by omega)
    have g3 := h3 (by omega)
    subst g1 g2 g3
    unfold Lib.decodeN
    rw [if_neg (by omega), if_neg (by omega), if_neg (by omega), if_pos (by omega), if_pos (by omega)]
  · rcases Lib.decodeN_shape n' b0 c1 c2 c3 with ⟨c, e'⟩ | ⟨d1, d2, d3, dv, e'⟩ | ⟨d1, d2, d3, d4, dv, ds, e'⟩ | ⟨d1, d2, d3, d4, d5, dv, dw, e'⟩ | e'
    · exfalso
      have : Lib.decodeN n b0 b1 b2 b3 = (b0, 1) := by unfold Lib.decodeN; rw [if_pos c]
      rw [e] at this
      have := congrArg Prod.fst this
      simp only at this; omega
    · exfalso
      have g1 := h1 d2
      subst g1
      have : Lib.decodeN n b0 c1 b2 b3 = (b0 % 32 * 64 + c1 % 64, 2) := by
        unfold Lib.decodeN
        rw [if_neg (by omega), if_pos (by omega), if_pos (by omega)]
      rw [e] at this
      have := congrArg Prod.snd this
      simp only at this; omega
    · exfalso
      have g1 := h1 (by omega)
      have g2 := h2 (by omega)
      subst g1 g2
      have : Lib.decodeN n b0 c1 c2 b3 = (b0 % 16 * 4096 + c1 % 64 * 64 + c2 % 64, 3) := by
        unfold Lib.decodeN
        rw [if_neg (by omega), if_neg (by omega), if_pos (by omega), if_pos (by omega)]
      rw [e] at this
      have := congrArg Prod.snd this
      simp only at this; omega
    · exfalso
      have g1 := h1 (by omega)
      have g2 := h2 (by omega)
      have g3 := h3 (by omega)
      subst g1 g2 g3
      have : Lib.decodeN n b0 c1 c2 c3 = (b0 % 8 * 262144 + c1 % 64 * 4096 + c2 % 64 * 64 + c3 % 64, 4) := by
        unfold Lib.decodeN
        rw [if_neg (by omega), if_neg (by omega), if_neg (by omega), if_pos (by omega), if_pos (by omega)]
      rw [e] at this
      have := congrArg Prod.snd this
      simp only at this; omega
    · rw [e, e']
theorem decode_take {l : List UInt8} {m : Nat} (hne : l ≠ []) (hm : (Lib.decodeL l).2 ≤ m) : Lib.decodeL (l.take m) = Lib.decodeL l := by
  have hp := decodeL_pos hne
  have hl := Lib.decodeL_le l hne
  rw [Lib.decodeL_N, Lib.decodeL_N] at *
  rw [getD_take, getD_take, getD_take, getD_take, if_pos (by omega), List.length_take]
  refine decodeN_less _ _ _ _ _ _ _ _ _ (by omega) (fun h => ?_) (fun h => ?_) (fun h => ?_) (by omega)
  · rw [if_pos (by omega)]
  · rw [if_pos (by omega)]
  · rw [if_pos (by omega)]

/-- where the first k runes end -/
def endL : Nat → List UInt8 → Nat
  | 0, _ => 0
  | k + 1, l => if l = [] then 0 else (Lib.decodeL l).2 + endL k (l.drop (Lib.decodeL l).2)
theorem endL_nil (k : Nat) : endL k [] = 0 := by cases k <;> rfl
theorem endL_more {l : List UInt8} (h : l ≠ []) (k : Nat) : endL (k + 1) l = (Lib.decodeL l).2 + endL k (l.drop (Lib.decodeL l).2) := by
  show (if l = [] then 0 else _) = _
  rw [if_neg h]
theorem endL_le : ∀ (k : Nat) (l : List UInt8), endL k l ≤ l.length
  | 0, _ => Nat.zero_le _
  | k + 1, l => by
    by_cases h : l = []
    · rw [h, endL_nil]; exact Nat.zero_le _
    · have h1 := Lib.decodeL_le l h
      have h2 := endL_le k (l.drop (Lib.decodeL l).2)
      rw [List.length_drop] at h2
      rw [endL_more h]; omega
theorem endAt_from (s : ByteArray) : ∀ (k pos : Nat), pos ≤ s.size → (((runesAt s pos).map (·.1))[k]?).getD s.size = pos + endL k (s.data.toList.drop pos)
  | k, pos, hp => by
    have hl : s.data.toList.length = s.size := Array.length_toList
    by_cases h : pos < s.size
    · have hne : s.data.toList.drop pos ≠ [] := by
        intro e
        have := congrArg List.length e
        rw [List.length_drop, hl, List.length_nil] at this; omega
      rw [runesAt_more h]
      cases k with
      | zero => rfl
      | succ k =>
        have hd := decode_end h
        rw [List.map_cons, List.getElem?_cons_succ, endAt_from s k _ hd, endL_more hne, Lib.decodeL_drop, List.drop_drop]
        omega
    · rw [runesAt_end h, show s.data.toList.drop pos = [] from List.drop_eq_nil_iff.2 (by omega), endL_nil]
      show s.size = pos + 0
      omega
theorem endAt_L (s : ByteArray) (k : Nat) : endAt s k = endL k s.data.toList := by
  unfold endAt; rw [endAt_from s k 0 (Nat.zero_le _)]; simp
theorem runes_drop : ∀ (k : Nat) (l : List UInt8), runesL (l.drop (endL k l)) = (runesL l).drop k
  | 0, _ => rfl
  | k + 1, l => by
    by_cases h : l = []
    · rw [h, endL_nil]; show runesL [] = (runesL []).drop (k + 1); rw [runesL_nil]; rfl
    · rw [endL_more h, ← List.drop_drop, runes_drop k, runesL_more h]; rfl
theorem runes_take : ∀ (k : Nat) (l : List UInt8), runesL (l.take (endL k l)) = (runesL l).take k
  | 0, l => by show runesL (l.take 0) = _; rw [List.take_zero, runesL_nil]; rfl
  | k + 1, l => by
    by_cases h : l = []
    · rw [h, endL_nil]; show runesL [] = (runesL []).take (k + 1); rw [runesL_nil]; rfl
    · have hp := decodeL_pos h
      have hl := Lib.decodeL_le l h
      have hne : l.take (endL (k + 1) l) ≠ [] := by
        intro e
        have := congrArg List.length e
        rw [List.length_take, endL_more h, List.length_nil] at this; omega
      have hdt := decode_take (m := endL (k + 1) l) h (by rw [endL_more h]; omega)
      rw [runesL_more hne, hdt, runesL_more h, List.drop_take, endL_more h, Nat.add_sub_cancel_left, runes_take k]
      rfl
theorem endL_take : ∀ (j k : Nat) (l : List UInt8), endL j (l.take (endL k l)) = endL (min j k) l
  | 0, k, l => by rw [Nat.zero_min]; rfl
  | j + 1, 0, l => by
    show endL (j + 1) (l.take 0) = endL 0 l
    rw [List.take_zero, endL_nil]; rfl
  | j + 1, k + 1, l => by
    by_cases h : l = []
    · rw [h, endL_nil, List.take_zero, endL_nil, endL_nil]
    · have hp := decodeL_pos h
      have hl := Lib.decodeL_le l h
      have hne : l.take (endL (k + 1) l) ≠ [] := by
        intro e
        have := congrArg List.length e
        rw [List.length_take, endL_more h, List.length_nil] at this; omega
      have hdt := decode_take (m := endL (k + 1) l) h (by rw [endL_more h]; omega)
      rw [endL_more hne, hdt, List.drop_take]
      conv => lhs; rw [endL_more h, Nat.add_sub_cancel_left]
      rw [endL_take j k, Nat.succ_min_succ, endL_more h]

theorem cutB_bytes (s : ByteArray) (k : Nat) : (cutB s k).data.toList = s.data.toList.take (endL k s.data.toList) := by
  unfold cutB
  rw [ByteArray.data_extract, Array.toList_extract, List.extract_eq_drop_take', endAt_L]
  rfl
theorem cutB_size (s : ByteArray) (k : Nat) : (cutB s k).size = endL k s.data.toList := by
  have h := congrArg List.length (cutB_bytes s k)
  rw [show (cutB s k).data.toList.length = (cutB s k).size from Array.length_toList, List.length_take] at h
  have := endL_le k s.data.toList
  omega
theorem bytes_ext {a b : ByteArray} (h : a.data.toList = b.data.toList) : a = b := by
  apply ByteArray.ext
  exact Array.toList_inj.1 h
theorem cut_runes (s : ByteArray) (k : Nat) : runes (cutB s k) = (runes s).take k := by
  rw [runes_L, runes_L, cutB_bytes, runes_take]
theorem cut_head (s : ByteArray) (k : Nat) : s.extract 0 (cutB s k).size = cutB s k := by
  rw [cutB_size]; unfold cutB; rw [endAt_L]
theorem cut_rest (s : ByteArray) (k : Nat) : runes (s.extract (cutB s k).size s.size) = (runes s).drop k := by
  have hl : s.data.toList.length = s.size := Array.length_toList
  rw [runes_L, runes_L, cutB_size, ByteArray.data_extract, Array.toList_extract, List.extract_eq_drop_take', List.take_of_length_le (by omega), runes_drop]
theorem cut_cut (s : ByteArray) (j k : Nat) : cutB (cutB s k) j = cutB s (min j k) := by
  apply bytes_ext
  rw [cutB_bytes, cutB_bytes, cutB_bytes, endL_take, List.take_take]
  have h1 := endL_le j (s.data.toList.take (endL k s.data.toList))
  rw [endL_take, List.length_take] at h1
  rw [Nat.min_eq_left (by omega)]

end Go.Proofs.YtocjidlbjmghdaaDoor
