/- Laws on runes and their bytes; they speak of no program. -/
import Derived.Test.YtocjidlbjmghdaaDoorStr
import Derived.Lib.MapLaws
import Derived.Laws.Runes
namespace Go.Cw
open Go Go.RowKit

/-! ### runes and their bytes -/
theorem rcases5 (r : Int) : (0 ≤ r ∧ r ≤ 127) ∨ (128 ≤ r ∧ r ≤ 2047) ∨ ((2048 ≤ r ∧ r < 55296) ∨ (57343 < r ∧ r ≤ 65535)) ∨ (65536 ≤ r ∧ r ≤ 1114111) ∨ (r < 0 ∨ (55296 ≤ r ∧ r ≤ 57343) ∨ 1114111 < r) := by omega

/-- the rune that a text holds, r written into it -/
def fixr (r : Int) : Nat := if Utf8.valid r then r.toNat else 65533
theorem valid_iff (r : Int) : Utf8.valid r = true ↔ ((0 ≤ r ∧ r < 55296) ∨ (57343 < r ∧ r ≤ 1114111)) := by
  simp only [Utf8.valid, Bool.or_eq_true, Bool.and_eq_true, decide_eq_true_eq]; omega
theorem fixr_ok {r : Int} (h : Utf8.valid r = true) : (fixr r : Int) = r := by
  unfold fixr; rw [if_pos h]
  have := (valid_iff r).1 h
  omega
theorem fixr_bad {r : Int} (h : Utf8.valid r = false) : fixr r = 65533 := by
  unfold fixr; rw [if_neg (by rw [h]; decide)]

set_option maxHeartbeats 1000000 in
theorem enc_eq (r : Int) : (Utf8.encode r).data.toList = Lib.encodeRune r := by
  rcases rcases5 r with h | h | h | h | h
  · have hv : Utf8.valid r = true := (valid_iff r).2 (by omega)
    obtain ⟨n, rfl⟩ := Int.eq_ofNat_of_zero_le (show 0 ≤ r by omega)
    have h1 : n < 128 := by omega
    simp only [Utf8.encode, hv, Lib.encodeRune, Lib.encodeRuneZ_one h.1 h.2, if_true, Int.toNat_natCast, if_pos h1]
    rfl
  · have hv : Utf8.valid r = true := (valid_iff r).2 (by omega)
    obtain ⟨n, rfl⟩ := Int.eq_ofNat_of_zero_le (show 0 ≤ r by omega)
    have h1 : ¬ n < 128 := by omega
    have h2 : n < 2048 := by omega
    have e1 : (192 + (n : Int) / 64).toNat = 192 + n / 64 := by omega
    have e2 : (128 + (n : Int) % 64).toNat = 128 + n % 64 := by omega
    simp only [Utf8.encode, hv, Lib.encodeRune, Lib.encodeRuneZ_two h.1 h.2, if_true, Int.toNat_natCast, if_neg h1, if_pos h2, List.map_cons, List.map_nil, e1, e2]
  · have hv : Utf8.valid r = true := (valid_iff r).2 (by omega)
    obtain ⟨n, rfl⟩ := Int.eq_ofNat_of_zero_le (show 0 ≤ r by omega)
    have h1 : ¬ n < 128 := by omega
    have h2 : ¬ n < 2048 := by omega
    have h3 : n < 65536 := by omega
    have e1 : (224 + (n : Int) / 4096).toNat = 224 + n / 4096 := by omega
    have e2 : (128 + (n : Int) / 64 % 64).toNat = 128 + n / 64 % 64 := by omega
    have e3 : (128 + (n : Int) % 64).toNat = 128 + n % 64 := by omega
    simp only [Utf8.encode, hv, Lib.encodeRune, Lib.encodeRuneZ_three h, if_true, Int.toNat_natCast, if_neg h1, if_neg h2, if_pos h3, List.map_cons, List.map_nil, e1, e2, e3]
  · have hv : Utf8.valid r = true := (valid_iff r).2 (by omega)
    obtain ⟨n, rfl⟩ := Int.eq_ofNat_of_zero_le (show 0 ≤ r by omega)
    have h1 : ¬ n < 128 := by omega
    have h2 : ¬ n < 2048 := by omega
    have h3 : ¬ n < 65536 := by omega
    have e1 : (240 + (n : Int) / 262144).toNat = 240 + n / 262144 := by omega
    have e2 : (128 + (n : Int) / 4096 % 64).toNat = 128 + n / 4096 % 64 := by omega
    have e3 : (128 + (n : Int) / 64 % 64).toNat = 128 + n / 64 % 64 := by omega
    have e4 : (128 + (n : Int) % 64).toNat = 128 + n % 64 := by omega
    simp only [Utf8.encode, hv, Lib.encodeRune, Lib.encodeRuneZ_four h.1 h.2, if_true, Int.toNat_natCast, if_neg h1, if_neg h2, if_neg h3, List.map_cons, List.map_nil, e1, e2, e3, e4]
  · have hv : Utf8.valid r = false := by
      cases e : Utf8.valid r
      · rfl
      · have := (valid_iff r).1 e; omega
    simp only [Utf8.encode, hv, Lib.encodeRune, Lib.encodeRuneZ_bad h, Bool.false_eq_true, if_false]
    rfl

theorem enc_ne (r : Int) : Lib.encodeRune r ≠ [] := by
  have := (Lib.encodeRuneZ_length r).1
  intro e
  have h2 := congrArg List.length e
  simp only [Lib.encodeRune, List.length_map, List.length_nil] at h2
  omega
theorem enc_len (r : Int) : 1 ≤ (Lib.encodeRune r).length ∧ (Lib.encodeRune r).length ≤ 4 := by
  have := Lib.encodeRuneZ_length r
  simpa only [Lib.encodeRune, List.length_map] using this

theorem u8nat {n : Nat} (h : n < 256) : (n.toUInt8).toNat = n := by
  show n % 256 = n; omega

set_option maxHeartbeats 1000000 in
theorem decode_enc (r : Int) (t : List UInt8) : Lib.decodeL (Lib.encodeRune r ++ t) = (fixr r, (Lib.encodeRune r).length) := by
  rw [Lib.decodeL_N]
  rcases rcases5 r with h | h | h | h | h
  · have hv : Utf8.valid r = true := (valid_iff r).2 (by omega)
    obtain ⟨n, rfl⟩ := Int.eq_ofNat_of_zero_le (show 0 ≤ r by omega)
    simp only [Lib.encodeRune, Lib.encodeRuneZ_one h.1 h.2, List.map_cons, List.map_nil, List.cons_append, List.nil_append, List.getD_cons_zero, List.getD_cons_succ, List.length_cons, List.length_nil, Int.toNat_natCast]
    rw [u8nat (by omega)]
    unfold Lib.decodeN
    rw [if_pos (by omega)]
    unfold fixr; rw [if_pos hv]; rfl
  · have hv : Utf8.valid r = true := (valid_iff r).2 (by omega)
    obtain ⟨n, rfl⟩ := Int.eq_ofNat_of_zero_le (show 0 ≤ r by omega)
    have e1 : (192 + (n : Int) / 64).toNat = 192 + n / 64 := by omega
    have e2 : (128 + (n : Int) % 64).toNat = 128 + n % 64 := by omega
    simp only [Lib.encodeRune, Lib.encodeRuneZ_two h.1 h.2, List.map_cons, List.map_nil, List.cons_append, List.nil_append, List.getD_cons_zero, List.getD_cons_succ, List.length_cons, List.length_nil, e1, e2]
    rw [u8nat (by omega), u8nat (by omega)]
    unfold Lib.decodeN
    rw [if_neg (by omega), if_pos (by omega), if_pos (by omega)]
    unfold fixr; rw [if_pos hv]
    exact Prod.ext (by simp only [Int.toNat_natCast]; omega) rfl
  · have hv : Utf8.valid r = true := (valid_iff r).2 (by omega)
    obtain ⟨n, rfl⟩ := Int.eq_ofNat_of_zero_le (show 0 ≤ r by omega)
    have e1 : (224 + (n : Int) / 4096).toNat = 224 + n / 4096 := by omega
    have e2 : (128 + (n : Int) / 64 % 64).toNat = 128 + n / 64 % 64 := by omega
    have e3 : (128 + (n : Int) % 64).toNat = 128 + n % 64 := by omega
    simp only [Lib.encodeRune, Lib.encodeRuneZ_three h, List.map_cons, List.map_nil, List.cons_append, List.nil_append, List.getD_cons_zero, List.getD_cons_succ, List.length_cons, List.length_nil, e1, e2, e3]
    rw [u8nat (by omega), u8nat (by omega), u8nat (by omega)]
    unfold Lib.decodeN
    rw [if_neg (by omega), if_neg (by omega), if_pos (by omega), if_pos (by omega)]
    unfold fixr; rw [if_pos hv]
    exact Prod.ext (by simp only [Int.toNat_natCast]; omega) rfl
  · have hv : Utf8.valid r = true := (valid_iff r).2 (by omega)
    obtain ⟨n, rfl⟩ := Int.eq_ofNat_of_zero_le (show 0 ≤ r by omega)
    have e1 : (240 + (n : Int) / 262144).toNat = 240 + n / 262144 := by omega
    have e2 : (128 + (n : Int) / 4096 % 64).toNat = 128 + n / 4096 % 64 := by omega
    have e3 : (128 + (n : Int) / 64 % 64).toNat = 128 + n / 64 % 64 := by omega
    have e4 : (128 + (n : Int) % 64).toNat = 128 + n % 64 := by omega
    simp only [Lib.encodeRune, Lib.encodeRuneZ_four h.1 h.2, List.map_cons, List.map_nil, List.cons_append, List.nil_append, List.getD_cons_zero, List.getD_cons_succ, List.length_cons, List.length_nil, e1, e2, e3, e4]
    rw [u8nat (by omega), u8nat (by omega), u8nat (by omega), u8nat (by omega)]
    unfold Lib.decodeN
    rw [if_neg (by omega), if_neg (by omega), if_neg (by omega), if_pos (by omega), if_pos (by omega)]
    unfold fixr; rw [if_pos hv]
    exact Prod.ext (by simp only [Int.toNat_natCast]; omega) rfl
  · have hv : Utf8.valid r = false := by
      cases e : Utf8.valid r
      · rfl
      · have := (valid_iff r).1 e; omega
    simp only [Lib.encodeRune, Lib.encodeRuneZ_bad h, List.map_cons, List.map_nil, List.cons_append, List.nil_append, List.getD_cons_zero, List.getD_cons_succ, List.length_cons, List.length_nil]
    rw [fixr_bad hv]
    have : Lib.decodeN (t.length + 1 + 1 + 1) 239 191 189 (t.getD 0 0).toNat = (65533, 3) := by
      unfold Lib.decodeN
      rw [if_neg (by omega), if_neg (by omega), if_pos (by omega), if_pos (by omega)]
    exact this

/-! ### a text's runes, off its bytes -/
def runesL (l : List UInt8) : List Nat := runes ⟨l.toArray⟩
theorem runesAt_drop (s s' : ByteArray) : ∀ (n pos pos' : Nat), s.size - pos ≤ n → s.data.toList.drop pos = s'.data.toList.drop pos' → (runesAt s pos).map (·.2) = (runesAt s' pos').map (·.2)
  | n, pos, pos', hn, hd => by
    have hl : s.data.toList.length = s.size := Array.length_toList
    have hl' : s'.data.toList.length = s'.size := Array.length_toList
    have hlen := congrArg List.length hd
    rw [List.length_drop, List.length_drop, hl, hl'] at hlen
    by_cases h : pos < s.size
    · have h' : pos' < s'.size := by omega
      have hge := decode_ge s pos h
      have hdec : Utf8.decode s pos = Utf8.decode s' pos' := by rw [← Lib.decodeL_drop, ← Lib.decodeL_drop, hd]
      rw [runesAt_more h, runesAt_more h', List.map_cons, List.map_cons, ← hdec]
      match n, hn with
      | 0, hn => omega
      | n + 1, hn =>
        rw [runesAt_drop s s' n (pos + (Utf8.decode s pos).2) (pos' + (Utf8.decode s pos).2) (by omega) (by rw [← List.drop_drop, ← List.drop_drop, hd])]
    · rw [runesAt_end h, runesAt_end (by omega)]
theorem runesAt_L (s : ByteArray) (pos : Nat) : (runesAt s pos).map (·.2) = runesL (s.data.toList.drop pos) := by
  unfold runesL runes
  exact runesAt_drop s _ _ pos 0 (Nat.le_refl _) rfl
theorem runes_L (s : ByteArray) : runes s = runesL s.data.toList := by unfold runesL; rw [show (⟨s.data.toList.toArray⟩ : ByteArray) = s by cases s; simp]
theorem runesL_nil : runesL [] = [] := by
  unfold runesL runes; rw [runesAt_end (by show ¬ 0 < 0; omega)]; rfl
theorem runesL_more {l : List UInt8} (h : l ≠ []) : runesL l = (Lib.decodeL l).1 :: runesL (l.drop (Lib.decodeL l).2) := by
  have hl : 0 < l.length := List.length_pos_iff.2 h
  have hs : (0 : Nat) < (⟨l.toArray⟩ : ByteArray).size := by show 0 < l.toArray.size; simpa using hl
  conv => lhs; unfold runesL runes
  rw [runesAt_more hs, List.map_cons, runesAt_L]
  simp only [Nat.zero_add]
  rfl
theorem decodeL_pos {l : List UInt8} (h : l ≠ []) : 1 ≤ (Lib.decodeL l).2 := by
  have hl : 0 < l.length := List.length_pos_iff.2 h
  have hs : (0 : Nat) < (⟨l.toArray⟩ : ByteArray).size := by show 0 < l.toArray.size; simpa using hl
  exact decode_ge _ _ hs

/-- runes written one behind the other -/
def text (rs : List Int) : List UInt8 := rs.flatMap Lib.encodeRune
theorem text_nil : text [] = [] := rfl
theorem text_cons (r : Int) (rs : List Int) : text (r :: rs) = Lib.encodeRune r ++ text rs := rfl
theorem text_append (a b : List Int) : text (a ++ b) = text a ++ text b := by simp [text]
theorem runesL_enc (r : Int) (t : List UInt8) : runesL (Lib.encodeRune r ++ t) = fixr r :: runesL t := by
  have hne : Lib.encodeRune r ++ t ≠ [] := by intro e; exact enc_ne r (List.append_eq_nil_iff.1 e).1
  rw [runesL_more hne, decode_enc]
  simp
theorem runesL_text : ∀ (rs : List Int) (t : List UInt8), runesL (text rs ++ t) = rs.map fixr ++ runesL t
  | [], t => rfl
  | r :: rs, t => by rw [text_cons, List.append_assoc, runesL_enc, runesL_text rs t]; rfl
theorem runesL_text0 (rs : List Int) : runesL (text rs) = rs.map fixr := by
  have := runesL_text rs []
  rw [List.append_nil, runesL_nil, List.append_nil] at this; exact this

theorem decodeL_valid (l : List UInt8) : Utf8.valid (Lib.decodeL l).1 = true ∧ (Lib.decodeL l).1 ≤ 1114111 := by
  have h : (0 ≤ ((Lib.decodeL l).1 : Int) ∧ ((Lib.decodeL l).1 : Int) < 55296) ∨ (57343 < ((Lib.decodeL l).1 : Int) ∧ ((Lib.decodeL l).1 : Int) ≤ 1114111) := by
    rw [Lib.decodeL_N]
    have k0 := (l.getD 0 0).toNat_lt
    rcases Lib.decodeN_shape l.length (l.getD 0 0).toNat (l.getD 1 0).toNat (l.getD 2 0).toNat (l.getD 3 0).toNat with ⟨c, e⟩ | ⟨c1, c2, c3, cv, e⟩ | ⟨c1, c2, c3, c4, cv, cs, e⟩ | ⟨c1, c2, c3, c4, c5, cv, cw, e⟩ | e
    all_goals (rw [e]; dsimp only; omega)
  exact ⟨(valid_iff _).2 h, by omega⟩
theorem runesL_valid : ∀ (n : Nat) (l : List UInt8), l.length ≤ n → ∀ r ∈ runesL l, Utf8.valid (r : Int) = true ∧ r ≤ 1114111
  | n, [], _ => by rw [runesL_nil]; intro r hr; cases hr
  | 0, _ :: _, h => by simp at h
  | n + 1, a :: l, h => by
    have hne : a :: l ≠ [] := by simp
    have hp := decodeL_pos hne
    rw [runesL_more hne]
    intro r hr
    rcases List.mem_cons.1 hr with rfl | hr
    · exact decodeL_valid _
    · exact runesL_valid n _ (by rw [List.length_drop]; simp only [List.length_cons] at h ⊢; omega) r hr
theorem runes_valid (s : ByteArray) : ∀ r ∈ runes s, Utf8.valid (r : Int) = true ∧ r ≤ 1114111 := by
  rw [runes_L]; exact runesL_valid _ _ (Nat.le_refl _)

/-- strings.Map -/
theorem mapD_text {f : Int → Int} : ∀ (n : Nat) (l : List UInt8), l.length ≤ n → (∀ r ∈ runesL l, 0 ≤ f (r : Int)) → Lib.mapD f l = text ((runesL l).map fun (r : Nat) => f (r : Int))
  | n, [], _, _ => by rw [runesL_nil]; rfl
  | 0, _ :: _, h, _ => by simp at h
  | n + 1, a :: l, h, hf => by
    have hne : a :: l ≠ [] := by simp
    have hp := decodeL_pos hne
    rw [runesL_more hne] at hf ⊢
    rw [Lib.mapD_step f _ hne, if_pos (hf _ (List.mem_cons_self ..)), mapD_text n _ (by rw [List.length_drop]; simp only [List.length_cons] at h ⊢; omega) fun r hr => hf r (List.mem_cons_of_mem _ hr)]
    rfl
end Go.Cw
