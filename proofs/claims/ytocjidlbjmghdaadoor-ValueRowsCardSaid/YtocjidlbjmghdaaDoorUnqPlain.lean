/- The plain law of quoted texts: read rune by rune, read byte by byte. -/
import Derived.Test.YtocjidlbjmghdaaDoorQuote
namespace Go.Proofs.YtocjidlbjmghdaaDoor
open Go.RowKit Go.Cw

/-- the text between quotation marks, read rune by rune -/
def unqL : Bool → List UInt8 → List Nat → Option (List UInt8)
  | back, acc, [] => if back then none else some acc
  | back, acc, r :: rs =>
    if back = true ∧ r = 110 then unqL false (acc ++ [10]) rs
    else if back = false ∧ r = 92 then unqL true acc rs
    else if back = decide (r = 34 ∨ r = 92) then unqL false (acc ++ Lib.encodeRune r) rs
    else none
/-- the same, byte by byte -/
def unb : List UInt8 → List UInt8
  | [] => []
  | [c] => [c]
  | c :: d :: l => if c = 92 then (if d = 110 then 10 else d) :: unb l else c :: unb (d :: l)
def mid (s : ByteArray) : ByteArray := s.extract 1 (s.size - 1)
theorem mid_bytes {s : ByteArray} {m : List UInt8} (h : s.data.toList = 34 :: m ++ [34]) : (mid s).data.toList = m := by
  have hs : s.size = m.length + 2 := by
    have := congrArg List.length h
    rw [show s.data.toList.length = s.size from Array.length_toList] at this
    simpa using this
  unfold mid
  rw [ByteArray.data_extract, Array.toList_extract, h, hs]
  simp [List.extract_eq_take_drop]

theorem enc_no92 {r : Int} (h : r ≠ 92) : ∀ b ∈ Lib.encodeRune r, b ≠ 92 := by
  intro b hb e
  subst e
  unfold Lib.encodeRune at hb
  obtain ⟨x, hx, he⟩ := List.mem_map.1 hb
  have h256 := Lib.encodeRuneZ_byte r x hx
  have hx92 : x = 92 := by
    have h1 := congrArg UInt8.toNat he
    rw [u8nat (by omega)] at h1
    have h2 : (92 : UInt8).toNat = 92 := rfl
    rw [h2] at h1
    omega
  subst hx92
  rcases rcases5 r with c | c | c | c | c
  · rw [Lib.encodeRuneZ_one c.1 c.2] at hx; simp at hx; omega
  · rw [Lib.encodeRuneZ_two c.1 c.2] at hx; simp at hx; omega
  · rw [Lib.encodeRuneZ_three c] at hx; simp at hx; omega
  · rw [Lib.encodeRuneZ_four c.1 c.2] at hx; simp at hx; omega
  · rw [Lib.encodeRuneZ_bad c] at hx; simp at hx
theorem unb_cons {c : UInt8} (h : c ≠ 92) (m : List UInt8) : unb (c :: m) = c :: unb m := by
  cases m with
  | nil => simp [unb]
  | cons d l => simp [unb, h]
theorem unb_plain : ∀ (e m : List UInt8), (∀ b ∈ e, b ≠ 92) → unb (e ++ m) = e ++ unb m
  | [], _, _ => rfl
  | c :: e, m, h => by
    rw [List.cons_append, unb_cons (h c (List.mem_cons_self ..)), unb_plain e m fun b hb => h b (List.mem_cons_of_mem _ hb)]; rfl
theorem unb_q (r : Int) (m : List UInt8) : unb (qr r ++ m) = Lib.encodeRune r ++ unb m := by
  unfold qr
  by_cases h : r = 34 ∨ r = 92
  · rw [if_pos h]
    rcases h with rfl | rfl
    · show unb (92 :: 34 :: m) = [34] ++ unb m
      rfl
    · show unb (92 :: 92 :: m) = [92] ++ unb m
      rfl
  · rw [if_neg h]
    by_cases h10 : r = 10
    · rw [if_pos h10, h10]
      show unb (92 :: 110 :: m) = [10] ++ unb m
      rfl
    · rw [if_neg h10]
      exact unb_plain _ _ (enc_no92 (by omega))
theorem unb_flat : ∀ rs : List Int, unb (rs.flatMap qr) = text rs
  | [] => rfl
  | r :: rs => by rw [List.flatMap_cons, unb_q, unb_flat rs, text_cons]

/-- a rune between quotation marks, as runes -/
def qrn (r : Nat) : List Nat := if r = 34 ∨ r = 92 then [92, r] else if r = 10 then [92, 110] else [r]
theorem qr_text (r : Nat) : qr (r : Int) = text (zs (qrn r)) := by
  unfold qr qrn
  by_cases h : r = 34 ∨ r = 92
  · rw [if_pos (by omega), if_pos h]
    rcases h with rfl | rfl <;> rfl
  · rw [if_neg (by omega), if_neg h]
    by_cases h10 : r = 10
    · rw [if_pos (by omega), if_pos h10]; rfl
    · rw [if_neg (by omega), if_neg h10]
      show _ = Lib.encodeRune (r : Int) ++ []
      rw [List.append_nil]
theorem zs_append (a b : List Nat) : zs (a ++ b) = zs a ++ zs b := by simp [zs]
theorem qflat_text : ∀ rs : List Nat, (zs rs).flatMap qr = text (zs (rs.flatMap qrn))
  | [] => rfl
  | r :: rs => by
    show qr (r : Int) ++ (zs rs).flatMap qr = _
    rw [List.flatMap_cons, zs_append, text_append, qr_text, qflat_text rs]
theorem fixr_nat {r : Nat} (h : Utf8.valid (r : Int) = true) : fixr (r : Int) = r := by
  unfold fixr; rw [if_pos h]; rfl
theorem zs_fix : ∀ {rs : List Nat}, (∀ r ∈ rs, Utf8.valid (r : Int) = true) → (zs rs).map fixr = rs
  | [], _ => rfl
  | r :: rs, h => by
    have e : fixr (Int.ofNat r) = r := fixr_nat (h r (List.mem_cons_self ..))
    have ih := zs_fix (rs := rs) fun x hx => h x (List.mem_cons_of_mem _ hx)
    simp only [zs, List.map_cons] at ih ⊢
    rw [e, ih]
theorem qrn_valid {r : Nat} (h : Utf8.valid (r : Int) = true) : ∀ x ∈ qrn r, Utf8.valid (x : Int) = true := by
  intro x hx
  unfold qrn at hx
  split at hx
  · rcases List.mem_cons.1 hx with rfl | hx
    · rfl
    · rw [List.mem_singleton.1 hx]; exact h
  · split at hx
    · rcases List.mem_cons.1 hx with rfl | hx
      · rfl
      · rw [List.mem_singleton.1 hx]; rfl
    · rw [List.mem_singleton.1 hx]; exact h
theorem runes_flat {rs : List Nat} (h : ∀ r ∈ rs, Utf8.valid (r : Int) = true) : runesL ((zs rs).flatMap qr) = rs.flatMap qrn := by
  rw [qflat_text, runesL_text0, zs_fix]
  intro x hx
  obtain ⟨r, hr, hx⟩ := List.mem_flatMap.1 hx
  exact qrn_valid (h r hr) x hx
theorem unqL_q (r : Nat) (acc : List UInt8) (m : List Nat) : unqL false acc (qrn r ++ m) = unqL false (acc ++ Lib.encodeRune r) m := by
  unfold qrn
  by_cases h : r = 34 ∨ r = 92
  · rw [if_pos h]
    rcases h with rfl | rfl
    · show unqL false acc (92 :: 34 :: m) = _
      rw [unqL, if_neg (by simp), if_pos (by simp), unqL, if_neg (by simp), if_neg (by simp), if_pos (by simp)]
    · show unqL false acc (92 :: 92 :: m) = _
      rw [unqL, if_neg (by simp), if_pos (by simp), unqL, if_neg (by simp), if_neg (by simp), if_pos (by simp)]
  · rw [if_neg h]
    by_cases h10 : r = 10
    · rw [if_pos h10, h10]
      show unqL false acc (92 :: 110 :: m) = _
      rw [unqL, if_neg (by simp), if_pos (by simp), unqL, if_pos (by simp)]; rfl
    · rw [if_neg h10]
      show unqL false acc (r :: m) = _
      rw [unqL, if_neg (by simp), if_neg (by omega), if_pos (decide_eq_false h).symm]
theorem unqL_flat : ∀ (rs : List Nat) (acc : List UInt8), unqL false acc (rs.flatMap qrn) = some (acc ++ text (zs rs))
  | [], acc => by show some acc = some (acc ++ []); rw [List.append_nil]
  | r :: rs, acc => by
    rw [List.flatMap_cons, unqL_q, unqL_flat rs, List.append_assoc]; rfl

/-- what Unquote gives -/
def unquoteP (s : ByteArray) : Option (List UInt8) :=
  if s.size < 2 ∨ s.data.toList[0]? ≠ some 34 ∨ s.data.toList[s.size - 1]? ≠ some 34 then none
  else (unqL false [] (runes (mid s))).bind fun t => if quoteP (runesL t) = s.data.toList then some t else none
theorem unquote_quoted {s : ByteArray} {rs : List Nat} (hv : ∀ r ∈ rs, Utf8.valid (r : Int) = true) (h : s.data.toList = quoteP rs) : unquoteP s = some (text (zs rs)) := by
  have hs : s.size = ((zs rs).flatMap qr).length + 2 := by
    have := congrArg List.length h
    rw [show s.data.toList.length = s.size from Array.length_toList] at this
    rw [this]; unfold quoteP; simp
  unfold unquoteP
  rw [if_neg, runes_L, mid_bytes h, runes_flat hv, unqL_flat]
  · show (if quoteP (runesL (text (zs rs))) = s.data.toList then some (text (zs rs)) else none) = _
    rw [if_pos]
    rw [runesL_text0, zs_fix hv, h]
  · intro hc
    rcases hc with hc | hc | hc
    · omega
    · exact hc (by rw [h]; rfl)
    · refine hc ?_
      rw [h, hs]
      unfold quoteP
      rw [List.getElem?_append_right (by simp)]
      simp
theorem unquote_some {s : ByteArray} {t : List UInt8} (h : unquoteP s = some t) : quoteP (runesL t) = s.data.toList := by
  unfold unquoteP at h
  split at h
  · cases h
  · obtain ⟨t', _, h2⟩ := Option.bind_eq_some_iff.1 h
    split at h2
    · rename_i hq; cases h2; exact hq
    · cases h2
theorem runesL_ok (t : List UInt8) : ∀ r ∈ runesL t, Utf8.valid (r : Int) = true := fun r hr => (runesL_valid _ t (Nat.le_refl _) r hr).1

/-- read byte by byte: the text just if quoted it is s -/
theorem unquote_law (s : ByteArray) : (unquoteP s).isSome = decide (quoteP (runesL (unb (mid s).data.toList)) = s.data.toList) ∧ ∀ t, unquoteP s = some t → t = unb (mid s).data.toList := by
  have hk : ∀ t, quoteP (runesL t) = s.data.toList → unb (mid s).data.toList = text (zs (runesL t)) ∧ unquoteP s = some (text (zs (runesL t))) := fun t ht => by
    rw [mid_bytes (m := (zs (runesL t)).flatMap qr) ht.symm, unb_flat]
    exact ⟨rfl, unquote_quoted (runesL_ok t) ht.symm⟩
  refine ⟨?_, fun t ht => ?_⟩
  · by_cases hq : quoteP (runesL (unb (mid s).data.toList)) = s.data.toList
    · rw [decide_eq_true hq, (hk _ hq).2]; rfl
    · rw [decide_eq_false hq]
      cases hu : unquoteP s with
      | none => rfl
      | some t =>
        have h1 := unquote_some hu
        have h2 := hk t h1
        exfalso
        refine hq ?_
        rw [h2.1, runesL_text0, zs_fix (runesL_ok t)]; exact h1
  · have h1 := unquote_some ht
    have h2 := hk t h1
    rw [h2.1]
    exact Option.some.inj (ht.symm.trans h2.2)

end Go.Proofs.YtocjidlbjmghdaaDoor
