/- The walk of the reference's Unquote; rows of bytes that the call owns. -/
import Derived.Test.YtocjidlbjmghdaaDoorRefQuote
import Derived.Test.YtocjidlbjmghdaaDoorUnqPlain
import Derived.Laws.BytesArg
namespace Go.Proofs.YtocjidlbjmghdaaDoor
open Go.RowKit Go.Cw

theorem info5 : (Tryd.prog.info? 5).map (fun i => (i.zero, i.size, i.bytes)) = some (some (.int .u8 0), 1, 1) := by kernel_rfl
/-- a row of bytes that the call owns -/
def UOwn (w : World) (base : Nat) (v : Value) (bs : List UInt8) : Prop := w.ownsRow base 5 1 v bs.length (Lib.byteCells bs)
theorem UOwn.nil (w : World) (base : Nat) : UOwn w base (.slice none 0 0) [] := ⟨rfl, .inl ⟨rfl, rfl⟩⟩
theorem UOwn.lt {w : World} {base : Nat} {v : Value} {bs : List UInt8} (h : UOwn w base v bs) (k : Nat) (hk : v.ownBlock = some k) : base ≤ k ∧ k < w.heap.size := World.ownsRow.lt h k hk
theorem UOwn.ext {F : Nat → Prop} {w w' : World} {base : Nat} {v : Value} {bs : List UInt8} (h : UOwn w base v bs) (hx : Ext F w w') (hF : ∀ b, v.ownBlock = some b → ¬ F b) : UOwn w' base v bs := by
  obtain ⟨h1, h2⟩ := h
  refine ⟨h1, ?_⟩
  rcases h2 with h2 | ⟨g, cap, cur, rfl, hb, hg, rest⟩
  · exact .inl h2
  · exact .inr ⟨g, cap, cur, rfl, hb, hx.blk hg (hF g rfl), rest⟩
theorem UOwn.ext0 {w w' : World} {base : Nat} {v : Value} {bs : List UInt8} (h : UOwn w base v bs) (hx : Ext none_ w w') : UOwn w' base v bs := h.ext hx fun _ _ => id
/-- A slice's address reads as these bytes. -/
structure UR (w : World) (a : Option Addr) (bs : List UInt8) (b off : Nat) : Prop where
  addr : 0 < bs.length → a = some ⟨b, off, none⟩
  cell : ∀ (j : Nat) (c : UInt8), bs[j]? = some c → w.cell? ⟨b, off + j, none⟩ = some (.int .u8 c.toNat)
theorem UR.ext0 {w w' : World} {a : Option Addr} {bs : List UInt8} {b off : Nat} (h : UR w a bs b off) (hx : Ext none_ w w') : UR w' a bs b off :=
  ⟨h.addr, fun j s hj => cell_ext0 hx (h.cell j s hj)⟩
theorem UOwn.read {w : World} {base : Nat} {v : Value} {bs : List UInt8} (h : UOwn w base v bs) : ∃ a c b, v = .slice a bs.length c ∧ UR w a bs b 0 ∧ (bs = [] ∨ v.ownBlock = some b) := by
  rcases h.2 with ⟨rfl, h0⟩ | ⟨g, cap, cur, rfl, hb, hg, hc1, hc2, hc3, hc4⟩
  · rw [h0]
    exact ⟨none, 0, 0, rfl, ⟨fun h => by omega, fun j r hj => by
      have := (List.getElem?_eq_some_iff.1 hj).1; omega⟩, .inl (List.length_eq_zero_iff.1 h0)⟩
  · refine ⟨_, cap, g, rfl, ⟨fun _ => rfl, fun j z hj => ?_⟩, .inr rfl⟩
    rw [cell_of hg, Nat.zero_add]
    have hj' : (Lib.byteCells bs)[j]? = some (.int .u8 z.toNat) := by simp [Lib.byteCells, hj]
    rw [← hc4, List.getElem?_take] at hj'
    split at hj'
    · simpa using hj'
    · cases hj'
theorem app_byte {ops : Array Oper} {rest : List Oper} {o : Oper} {a : Act} {Q : Exit → Act → World → Prop} {w : World} (hgd : o.guard = none) (s y : Operand) (ho : o.op = .call { callee := .builtin .append, args := #[s, y], argTypes := #[51, 51] })
    (base : Nat) (v : Value) (bs : List UInt8) (x : UInt8) (hown : UOwn w base v bs) (hs : a.eval s = v) (bk : Nat) (hx : a.eval y = .slice (some ⟨bk, 0, none⟩) 1 1) (hc : w.cell? ⟨bk, 0, none⟩ = some (.int .u8 x.toNat))
    (hn : bs.length ≤ 1000000) (hb : base ≤ w.heap.size)
    (h : ∀ v' w', UOwn w' base v' (bs ++ [x]) → Ext (fun b => v.ownBlock = some b) w w' → wpList Tryd.prog ops Q rest (a.put o.dst v') w') :
    wpList Tryd.prog ops Q (o :: rest) a w := by
  obtain ⟨i0, hi, hz0, hz1, hz2⟩ := info_parts info5
  refine wpList_append_own w hgd s y 51 ho base 5 i0 _ 1 1 Tryd.underlying51 hi hz0 hz1 hz2 rfl (by decide) v _ _ hs hown ⟨bk, 0, none⟩ 1 1 [.int .u8 x.toNat] hx rfl ?_ ?_ ?_ ?_ hb ?_
  · intro j u hj
    match j, hj with
    | 0, hj => simp at hj; subst hj; simpa [Addr.add] using hc
  · intro u hu; simp at hu; subst hu; rfl
  · unfold maxLen; omega
  · omega
  · intro v' w' h1 h2 _
    refine h v' w' ?_ ?_
    · unfold UOwn
      rw [List.length_append, Lib.byteCells_append]
      exact h1
    · exact (Ext.grown h2).mono fun _ _ h => h.symm
/-- 'string(b)' -/
theorem conv_bytes (w : World) (a : Option Addr) (bs : List UInt8) (b off c : Nat) (h : UR w a bs b off) :
    (convert 51 9 (.slice a bs.length c)).run Tryd.prog w = .ok (.string ⟨bs.toArray⟩) w := by
  cases ha : a with
  | none =>
    have hb : bs = [] := by
      cases hbs : bs with
      | nil => rfl
      | cons x xs =>
        have := h.addr (by rw [hbs]; simp)
        rw [ha] at this; cases this
    rw [hb]
    exact run_convert_bytes_nil w 51 5 Tryd.underlying51 Tryd.underlying5 _ _ 9 Tryd.underlying9
  | some a' =>
    cases hbs : bs with
    | nil => exact run_convert_bytes_back w 51 9 5 a' c [] Tryd.underlying51 Tryd.underlying5 Tryd.underlying9 fun j hj => by simp at hj
    | cons x xs =>
      rw [← hbs]
      have h2 := h.addr (by rw [hbs]; simp)
      rw [ha] at h2
      cases h2
      exact run_convert_bytes_back w 51 9 5 ⟨b, off, none⟩ c bs Tryd.underlying51 Tryd.underlying5 Tryd.underlying9 fun j hj => by
        have := h.cell j bs[j] (List.getElem?_eq_getElem hj)
        cases j with
        | zero => simpa [Addr.add] using this
        | succ k => simpa [Addr.add] using this

theorem mid_list (s : ByteArray) : (mid s).data.toList = (s.data.toList.take (s.size - 1)).drop 1 := by
  unfold mid
  rw [ByteArray.data_extract, Array.toList_extract, List.extract_eq_drop_take']
theorem mid_len (s : ByteArray) : (mid s).data.toList.length = s.size - 2 := by
  rw [mid_list, List.length_drop, List.length_take, show s.data.toList.length = s.size from Array.length_toList]; omega
theorem mid_get {s : ByteArray} {j : Nat} {c : UInt8} (h : (mid s).data.toList[j]? = some c) : ∃ hh : j + 1 < s.size, s[j + 1]'hh = c := by
  have hl := (List.getElem?_eq_some_iff.1 h).1
  rw [mid_len] at hl
  have hh : j + 1 < s.size := by omega
  refine ⟨hh, ?_⟩
  rw [mid_list, List.getElem?_drop, List.getElem?_take, if_pos (by omega), Nat.add_comm 1 j] at h
  have h2 : s.data.toList[j + 1]? = some (s[j + 1]'hh) := by
    rw [List.getElem?_eq_getElem (by rw [show s.data.toList.length = s.size from Array.length_toList]; exact hh)]; rfl
  rw [h2] at h
  exact Option.some.inj h
theorem unb_one {m : List UInt8} {j : Nat} {c : UInt8} (h : m[j]? = some c) (hc : c ≠ 92 ∨ m.length ≤ j + 1) : unb (m.drop j) = c :: unb (m.drop (j + 1)) := by
  obtain ⟨hl, rfl⟩ := List.getElem?_eq_some_iff.1 h
  rw [List.drop_eq_getElem_cons hl]
  rcases hc with hc | hc
  · exact unb_cons hc _
  · rw [List.drop_eq_nil_iff.2 hc]; rfl
theorem unb_two {m : List UInt8} {j : Nat} {d : UInt8} (h : m[j]? = some 92) (h2 : m[j + 1]? = some d) : unb (m.drop j) = (if d = 110 then 10 else d) :: unb (m.drop (j + 2)) := by
  obtain ⟨hl, e⟩ := List.getElem?_eq_some_iff.1 h
  obtain ⟨hl2, rfl⟩ := List.getElem?_eq_some_iff.1 h2
  rw [List.drop_eq_getElem_cons hl, e, List.drop_eq_getElem_cons hl2]
  rfl
theorem u8_eq {c : UInt8} {n : Nat} (hn : n < 256) : ((c.toNat : Int) == (n : Int)) = decide (c = n.toUInt8) := by
  rw [Bool.eq_iff_iff, beq_iff_eq, decide_eq_true_eq]
  constructor
  · intro h
    refine UInt8.toNat_inj.1 ?_
    rw [u8nat hn]; omega
  · rintro rfl
    rw [u8nat hn]

set_option maxHeartbeats 4000000 in
set_option maxRecDepth 100000 in
theorem runquote_any (w : World) (s : ByteArray) (hs : s.size ≤ 20000) (h2 : 2 ≤ s.size) :
    Calls Tryd.prog 31 #[.string s] w fun e w' => e = .returned (.tuple #[.string ⟨(unb (mid s).data.toList).toArray⟩, .bool (decide (quoteP (runesL (unb (mid s).data.toList)) = s.data.toList))]) ∧ Ext none_ w w' := by
  have hd : decide ((s.size : Int) < 2) = false := decide_eq_false (by omega)
  have hml := mid_len s
  have hmg : ∀ (j : Nat) (c : UInt8), (mid s).data.toList[j]? = some c → ∃ hh : j + 1 < s.size, s[j + 1]'hh = c := fun _ _ => mid_get
  generalize (mid s).data.toList = m at *
  have Hmg := Lib.hid hmg
  clear hmg
  go_enter Tryd.func31, Tryd.ntmps31
  go_wp2_with fail
  go_loopw [4, 5] (fun v i wr => ∃ (j : Nat) (acc : List UInt8), j ≤ m.length ∧ i = .int .i64 ((j : Int) + 1) ∧ UOwn wr w.heap.size v acc ∧ acc.length ≤ j ∧ Ext none_ w wr ∧ Hid (acc ++ unb (m.drop j) = unb m)) (fun _ i _ => m.length + 1 - (RowKit.intOf i).toNat)
  case atStart => exact ⟨0, [], by omega, rfl, UOwn.nil _ _, by simp, Ext.refl _ _, Lib.hid rfl⟩
  case round =>
    obtain ⟨j, acc, hj, rfl, hown, hal, hx, Hok⟩ := hrel
    by_cases hlt : j < m.length
    · have hd1 : decide ((j : Int) + 1 < (s.size : Int) - 1) = true := decide_eq_true (by omega)
      obtain ⟨c, hc⟩ : ∃ c, m[j]? = some c := ⟨_, List.getElem?_eq_getElem hlt⟩
      obtain ⟨hjs, hsj⟩ := Hmg.out _ _ hc
      by_cases hA : c = 92 ∧ j + 1 < m.length
      · obtain ⟨hc92, hl2⟩ := hA
        obtain ⟨d, hdj⟩ : ∃ d, m[j + 1]? = some d := ⟨_, List.getElem?_eq_getElem hl2⟩
        obtain ⟨hjs2, hsj2⟩ := Hmg.out _ _ hdj
        have Hst := Lib.hid (unb_two (by rw [← hc92]; exact hc) hdj)
        have e92 : ((c.toNat : Int) == 92) = true := by rw [hc92]; rfl
        have hd2 : decide ((j : Int) + 1 + 1 < (s.size : Int) - 1) = true := decide_eq_true (by omega)
        clear hc hdj hc92
        by_cases h110 : d = 110
        · have e110 : ((d.toNat : Int) == 110) = true := by rw [h110]; rfl
          have Hst2 : Hid (unb (m.drop j) = 10 :: unb (m.drop (j + 2))) := Lib.hid (by rw [Hst.out, if_pos h110])
          clear h110
          have hb5 : w.heap.size ≤ (wr.alloc (.cells #[.int .u8 (10 : UInt8).toNat] 5)).heap.size := by have := hx.size; simp; omega
          go_wp2_with (refine app_byte rfl _ _ rfl w.heap.size _ acc (10 : UInt8) (hown.ext0 (Ext.alloc _ _)) rfl wr.heap.size rfl (cells1 (blk_new _ _)) (by omega) hb5 ?_)
          intro v6 w6 hown6 hx6
          have hx6' := (hx.grow (Ext.alloc wr (.cells #[.int .u8 (10 : UInt8).toNat] 5))).trans hx6 fun i hi hb => by have := (hown.lt i hb).1; omega
          clear hx6 hb5 hown hx
          go_wp2
          exact ⟨⟨j + 2, acc ++ [(10 : UInt8)], by omega, by simp; try omega, hown6, by rw [List.length_append]; simp; try omega, hx6', Lib.hid (by rw [List.append_assoc, ← Hok.out, Hst2.out]; rfl)⟩, by simp [RowKit.intOf]; omega⟩
        · have e110 : ((d.toNat : Int) == 110) = false := by
            rw [show (110 : Int) = ((110 : Nat) : Int) from rfl, u8_eq (by omega)]; exact decide_eq_false h110
          have Hst2 : Hid (unb (m.drop j) = d :: unb (m.drop (j + 2))) := Lib.hid (by rw [Hst.out, if_neg h110])
          clear h110
          have hb5 : w.heap.size ≤ (wr.alloc (.cells #[.int .u8 d.toNat] 5)).heap.size := by have := hx.size; simp; omega
          go_wp2_with (refine app_byte rfl _ _ rfl w.heap.size _ acc d (hown.ext0 (Ext.alloc _ _)) rfl wr.heap.size rfl (cells1 (blk_new _ _)) (by omega) hb5 ?_)
          intro v6 w6 hown6 hx6
          have hx6' := (hx.grow (Ext.alloc wr (.cells #[.int .u8 d.toNat] 5))).trans hx6 fun i hi hb => by have := (hown.lt i hb).1; omega
          clear hx6 hb5 hown hx
          go_wp2
          exact ⟨⟨j + 2, acc ++ [d], by omega, by simp; try omega, hown6, by rw [List.length_append]; simp; try omega, hx6', Lib.hid (by rw [List.append_assoc, ← Hok.out, Hst2.out]; rfl)⟩, by simp [RowKit.intOf]; omega⟩
      · have Hst : Hid (unb (m.drop j) = c :: unb (m.drop (j + 1))) := Lib.hid (unb_one hc (by
          by_cases h : c = 92
          · exact .inr (Nat.le_of_not_lt fun hl => hA ⟨h, hl⟩)
          · exact .inl h))
        by_cases h92 : c = 92
        · have e92 : ((c.toNat : Int) == 92) = true := by rw [h92]; rfl
          have hnl : ¬ j + 1 < m.length := fun hl => hA ⟨h92, hl⟩
          have hd2 : decide ((j : Int) + 1 + 1 < (s.size : Int) - 1) = false := decide_eq_false (by omega)
          clear hA hc h92
          have hb5 : w.heap.size ≤ (wr.alloc (.cells #[.int .u8 c.toNat] 5)).heap.size := by have := hx.size; simp; omega
          go_wp2_with (refine app_byte rfl _ _ rfl w.heap.size _ acc c (hown.ext0 (Ext.alloc _ _)) rfl wr.heap.size rfl (cells1 (blk_new _ _)) (by omega) hb5 ?_)
          intro v6 w6 hown6 hx6
          have hx6' := (hx.grow (Ext.alloc wr (.cells #[.int .u8 c.toNat] 5))).trans hx6 fun i hi hb => by have := (hown.lt i hb).1; omega
          clear hx6 hb5 hown hx
          go_wp2
          exact ⟨⟨j + 1, acc ++ [c], by omega, by simp; try omega, hown6, by rw [List.length_append]; simp; try omega, hx6', Lib.hid (by rw [List.append_assoc, ← Hok.out, Hst.out]; rfl)⟩, by simp [RowKit.intOf]; omega⟩
        · have e92 : ((c.toNat : Int) == 92) = false := by
            rw [show (92 : Int) = ((92 : Nat) : Int) from rfl, u8_eq (by omega)]; exact decide_eq_false h92
          clear hA hc h92
          have hb5 : w.heap.size ≤ (wr.alloc (.cells #[.int .u8 c.toNat] 5)).heap.size := by have := hx.size; simp; omega
          go_wp2_with (refine app_byte rfl _ _ rfl w.heap.size _ acc c (hown.ext0 (Ext.alloc _ _)) rfl wr.heap.size rfl (cells1 (blk_new _ _)) (by omega) hb5 ?_)
          intro v6 w6 hown6 hx6
          have hx6' := (hx.grow (Ext.alloc wr (.cells #[.int .u8 c.toNat] 5))).trans hx6 fun i hi hb => by have := (hown.lt i hb).1; omega
          clear hx6 hb5 hown hx
          go_wp2
          exact ⟨⟨j + 1, acc ++ [c], by omega, by simp; try omega, hown6, by rw [List.length_append]; simp; try omega, hx6', Lib.hid (by rw [List.append_assoc, ← Hok.out, Hst.out]; rfl)⟩, by simp [RowKit.intOf]; omega⟩
    · have hd1 : decide ((j : Int) + 1 < (s.size : Int) - 1) = false := decide_eq_false (by omega)
      have hjn : j = m.length := by omega
      have Hacc : Hid (acc = unb m) := Lib.hid (by
        have := Hok.out
        rw [hjn, List.drop_length] at this
        rw [← this]; show acc = acc ++ []; rw [List.append_nil])
      obtain ⟨a, c, b, rfl, hR, _⟩ := hown.read
      have hcv := conv_bytes wr a acc b 0 c hR
      clear hjn
      go_wp2_with fail
      refine (rquote_any wr _ (show acc.toArray.size ≤ 100000 by simp; omega)).mono ?_
      rintro e w6 ⟨rfl, hx6⟩
      have hrl : runes ⟨acc.toArray⟩ = runesL acc := rfl
      rw [hrl]
      by_cases hq : quoteP (runesL acc) = s.data.toList
      · have hqb : (quoteP (runesL acc) == s.toList) = true := by rw [ByteArray.toList_eq, hq]; exact beq_self_eq_true _
        have Hq := Lib.hid hq
        clear hq hR hown
        go_wp2
        go_ret2
        refine ⟨?_, hx.grow hx6⟩
        rw [← Hacc.out, decide_eq_true Hq.out]; rfl
      · have hqb : (quoteP (runesL acc) == s.toList) = false := by rw [ByteArray.toList_eq]; exact beq_eq_false_iff_ne.2 hq
        have Hq := Lib.hid hq
        clear hq hR hown
        go_wp2
        go_ret2
        refine ⟨?_, hx.grow hx6⟩
        rw [← Hacc.out, decide_eq_false Hq.out]; rfl

end Go.Proofs.YtocjidlbjmghdaaDoor
