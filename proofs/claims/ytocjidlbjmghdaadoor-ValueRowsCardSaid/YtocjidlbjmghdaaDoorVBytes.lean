/- The walk of Bytes. -/
import Derived.Test.YtocjidlbjmghdaaDoorVBytesPlain
import Derived.Test.YtocjidlbjmghdaaDoorUnquote
namespace Go.Proofs.YtocjidlbjmghdaaDoor
open Go.RowKit Go.Cw

theorem UOwn.base {w : World} {base base' : Nat} {v : Value} {bs : List UInt8} (h : UOwn w base v bs) (hb : base' ≤ base) : UOwn w base' v bs := by
  obtain ⟨h1, h2⟩ := h
  refine ⟨h1, ?_⟩
  rcases h2 with h2 | ⟨g, cap, cur, rfl, hb', rest⟩
  · exact .inl h2
  · exact .inr ⟨g, cap, cur, rfl, Nat.le_trans hb hb', rest⟩
theorem app_byte2 {ops : Array Oper} {rest : List Oper} {o : Oper} {a : Act} {Q : Exit → Act → World → Prop} {w : World} (hgd : o.guard = none) (s y : Operand) (ho : o.op = .call { callee := .builtin .append, args := #[s, y], argTypes := #[51, 51] })
    (base : Nat) (v : Value) (bs : List UInt8) (x x2 : UInt8) (hown : UOwn w base v bs) (hs : a.eval s = v) (bk : Nat) (hx : a.eval y = .slice (some ⟨bk, 0, none⟩) 2 2) (hc : w.cell? ⟨bk, 0, none⟩ = some (.int .u8 x.toNat)) (hc2 : w.cell? ⟨bk, 1, none⟩ = some (.int .u8 x2.toNat))
    (hn : bs.length ≤ 1000000) (hb : base ≤ w.heap.size)
    (h : ∀ v' w', UOwn w' base v' (bs ++ [x, x2]) → Ext (fun b => v.ownBlock = some b) w w' → wpList Tryd.prog ops Q rest (a.put o.dst v') w') :
    wpList Tryd.prog ops Q (o :: rest) a w := by
  obtain ⟨i0, hi, hz0, hz1, hz2⟩ := info_parts info5
  refine wpList_append_own w hgd s y 51 ho base 5 i0 _ 1 1 Tryd.underlying51 hi hz0 hz1 hz2 rfl (by decide) v _ _ hs hown ⟨bk, 0, none⟩ 2 2 [.int .u8 x.toNat, .int .u8 x2.toNat] hx rfl ?_ ?_ ?_ ?_ hb ?_
  · intro j u hj
    match j, hj with
    | 0, hj => simp at hj; subst hj; simpa [Addr.add] using hc
    | 1, hj => simp at hj; subst hj; simpa [Addr.add] using hc2
  · intro u hu
    simp at hu
    rcases hu with rfl | rfl <;> rfl
  · unfold maxLen; omega
  · omega
  · intro v' w' h1 h2 _
    refine h v' w' ?_ ?_
    · unfold UOwn
      rw [List.length_append, Lib.byteCells_append]
      exact h1
    · exact (Ext.grown h2).mono fun _ _ h => h.symm
theorem UOwn.lit (w : World) (l : List UInt8) (hl : l.length ≤ 1000000) : UOwn (w.alloc (.cells (Lib.byteCells l).toArray 5)) w.heap.size (.slice (some ⟨w.heap.size, 0, none⟩) l.length l.length) l := by
  refine ⟨by rw [Lib.byteCells_length, Nat.mul_one], .inr ⟨w.heap.size, l.length, (Lib.byteCells l).toArray, rfl, Nat.le_refl _, blk_new _ _, Nat.le_refl _, by unfold maxLen; omega, by simp [Lib.byteCells_length], ?_⟩⟩
  rw [Nat.mul_one]
  exact List.take_of_length_le (by rw [Lib.byteCells_length]; exact Nat.le_refl _)

def numB (n : Int) : List UInt8 := 1 :: (List.range 8).map (byteN (usign n))
def strB (s : ByteArray) : List UInt8 := (2 :: s.data.toList.flatMap fun b => if b = 0 then [0, 255] else [b]) ++ [0, 0]

set_option maxHeartbeats 4000000 in
set_option maxRecDepth 100000 in
theorem bytesN_any (w : World) (v : Vl) (hn : -9223372036854775808 ≤ v.n ∧ v.n ≤ 9223372036854775807) (hv : v.isN) :
    Calls Tryd.prog 39 #[v.val] w fun e w' => ∃ r, e = .returned (.tuple #[r, .int .i64 0]) ∧ UOwn w' w.heap.size r (numB v.n) ∧ Ext none_ w w' := by
  have ht := thing_any (w.alloc (.cells #[.int .i64 v.k, .int .i64 v.n, .string v.s] 49)) v
  rw [show v.thing = .iface 3 (.int .i64 v.n) by unfold Vl.thing; rw [if_pos hv]] at ht
  obtain ⟨hx1, c0, c1, c2⟩ := vbox w v.k v.n v.s
  unfold Vl.val at ht ⊢
  clear hv
  generalize v.k = k at *
  generalize v.n = n at *
  generalize v.s = s at *
  go_enter Tryd.func39, Tryd.ntmps39
  go_wp2_with fail
  refine ht.mono ?_
  rintro e w2 ⟨rfl, hx2⟩
  have hx2' := hx1.grow hx2
  clear ht hx1 hx2 c0 c1 c2
  have t33 := ta33
  have hbs := bits_sign n hn
  go_wp2_with fail
  have hu0 := UOwn.lit w2 [1] (by simp)
  have hx3 := Ext.alloc w2 (.cells (Lib.byteCells [1]).toArray 5)
  go_loopw [7, 8] (fun q i wr => ∃ j : Nat, j ≤ 8 ∧ i = .int .i64 (56 - 8 * (j : Int)) ∧ UOwn wr w2.heap.size q (1 :: (List.range j).map (byteN (usign n))) ∧ Ext none_ w2 wr) (fun _ i _ => (RowKit.intOf i + 8).toNat)
  case atStart => exact ⟨0, by omega, rfl, hu0, hx3⟩
  case round =>
    obtain ⟨j, hj, rfl, hown, hx⟩ := hrel
    by_cases hlt : j < 8
    · have hd : decide (0 ≤ 56 - 8 * (j : Int)) = true := decide_eq_true (by omega)
      have hV := byteN_int (usign n) hlt
      have Hj : Hid ((List.range (j + 1)).map (byteN (usign n)) = (List.range j).map (byteN (usign n)) ++ [byteN (usign n) j]) := Lib.hid (by rw [List.range_succ, List.map_append]; rfl)
      have hlen : (1 :: (List.range j).map (byteN (usign n))).length ≤ 1000000 := by simp; omega
      generalize byteN (usign n) j = x at *
      have hb5 : w2.heap.size ≤ (wr.alloc (.cells #[.int .u8 x.toNat] 5)).heap.size := by have := hx.size; simp; omega
      go_wp2_with (refine app_byte rfl _ _ rfl w2.heap.size _ _ x (hown.ext0 (Ext.alloc _ _)) rfl wr.heap.size rfl (cells1 (blk_new _ _)) hlen hb5 ?_)
      intro v6 w6 hown6 hx6
      have hx6' := (hx.grow (Ext.alloc wr (.cells #[.int .u8 x.toNat] 5))).trans hx6 fun i hi hb => by have := (hown.lt i hb).1; omega
      clear hx6 hb5 hown hx
      go_wp2
      exact ⟨⟨j + 1, by omega, by simp; omega, by rw [Hj.out]; exact hown6, hx6'⟩, by simp [RowKit.intOf]; omega⟩
    · have hd : decide (0 ≤ 56 - 8 * (j : Int)) = false := decide_eq_false (by omega)
      have hj8 : j = 8 := by omega
      rw [hj8] at hown
      clear hj8
      go_wp2
      go_ret2
      exact ⟨_, rfl, hown.base hx2'.size, hx2'.grow hx⟩

def enc0 (b : UInt8) : List UInt8 := if b = 0 then [0, 255] else [b]
theorem enc0_take {l : List UInt8} {k : Nat} {c : UInt8} (h : l[k]? = some c) : (l.take (k + 1)).flatMap enc0 = (l.take k).flatMap enc0 ++ enc0 c := by
  obtain ⟨hl, rfl⟩ := List.getElem?_eq_some_iff.1 h
  rw [List.take_succ_eq_append_getElem hl, List.flatMap_append]; simp
theorem enc0_len : ∀ l : List UInt8, (l.flatMap enc0).length ≤ 2 * l.length
  | [] => by simp
  | b :: l => by
    have := enc0_len l
    have h : (enc0 b).length ≤ 2 := by unfold enc0; split <;> simp
    simp only [List.flatMap_cons, List.length_append, List.length_cons]; omega

set_option maxHeartbeats 4000000 in
set_option maxRecDepth 100000 in
theorem bytesT_any (w : World) (v : Vl) (hv : ¬ v.isN) (hv2 : v.isT) :
    Calls Tryd.prog 39 #[v.val] w fun e w' => ∃ r, e = .returned (.tuple #[r, .int .i64 0]) ∧ UOwn w' w.heap.size r (strB v.s) ∧ Ext none_ w w' := by
  have ht := thing_any (w.alloc (.cells #[.int .i64 v.k, .int .i64 v.n, .string v.s] 49)) v
  rw [show v.thing = .iface 9 (.string v.s) by unfold Vl.thing; rw [if_neg hv, if_pos hv2]] at ht
  obtain ⟨hx1, c0, c1, c2⟩ := vbox w v.k v.n v.s
  have hs := hv2.2.2
  unfold Vl.val at ht ⊢
  clear hv hv2
  generalize v.k = k at *
  generalize v.n = n at *
  generalize v.s = s at *
  have Hsg := Lib.hid fun (k : Nat) (h : k < s.size) => get_list (s := s) h
  have Hsl : Hid (s.data.toList.length = s.size) := Lib.hid Array.length_toList
  have HB : Hid (strB s = 2 :: (s.data.toList.flatMap enc0 ++ [0, 0])) := Lib.hid rfl
  generalize s.data.toList = l at *
  go_enter Tryd.func39, Tryd.ntmps39
  go_wp2_with fail
  refine ht.mono ?_
  rintro e w2 ⟨rfl, hx2⟩
  have hx2' := hx1.grow hx2
  clear ht hx1 hx2 c0 c1 c2
  have t93 := ta93
  have t99 := ta99
  go_wp2_with fail
  have hu0 := UOwn.lit w2 [2] (by simp)
  have hx3 := Ext.alloc w2 (.cells (Lib.byteCells [2]).toArray 5)
  clear t93 t99
  go_loopw [11, 46] (fun q i wr => ∃ j : Nat, j ≤ s.size ∧ i = .int .i64 j ∧ UOwn wr w2.heap.size q (2 :: (l.take j).flatMap enc0) ∧ Ext none_ w2 wr) (fun _ i _ => s.size - (RowKit.intOf i).toNat)
  case atStart => exact ⟨0, by omega, rfl, hu0, hx3⟩
  case round =>
    obtain ⟨j, hj, rfl, hown, hx⟩ := hrel
    have hlen5 : (2 :: (l.take j).flatMap enc0).length ≤ 500 := by
      have := enc0_len (l.take j)
      have h2 := List.length_take_le j l
      rw [List.length_cons]; omega
    have hlen := Nat.le_trans hlen5 (show 500 ≤ 1000000 by omega)
    by_cases hlt : j < s.size
    · have Htk := Lib.hid (enc0_take (Hsg.out j hlt))
      obtain ⟨c, hc⟩ : ∃ c : UInt8, s[j]'hlt = c := ⟨_, rfl⟩
      rw [hc] at Htk
      have hb5 : w2.heap.size ≤ (wr.alloc (.cells #[.int .u8 c.toNat] 5)).heap.size := by have := hx.size; simp; omega
      go_wp2_with (refine app_byte rfl _ _ rfl w2.heap.size _ _ c (hown.ext0 (Ext.alloc _ _)) rfl wr.heap.size rfl (cells1 (blk_new _ _)) hlen hb5 ?_)
      intro v6 w6 hown6 hx6
      have hx6' := (hx.grow (Ext.alloc wr (.cells #[.int .u8 c.toNat] 5))).trans hx6 fun i hi hb => by have := (hown.lt i hb).1; omega
      clear hx6 hb5 hown hx
      by_cases h0 : c = 0
      · have hb0 : ((c.toNat : Int) == 0) = true := by rw [h0]; rfl
        have He : Hid (enc0 c = [c] ++ [255]) := Lib.hid (by unfold enc0; rw [if_pos h0, h0]; rfl)
        clear h0
        have hb6 : w2.heap.size ≤ (w6.alloc (.cells #[.int .u8 ((255 : UInt8).toNat : Int)] 5)).heap.size := by have := hx6'.size; simp; omega
        go_wp2_with (refine app_byte rfl _ _ rfl w2.heap.size _ _ 255 (hown6.ext0 (Ext.alloc _ _)) rfl w6.heap.size rfl (cells1 (blk_new _ _)) (by simp only [List.length_append, List.length_cons, List.length_nil] at hlen5 ⊢; omega) hb6 ?_)
        intro v8 w8 hown8 hx8
        have hx8' := (hx6'.grow (Ext.alloc w6 (.cells #[.int .u8 ((255 : UInt8).toNat : Int)] 5))).trans hx8 fun i hi hb => by have := (hown6.lt i hb).1; omega
        have hown9 : UOwn w8 w2.heap.size v8 (2 :: (l.take (j + 1)).flatMap enc0) := by
          rw [Htk.out, He.out]; simpa using hown8
        clear hx8 hb6 hown8 hown6
        go_wp2
        exact ⟨⟨j + 1, by omega, by simp, hown9, hx8'⟩, by simp [RowKit.intOf]; omega⟩
      · have hb0 : ((c.toNat : Int) == 0) = false := by
          rw [show (0 : Int) = ((0 : Nat) : Int) from rfl, u8_eq (by omega)]; exact decide_eq_false h0
        have He : Hid (enc0 c = [c]) := Lib.hid (by unfold enc0; rw [if_neg h0])
        have hown9 : UOwn w6 w2.heap.size v6 (2 :: (l.take (j + 1)).flatMap enc0) := by
          rw [Htk.out, He.out]; exact hown6
        clear h0 hown6
        go_wp2
        exact ⟨⟨j + 1, by omega, by simp, hown9, hx6'⟩, by simp [RowKit.intOf]; omega⟩
    · have hjn : j = s.size := by omega
      have Hl : Hid (l.take j = l) := Lib.hid (by rw [hjn, ← Hsl.out, List.take_length])
      clear hjn
      have hb5 : w2.heap.size ≤ (wr.alloc (.cells #[.int .u8 ((0 : UInt8).toNat : Int), .int .u8 ((0 : UInt8).toNat : Int)] 5)).heap.size := by have := hx.size; simp; omega
      have hcc : ∀ i, i < 2 → (wr.alloc (.cells #[.int .u8 ((0 : UInt8).toNat : Int), .int .u8 ((0 : UInt8).toNat : Int)] 5)).cell? ⟨wr.heap.size, i, none⟩ = some (.int .u8 ((0 : UInt8).toNat : Int)) := fun i hi => by
        rw [cell_of (blk_new _ _)]
        match i, hi with
        | 0, _ => rfl
        | 1, _ => rfl
      go_wp2_with (refine app_byte2 rfl _ _ rfl w2.heap.size _ _ 0 0 (hown.ext0 (Ext.alloc _ _)) rfl wr.heap.size rfl (hcc 0 (by omega)) (hcc 1 (by omega)) hlen hb5 ?_)
      intro v6 w6 hown6 hx6
      have hx6' := (hx.grow (Ext.alloc wr (.cells #[.int .u8 ((0 : UInt8).toNat : Int), .int .u8 ((0 : UInt8).toNat : Int)] 5))).trans hx6 fun i hi hb => by have := (hown.lt i hb).1; omega
      rw [Hl.out, ← HB.out] at hown6
      clear hx6 hb5 hown hx hcc
      go_wp2
      go_ret2
      exact ⟨_, rfl, hown6.base hx2'.size, hx2'.grow hx6'⟩

set_option maxHeartbeats 2000000 in
theorem bytes0_any (w : World) (v : Vl) (hv : v.right = false) :
    Calls Tryd.prog 39 #[v.val] w fun e w' => e = .returned (.tuple #[.slice none 0 0, .int .i64 22]) ∧ Ext none_ w w' := by
  have ht := thing_any (w.alloc (.cells #[.int .i64 v.k, .int .i64 v.n, .string v.s] 49)) v
  rw [show v.thing = .nilIface by rcases v.cases with ⟨_, _, h⟩ | ⟨_, _, _, h⟩ | ⟨_, _, h, _⟩ <;> first | exact h | (rw [h] at hv; cases hv)] at ht
  obtain ⟨hx1, c0, c1, c2⟩ := vbox w v.k v.n v.s
  unfold Vl.val at ht ⊢
  clear hv
  generalize v.k = k at *
  generalize v.n = n at *
  generalize v.s = s at *
  go_enter Tryd.func39, Tryd.ntmps39
  go_wp2_with fail
  refine ht.mono ?_
  rintro e w2 ⟨rfl, hx2⟩
  have hx2' := hx1.grow hx2
  clear ht hx1 hx2 c0 c1 c2
  have t03 := ta03
  have t09 := ta09
  go_wp2
  go_ret2
  exact ⟨rfl, hx2'⟩

/-- a right value's bytes -/
noncomputable def Vl.bytes (v : Vl) : List UInt8 := if v.isN then numB v.n else strB v.s
theorem bytesR_any (w : World) (v : Vl) (hn : -9223372036854775808 ≤ v.n ∧ v.n ≤ 9223372036854775807) (hv : v.right = true) :
    Calls Tryd.prog 39 #[v.val] w fun e w' => ∃ r, e = .returned (.tuple #[r, .int .i64 0]) ∧ UOwn w' w.heap.size r v.bytes ∧ Ext none_ w w' := by
  unfold Vl.bytes
  rcases v.cases with ⟨h1, _, _⟩ | ⟨h1, h2, _, _⟩ | ⟨_, _, _, h⟩
  · rw [if_pos h1]; exact bytesN_any w v hn h1
  · rw [if_neg h1]; exact bytesT_any w v h1 h2
  · rw [h] at hv; cases hv

end Go.Proofs.YtocjidlbjmghdaaDoor
