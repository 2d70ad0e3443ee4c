/- The walk of the reference's Bytes. -/
import Derived.Test.YtocjidlbjmghdaaDoorVBytes
import Derived.Laws.AppendOwnNone
namespace Go.Proofs.YtocjidlbjmghdaaDoor
open Go.RowKit Go.Cw

/-- a row of bytes laid behind an owned one -/
theorem app_bytes {ops : Array Oper} {rest : List Oper} {o : Oper} {a : Act} {Q : Exit → Act → World → Prop} {w : World} (hgd : o.guard = none) (s y : Operand) (ho : o.op = .call { callee := .builtin .append, args := #[s, y], argTypes := #[51, 51] })
    (base : Nat) (v : Value) (bs ys : List UInt8) (hown : UOwn w base v bs) (hs : a.eval s = v) (p : Option Addr) (b off c : Nat) (hy : a.eval y = .slice p ys.length c) (hc0 : ys.length ≤ c) (hU : UR w p ys b off) (hp : p = none → c = 0)
    (hn : bs.length + ys.length ≤ 1000000) (hb : base ≤ w.heap.size)
    (h : ∀ v' w', UOwn w' base v' (bs ++ ys) → Ext (fun b => v.ownBlock = some b) w w' → wpList Tryd.prog ops Q rest (a.put o.dst v') w') :
    wpList Tryd.prog ops Q (o :: rest) a w := by
  obtain ⟨i0, hi, hz0, hz1, hz2⟩ := info_parts info5
  cases p with
  | none =>
    have h0 := hp rfl
    have hl : ys.length = 0 := by omega
    rw [hl, h0] at hy
    refine wpList_append_own_none hgd s y 51 ho base 5 i0 1 Tryd.underlying51 hi v _ _ hs hown hy ?_
    refine h v w ?_ (Ext.refl _ _)
    rw [List.length_eq_zero_iff.1 hl, List.append_nil]
    exact hown
  | some ad =>
    refine wpList_append_own w hgd s y 51 ho base 5 i0 _ 1 1 Tryd.underlying51 hi hz0 hz1 hz2 rfl (by decide) v _ _ hs hown ad ys.length c (Lib.byteCells ys) hy (by rw [Lib.byteCells_length, Nat.mul_one]) ?_ ?_ ?_ ?_ hb ?_
    · intro j u hj
      have hjl : j < ys.length := by
        have := (List.getElem?_eq_some_iff.1 hj).1
        rwa [Lib.byteCells_length] at this
      have ha := hU.addr (by omega)
      simp only [Option.some.injEq] at ha
      subst ha
      have hcell := hU.cell j ys[j] (List.getElem?_eq_getElem hjl)
      have hu : u = .int .u8 (ys[j]).toNat := by
        have h2 : (Lib.byteCells ys)[j]? = some (.int .u8 (ys[j]).toNat) := by simp [Lib.byteCells, hjl]
        rw [hj] at h2
        exact Option.some.inj h2
      rw [hu, show (⟨b, off, none⟩ : Addr).add j = ⟨b, off + j, none⟩ by unfold Addr.add; split <;> simp_all]
      exact hcell
    · intro u hu
      simp only [Lib.byteCells, List.mem_map] at hu
      obtain ⟨_, _, rfl⟩ := hu
      rfl
    · unfold maxLen; omega
    · omega
    · intro v' w' h1 h2 _
      refine h v' w' ?_ ?_
      · unfold UOwn
        rw [List.length_append, Lib.byteCells_append]
        exact h1
      · exact (Ext.grown h2).mono fun _ _ h => h.symm
theorem UOwn.read0 {w : World} {base : Nat} {v : Value} {bs : List UInt8} (h : UOwn w base v bs) : ∃ a c b, v = .slice a bs.length c ∧ UR w a bs b 0 ∧ bs.length ≤ c ∧ (a = none → c = 0) := by
  obtain ⟨a, c, b, rfl, hU, _⟩ := h.read
  refine ⟨a, c, b, rfl, hU, ?_, ?_⟩
  · rcases h.2 with ⟨e, h0⟩ | ⟨g, cap, cur, e, _, _, hc1, _⟩
    · omega
    · cases e; omega
  · intro ha
    rcases h.2 with ⟨e, h0⟩ | ⟨g, cap, cur, e, _, _, hc1, _⟩
    · simp at e; exact e.2.2
    · simp at e
      rw [ha] at e
      exact absurd e.1 (by simp)
theorem UOwn.lit1 (w : World) (x : UInt8) : UOwn (w.alloc (.cells #[.int .u8 x.toNat] 5)) w.heap.size (.slice (some ⟨w.heap.size, 0, none⟩) 1 1) [x] := UOwn.lit w [x] (by simp)

theorem bytes_drop (U : Nat) {j : Nat} (hj : j < 8) : ((List.range 8).map (byteN U)).drop (8 - (j + 1)) = byteN U (7 - j) :: ((List.range 8).map (byteN U)).drop (8 - j) := by
  have hl : 8 - (j + 1) < ((List.range 8).map (byteN U)).length := by rw [List.length_map, List.length_range]; omega
  rw [List.drop_eq_getElem_cons hl, List.getElem_map, List.getElem_range, show 8 - (j + 1) + 1 = 8 - j by omega, show 8 - (j + 1) = 7 - j by omega]

set_option maxHeartbeats 4000000 in
set_option maxRecDepth 100000 in
theorem rbytesN_any (w : World) (v : Vl) (hn : -9223372036854775808 ≤ v.n ∧ v.n ≤ 9223372036854775807) (hv : v.isN) :
    Calls Tryd.prog 52 #[v.val] w fun e w' => ∃ r, e = .returned r ∧ UOwn w' w.heap.size r (numB v.n) ∧ Ext none_ w w' := by
  obtain ⟨hx1, c0, c1, c2⟩ := vbox w v.k v.n v.s
  have hk1 : (v.k == 1) = true := beq_iff_eq.2 hv.1
  unfold Vl.val
  clear hv
  generalize v.k = k at *
  generalize v.n = n at *
  generalize v.s = s at *
  have hwn : IntKind.u64.wrap (IntKind.u64.wrap n + 9223372036854775808) = (usign n : Int) := by
    rw [wrapu64, wrapu64]; unfold usign; omega
  have hU : usign n < 2 ^ 64 := by unfold usign; omega
  have HB : Hid (numB n = 1 :: ((List.range 8).map (byteN (usign n)))) := Lib.hid rfl
  go_enter Tryd.func52, Tryd.ntmps52
  go_wp2_with fail
  generalize usign n = U at *
  have hsz : (w.alloc (.cells #[.int .i64 k, .int .i64 n, .string s] 49)).heap.size = w.heap.size + 1 := by simp
  generalize w.alloc (.cells #[.int .i64 k, .int .i64 n, .string s] 49) = w1 at *
  have Hsz := Lib.hid hsz
  clear hsz
  go_loopw [3, 4, 5] (fun u q i wr => ∃ j : Nat, j ≤ 8 ∧ i = .int .i64 j ∧ u = .int .u64 ((U / 256 ^ j : Nat) : Int) ∧ UOwn wr w1.heap.size q (((List.range 8).map (byteN U)).drop (8 - j)) ∧ Ext none_ w1 wr) (fun _ _ i _ => 8 - (RowKit.intOf i).toNat)
  case atStart => exact ⟨0, by omega, rfl, by simp, UOwn.nil _ _, Ext.refl _ _⟩
  case round =>
    obtain ⟨j, hj, rfl, rfl, hown, hx⟩ := hrel
    by_cases hlt : j < 8
    · have hd : decide ((j : Int) < 8) = true := decide_eq_true (by omega)
      have Hd := Lib.hid (bytes_drop U hlt)
      have hll : (((List.range 8).map (byteN U)).drop (8 - j)).length ≤ 8 := by rw [List.length_drop, List.length_map, List.length_range]; omega
      have hx8 : ((U / 256 ^ j % 256 : Nat) : Int) = ((byteN U (7 - j)).toNat : Int) := by
        unfold byteN
        rw [u8nat (Nat.mod_lt _ (by omega)), show 7 - (7 - j) = j by omega]
      have Hq : Hid (U / 256 ^ (j + 1) = U / 256 ^ j / 256) := Lib.hid (by rw [Nat.pow_succ, Nat.div_div_eq_div_mul])
      have hUj : U / 256 ^ j < 2 ^ 64 := Nat.lt_of_le_of_lt (Nat.div_le_self _ _) hU
      generalize ((List.range 8).map (byteN U)).drop (8 - j) = l at *
      obtain ⟨u, hu⟩ : ∃ u, u = U / 256 ^ j := ⟨_, rfl⟩
      rw [← hu] at hx8 hUj ⊢
      have Hu := Lib.hid hu
      clear hu
      obtain ⟨p, c, b, rfl, hUR, hlc, hp0⟩ := hown.read0
      generalize byteN U (7 - j) = x at *
      have hlit := (UOwn.lit1 wr x).base hx.size
      rw [← hx8, Int.natCast_emod] at hlit
      have hx9 := Ext.alloc wr (.cells #[.int .u8 ((u : Int) % ((256 : Nat) : Int))] 5)
      have hU2 := hUR.ext0 hx9
      have hb5 : w1.heap.size ≤ (wr.alloc (.cells #[.int .u8 ((u : Int) % 256)] 5)).heap.size := by have := hx.size; simp; omega
      rw [show ((256 : Nat) : Int) = 256 from rfl] at hlit hx9 hU2
      go_wp2_with (refine app_bytes rfl _ _ rfl w1.heap.size _ [x] l hlit rfl p b 0 c rfl hlc hU2 hp0 (by rw [List.length_singleton]; omega) hb5 ?_)
      intro v6 w6 hown6 hx6
      have hx6' := (hx.grow hx9).trans hx6 fun i hi hb => by have := (hlit.lt i hb).1; omega
      clear hx6 hb5 hown hx hlit hU2 hx9 hUR
      go_wp2
      refine ⟨⟨j + 1, by omega, by simp, ?_, by rw [Hd.out]; exact hown6, hx6'⟩, by simp [RowKit.intOf]; omega⟩
      rw [Hq.out, ← Hu.out]
      rfl
    · have hd : decide ((j : Int) < 8) = false := decide_eq_false (by omega)
      have hj8 : j = 8 := by omega
      rw [hj8] at hown
      clear hj8
      have hll : (((List.range 8).map (byteN U)).drop (8 - 8)).length ≤ 8 := by rw [List.length_drop, List.length_map, List.length_range]; omega
      rw [show ((List.range 8).map (byteN U)).drop (8 - 8) = (List.range 8).map (byteN U) from rfl] at hown hll
      generalize (List.range 8).map (byteN U) = l at *
      obtain ⟨p, c, b, rfl, hUR, hlc, hp0⟩ := hown.read0
      have hlit := (UOwn.lit1 wr 1).base hx.size
      rw [show (((1 : UInt8).toNat : Nat) : Int) = 1 from rfl] at hlit
      have hx9 := Ext.alloc wr (.cells #[.int .u8 1] 5)
      have hU2 := hUR.ext0 hx9
      have hb5 : w1.heap.size ≤ (wr.alloc (.cells #[.int .u8 1] 5)).heap.size := by have := hx.size; simp; omega
      go_wp2_with (refine app_bytes rfl _ _ rfl w1.heap.size _ [1] l hlit rfl p b 0 c rfl hlc hU2 hp0 (by rw [List.length_singleton]; omega) hb5 ?_)
      intro v6 w6 hown6 hx6
      have hx6' := (hx.grow hx9).trans hx6 fun i hi hb => by have := (hlit.lt i hb).1; omega
      clear hx6 hb5 hown hx hlit hU2 hx9 hUR
      rw [← HB.out] at hown6
      go_wp2
      go_ret
      exact ⟨_, rfl, hown6.base (by have := Hsz.out; omega), hx1.grow hx6'⟩

set_option maxHeartbeats 4000000 in
set_option maxRecDepth 100000 in
theorem rbytesT_any (w : World) (v : Vl) (hv2 : v.isT) :
    Calls Tryd.prog 52 #[v.val] w fun e w' => ∃ r, e = .returned r ∧ UOwn w' w.heap.size r (strB v.s) ∧ Ext none_ w w' := by
  have hx1 := Ext.alloc w (.cells #[.int .i64 v.k, .int .i64 v.n, .string v.s] 49)
  have hb1 := blk_new w (.cells #[.int .i64 v.k, .int .i64 v.n, .string v.s] 49)
  have hk1 : (v.k == 1) = false := beq_eq_false_iff_ne.2 (by have := hv2.1; omega)
  have hs := hv2.2.2
  unfold Vl.val
  clear hv2
  generalize v.k = k at *
  generalize v.n = n at *
  generalize v.s = s at *
  have Hsg := Lib.hid fun (k : Nat) (h : k < s.size) => get_list (s := s) h
  have Hsl : Hid (s.data.toList.length = s.size) := Lib.hid Array.length_toList
  have HB : Hid (strB s = 2 :: (s.data.toList.flatMap enc0 ++ [0, 0])) := Lib.hid rfl
  generalize s.data.toList = l at *
  have hsz : (w.alloc (.cells #[.int .i64 k, .int .i64 n, .string s] 49)).heap.size = w.heap.size + 1 := by simp
  have Hsz := Lib.hid hsz
  clear hsz
  obtain ⟨c0, c1, c2⟩ := cells3 hb1
  go_enter Tryd.func52, Tryd.ntmps52
  go_wp2_with fail
  generalize w.alloc (.cells #[.int .i64 k, .int .i64 n, .string s] 49) = w2 at *
  have hu0 := UOwn.lit w2 [2] (by simp)
  have hx3 := Ext.alloc w2 (.cells (Lib.byteCells [2]).toArray 5)
  clear c0 c1 c2
  go_loopw [6, 7] (fun q i wr => ∃ j : Nat, j ≤ s.size ∧ i = .int .i64 j ∧ UOwn wr w2.heap.size q (2 :: (l.take j).flatMap enc0) ∧ Ext none_ w2 wr) (fun _ i _ => s.size - (RowKit.intOf i).toNat)
  case atStart => exact ⟨0, by omega, rfl, by rw [← Hsz.out]; exact hu0, hx3⟩
  case round =>
    obtain ⟨j, hj, rfl, hown, hx⟩ := hrel
    have hlen5 : (2 :: (l.take j).flatMap enc0).length ≤ 500 := by
      have := enc0_len (l.take j)
      have h2 := List.length_take_le j l
      rw [List.length_cons]; omega
    have hlen := Nat.le_trans hlen5 (show 500 ≤ 1000000 by omega)
    obtain ⟨c0, c1, c2⟩ := cells3 (hx.blk0 hb1)
    by_cases hlt : j < s.size
    · have hd : decide ((j : Int) < (s.size : Int)) = true := decide_eq_true (by omega)
      have Htk := Lib.hid (enc0_take (Hsg.out j hlt))
      obtain ⟨c, hc⟩ : ∃ c : UInt8, s[j]'hlt = c := ⟨_, rfl⟩
      rw [hc] at Htk
      by_cases h0 : c = 0
      · have hb0 : ((c.toNat : Int) == 0) = true := by rw [h0]; rfl
        have He : Hid (enc0 c = [0] ++ [255]) := Lib.hid (by unfold enc0; rw [if_pos h0]; rfl)
        clear h0
        have hxa := Ext.alloc wr (.cells #[.int .u8 0, .int .u8 255] 5)
        have hb5 : w2.heap.size ≤ (wr.alloc (.cells #[.int .u8 0, .int .u8 255] 5)).heap.size := by have := hx.size; simp; omega
        have hc1 : (wr.alloc (.cells #[.int .u8 0, .int .u8 255] 5)).cell? ⟨wr.heap.size, 0, none⟩ = some (.int .u8 ((0 : UInt8).toNat : Int)) := by rw [cell_of (blk_new _ _)]; rfl
        have hc2 : (wr.alloc (.cells #[.int .u8 0, .int .u8 255] 5)).cell? ⟨wr.heap.size, 1, none⟩ = some (.int .u8 ((255 : UInt8).toNat : Int)) := by rw [cell_of (blk_new _ _)]; rfl
        go_wp2_with (refine app_byte2 rfl _ _ rfl w2.heap.size _ _ 0 255 (hown.ext0 hxa) rfl wr.heap.size rfl hc1 hc2 hlen hb5 ?_)
        intro v8 w8 hown8 hx8
        have hx8' := (hx.grow hxa).trans hx8 fun i hi hb => by have := (hown.lt i hb).1; omega
        have hown9 : UOwn w8 w2.heap.size v8 (2 :: (l.take (j + 1)).flatMap enc0) := by
          rw [Htk.out, He.out]; simpa using hown8
        clear hx8 hb5 hown8 hown hx hxa hc1 hc2
        go_wp2
        exact ⟨⟨j + 1, by omega, by simp, hown9, hx8'⟩, by simp [RowKit.intOf]; omega⟩
      · have hb0 : ((c.toNat : Int) == 0) = false := by
          rw [show (0 : Int) = ((0 : Nat) : Int) from rfl, u8_eq (by omega)]; exact decide_eq_false h0
        have He : Hid (enc0 c = [c]) := Lib.hid (by unfold enc0; rw [if_neg h0])
        clear h0
        have hxa := Ext.alloc wr (.cells #[.int .u8 c.toNat] 5)
        have hb5 : w2.heap.size ≤ (wr.alloc (.cells #[.int .u8 c.toNat] 5)).heap.size := by have := hx.size; simp; omega
        go_wp2_with (refine app_byte rfl _ _ rfl w2.heap.size _ _ c (hown.ext0 (Ext.alloc _ _)) rfl wr.heap.size rfl (cells1 (blk_new _ _)) hlen hb5 ?_)
        intro v6 w6 hown6 hx6
        have hx6' := (hx.grow hxa).trans hx6 fun i hi hb => by have := (hown.lt i hb).1; omega
        have hown9 : UOwn w6 w2.heap.size v6 (2 :: (l.take (j + 1)).flatMap enc0) := by
          rw [Htk.out, He.out]; exact hown6
        clear hx6 hb5 hown6 hown hx hxa
        go_wp2
        exact ⟨⟨j + 1, by omega, by simp, hown9, hx6'⟩, by simp [RowKit.intOf]; omega⟩
    · have hd : decide ((j : Int) < (s.size : Int)) = false := decide_eq_false (by omega)
      have hjn : j = s.size := by omega
      have Hl : Hid (l.take j = l) := Lib.hid (by rw [hjn, ← Hsl.out, List.take_length])
      clear hjn
      have hxa := Ext.alloc wr (.cells #[.int .u8 0, .int .u8 0] 5)
      have hb5 : w2.heap.size ≤ (wr.alloc (.cells #[.int .u8 0, .int .u8 0] 5)).heap.size := by have := hx.size; simp; omega
      have hc1 : (wr.alloc (.cells #[.int .u8 0, .int .u8 0] 5)).cell? ⟨wr.heap.size, 0, none⟩ = some (.int .u8 ((0 : UInt8).toNat : Int)) := by rw [cell_of (blk_new _ _)]; rfl
      have hc2 : (wr.alloc (.cells #[.int .u8 0, .int .u8 0] 5)).cell? ⟨wr.heap.size, 1, none⟩ = some (.int .u8 ((0 : UInt8).toNat : Int)) := by rw [cell_of (blk_new _ _)]; rfl
      go_wp2_with (refine app_byte2 rfl _ _ rfl w2.heap.size _ _ 0 0 (hown.ext0 hxa) rfl wr.heap.size rfl hc1 hc2 hlen hb5 ?_)
      intro v6 w6 hown6 hx6
      have hx6' := (hx.grow hxa).trans hx6 fun i hi hb => by have := (hown.lt i hb).1; omega
      have hown9 : UOwn w6 w2.heap.size v6 (strB s) := by
        rw [HB.out]
        have h2 := hown6
        rw [Hl.out] at h2
        exact h2
      clear hx6 hb5 hown6 hown hx hxa hc1 hc2
      go_wp2
      go_ret
      exact ⟨_, rfl, hown9.base (by have := Hsz.out; omega), hx1.grow hx6'⟩

theorem rbytes_any (w : World) (v : Vl) (hn : -9223372036854775808 ≤ v.n ∧ v.n ≤ 9223372036854775807) (hv : v.right = true) :
    Calls Tryd.prog 52 #[v.val] w fun e w' => ∃ r, e = .returned r ∧ UOwn w' w.heap.size r v.bytes ∧ Ext none_ w w' := by
  unfold Vl.bytes
  rcases v.cases with ⟨h1, _, _⟩ | ⟨h1, h2, _, _⟩ | ⟨_, _, _, h⟩
  · rw [if_pos h1]; exact rbytesN_any w v hn h1
  · rw [if_neg h1]; exact rbytesT_any w v h2
  · rw [h] at hv; cases hv

end Go.Proofs.YtocjidlbjmghdaaDoor
