/- The walk of ValueApart. -/
import Derived.Test.YtocjidlbjmghdaaDoorVEq
import Derived.Test.YtocjidlbjmghdaaDoorLawVThings
import Derived.Test.YtocjidlbjmghdaaDoorLawVCompares
import Derived.Lib.ItoaLen
namespace Go.Proofs.YtocjidlbjmghdaaDoor
open Go.RowKit Go.Cw

attribute [-go_sem] Go.run_equalIn_agg

theorem print_len (v : Vl) (hn : -9223372036854775808 ≤ v.n ∧ v.n ≤ 9223372036854775807) : v.print.length ≤ 20000 := by
  unfold Vl.print
  split
  · have := Lib.itoa_length_le v.n hn.1 hn.2
    omega
  · split
    · rename_i h
      unfold quoteP
      have h1 := qflat_len (zs (runes v.s))
      have h2 := runes_len v.s
      have h3 := h.2.2
      rw [zs_len] at h1
      rw [List.length_append, List.length_cons]
      show _ + 1 + 1 ≤ 20000
      omega
    · decide
noncomputable def backV (v : Vl) : Vl := (readP ⟨v.print.toArray⟩).getD ⟨0, 0, ⟨#[]⟩⟩
theorem readV_some (o : Option Vl) : ∃ c, readV o = .tuple #[(o.getD ⟨0, 0, ⟨#[]⟩⟩).val, .int .i64 c] := by
  cases o with
  | none => exact ⟨10, rfl⟩
  | some v => exact ⟨0, rfl⟩
theorem ta3_any (v : Vl) : ∃ n, ∀ w, (Instr.typeAssert v.thing 20 3 true).run Tryd.prog w = .ok (.tuple #[.int .i64 n, .bool (decide v.isN)]) w := by
  by_cases h : v.isN
  · refine ⟨v.n, fun w => ?_⟩
    rw [show v.thing = .iface 3 (.int .i64 v.n) by unfold Vl.thing; rw [if_pos h], ta33, decide_eq_true h]
  · refine ⟨0, fun w => ?_⟩
    by_cases h2 : v.isT
    · rw [show v.thing = .iface 9 (.string v.s) by unfold Vl.thing; rw [if_neg h, if_pos h2], ta93, decide_eq_false h]
    · rw [show v.thing = .nilIface by unfold Vl.thing; rw [if_neg h, if_neg h2], ta03, decide_eq_false h]

theorem num_apart {a b : Vl} {n m : Int} (h1 : ∀ w, (Instr.typeAssert a.thing 20 3 true).run Tryd.prog w = .ok (.tuple #[.int .i64 n, .bool (decide a.isN)]) w) (h2 : ∀ w, (Instr.typeAssert b.thing 20 3 true).run Tryd.prog w = .ok (.tuple #[.int .i64 m, .bool (decide b.isN)]) w)
    (ha : a.isN) (hb : b.isN) : (n == m) = decide (a = b) := by
  have e1 := h1 default
  have e2 := h2 default
  rw [show a.thing = .iface 3 (.int .i64 a.n) by unfold Vl.thing; rw [if_pos ha], ta33, decide_eq_true ha] at e1
  rw [show b.thing = .iface 3 (.int .i64 b.n) by unfold Vl.thing; rw [if_pos hb], ta33, decide_eq_true hb] at e2
  simp only [Result.ok.injEq, Value.tuple.injEq, Array.mk.injEq, List.cons.injEq, Value.int.injEq, true_and, and_true] at e1 e2
  rw [Bool.eq_iff_iff, beq_iff_eq, decide_eq_true_iff, ← e1, ← e2, vl_ext]
  have hs : a.s = b.s := (toList_iff _ _).1 (by
    have h1 := empty_iff a.s
    have h2 := empty_iff b.s
    rw [decide_eq_true ha.2, beq_iff_eq] at h1
    rw [decide_eq_true hb.2, beq_iff_eq] at h2
    rw [h1, h2])
  exact ⟨fun h => ⟨ha.1.trans hb.1.symm, h, hs⟩, fun h => h.2.1⟩
theorem print_apart {a b : Vl} (h1 : backV a = a) (h2 : backV b = b) : ((⟨a.print.toArray⟩ : ByteArray).toList == (⟨b.print.toArray⟩ : ByteArray).toList) = decide (a = b) := by
  rw [Bool.eq_iff_iff, beq_iff_eq, decide_eq_true_iff, toList_iff]
  constructor
  · intro h
    rw [← h1, ← h2]
    unfold backV
    rw [h]
  · rintro rfl; rfl

set_option maxHeartbeats 4000000 in
set_option maxRecDepth 100000 in
theorem vapart_long (w : World) (hT : Nums w) (a b : Vl) (h : a.right = false ∨ b.right = false) : Calls Tryd.prog 12 #[a.val, b.val] w fun e w' => e = .returned (.bool true) ∧ Ext none_ w w' := by
  have cR1 := fun w : World => vrref_any w a
  have cR2 := fun w : World => vrref_any w b
  obtain ⟨w2, hw2, hx2, ha, hb⟩ := vbox2 w a b
  have hT2 := hT.ext0 hx2
  clear hT
  generalize a.right = ra at *
  generalize b.right = rb at *
  unfold Vl.val at *
  generalize a.k = k1 at *
  generalize a.n = n1 at *
  generalize a.s = s1 at *
  generalize b.k = k2 at *
  generalize b.n = n2 at *
  generalize b.s = s2 at *
  go_enter Tryd.func12, Tryd.ntmps12
  go_wp2_with fail
  refine (vawake_any w2 hT2).mono ?_
  rintro e w3 ⟨rfl, hx3⟩
  have ha3 := hx3.blk0 ha
  have hb3 := hx3.blk0 hb
  have hT3 := hT2.ext0 hx3
  have hxx := hx2.grow hx3
  clear hx2 hx3 ha hb hT2 hw2
  obtain ⟨a0, a1, a2⟩ := cells3 ha3
  obtain ⟨b0, b1, b2⟩ := cells3 hb3
  go_wp2_with fail
  refine (cR1 _).mono ?_
  rintro e w4 ⟨rfl, hx4⟩
  have hb4 := hx4.blk0 hb3
  have hT4 := hT3.ext0 hx4
  have hx4' := hxx.grow hx4
  clear a0 a1 a2 b0 b1 b2 ha3 hb3 hx4 hxx hT3
  obtain ⟨b0, b1, b2⟩ := cells3 hb4
  cases ra
  · clear h
    go_wp2_with fail
    refine (vawake_any w4 hT4).mono ?_
    rintro e w5 ⟨rfl, hx5⟩
    go_wp2
    go_ret
    exact ⟨rfl, hx4'.grow hx5⟩
  · obtain rfl : rb = false := h.resolve_left (by simp)
    go_wp2_with fail
    refine (cR2 _).mono ?_
    rintro e w5 ⟨rfl, hx5⟩
    have hT5 := hT4.ext0 hx5
    go_wp2_with fail
    refine (vawake_any w5 hT5).mono ?_
    rintro e w6 ⟨rfl, hx6⟩
    go_wp2
    go_ret
    exact ⟨rfl, (hx4'.grow hx5).grow hx6⟩

set_option maxHeartbeats 8000000 in
set_option maxRecDepth 100000 in
theorem vapart_any (w : World) (hT : Nums w) (a b : Vl) (hra : a.right = true) (hrb : b.right = true) (hn : -9223372036854775808 ≤ a.n ∧ a.n ≤ 9223372036854775807) (hm : -9223372036854775808 ≤ b.n ∧ b.n ≤ 9223372036854775807) :
    Calls Tryd.prog 12 #[a.val, b.val] w fun e w' => e = .returned (.bool true) ∧ Ext none_ w w' := by
  have cR1 := fun w : World => vrref_any w a
  have cR2 := fun w : World => vrref_any w b
  have cB1 := fun w : World => bytesR_any w a hn hra
  have cB2 := fun w : World => bytesR_any w b hm hrb
  have cP1 := fun (w : World) (h : Nums w) => print_any w a hn h
  have cP2 := fun (w : World) (h : Nums w) => print_any w b hm h
  have cD1 := fun (w : World) (h : Nums w) => read_any w ⟨a.print.toArray⟩ (print_len a hn) h
  have cD2 := fun (w : World) (h : Nums w) => read_any w ⟨b.print.toArray⟩ (print_len b hm) h
  have cT1 := fun w : World => Thing_any w a
  have cT2 := fun w : World => Thing_any w b
  obtain ⟨c1, hc1⟩ := readV_some (readP ⟨a.print.toArray⟩)
  obtain ⟨c2, hc2⟩ := readV_some (readP ⟨b.print.toArray⟩)
  have q1 := fun w : World => eq49 w (backV a) a
  have q2 := fun w : World => eq49 w (backV b) b
  have q3 := fun w : World => eq49 w a b
  obtain ⟨i1, t1⟩ := ta3_any a
  obtain ⟨i2, t2⟩ := ta3_any b
  have Hi : Hid (decide a.isN = true → decide b.isN = true → (i1 == i2) = decide (a = b)) := Lib.hid fun h1 h2 => num_apart t1 t2 (of_decide_eq_true h1) (of_decide_eq_true h2)
  have hxy : ((⟨a.bytes.toArray⟩ : ByteArray).toList == (⟨b.bytes.toArray⟩ : ByteArray).toList) = decide (a = b) := by
    rw [Bool.eq_iff_iff, beq_iff_eq, decide_eq_true_iff, ByteArray.toList_eq, ByteArray.toList_eq]
    exact bytes_inj hra hrb hn hm
  obtain ⟨S1, hS1⟩ : ∃ S : ByteArray, S = ⟨a.bytes.toArray⟩ := ⟨_, rfl⟩
  obtain ⟨S2, hS2⟩ : ∃ S : ByteArray, S = ⟨b.bytes.toArray⟩ := ⟨_, rfl⟩
  rw [← hS1, ← hS2] at hxy
  have HS1 := Lib.hid hS1
  have HS2 := Lib.hid hS2
  clear hS1 hS2
  have Hpp : Hid (decide (backV a = a) = true → decide (backV b = b) = true → ((⟨a.print.toArray⟩ : ByteArray).toList == (⟨b.print.toArray⟩ : ByteArray).toList) = decide (a = b)) := Lib.hid fun h1 h2 => print_apart (of_decide_eq_true h1) (of_decide_eq_true h2)
  rw [hc1] at cD1
  rw [hc2] at cD2
  change ∀ (w : World), Nums w → Calls Tryd.prog 40 _ w fun e w' => e = .returned (.tuple #[(backV a).val, .int .i64 c1]) ∧ Ext none_ w w' at cD1
  change ∀ (w : World), Nums w → Calls Tryd.prog 40 _ w fun e w' => e = .returned (.tuple #[(backV b).val, .int .i64 c2]) ∧ Ext none_ w w' at cD2
  rw [hra] at cR1 cT1
  rw [hrb] at cR2 cT2
  simp only [if_true] at cT1 cT2
  obtain ⟨w2, hw2, hx2, ha, hb⟩ := vbox2 w a b
  have hT2 := hT.ext0 hx2
  clear hT hra hrb hn hm hc1 hc2
  generalize decide (a = b) = e3 at *
  generalize decide (backV a = a) = e1 at *
  generalize decide (backV b = b) = e2 at *
  generalize decide a.isN = j1 at *
  generalize decide b.isN = j2 at *
  generalize a.thing = th1 at *
  generalize b.thing = th2 at *
  generalize (⟨a.print.toArray⟩ : ByteArray) = P1 at *
  generalize (⟨b.print.toArray⟩ : ByteArray) = P2 at *
  generalize backV a = u1 at *
  generalize backV b = u2 at *
  generalize a.bytes = x1 at *
  generalize b.bytes = x2 at *
  unfold Vl.val at *
  generalize a.k = k1 at *
  generalize a.n = n1 at *
  generalize a.s = s1 at *
  generalize b.k = k2 at *
  generalize b.n = n2 at *
  generalize b.s = s2 at *
  go_enter Tryd.func12, Tryd.ntmps12
  go_wp2_with fail
  refine (vawake_any w2 hT2).mono ?_
  rintro e w3 ⟨rfl, hx3⟩
  have ha3 := hx3.blk0 ha
  have hb3 := hx3.blk0 hb
  have hT3 := hT2.ext0 hx3
  have hx3' := hx2.grow hx3
  clear hx2 hx3 ha hb hT2 hw2
  obtain ⟨a0, a1, a2⟩ := cells3 ha3
  obtain ⟨b0, b1, b2⟩ := cells3 hb3
  go_wp2_with fail
  refine (cR1 _).mono ?_
  rintro e w4 ⟨rfl, hx4⟩
  have ha4 := hx4.blk0 ha3
  have hb4 := hx4.blk0 hb3
  have hT4 := hT3.ext0 hx4
  have hx4' := hx3'.grow hx4
  clear ha3 hb3 hT3 hx3' hx4 a0 a1 a2 b0 b1 b2 cR1
  obtain ⟨a0, a1, a2⟩ := cells3 ha4
  obtain ⟨b0, b1, b2⟩ := cells3 hb4
  go_wp2_with fail
  refine (cR2 _).mono ?_
  rintro e w5 ⟨rfl, hx5⟩
  have ha5 := hx5.blk0 ha4
  have hb5 := hx5.blk0 hb4
  have hT5 := hT4.ext0 hx5
  have hx5' := hx4'.grow hx5
  clear ha4 hb4 hT4 hx4' hx5 a0 a1 a2 b0 b1 b2 cR2
  obtain ⟨a0, a1, a2⟩ := cells3 ha5
  obtain ⟨b0, b1, b2⟩ := cells3 hb5
  go_wp2_with fail
  refine (cB1 _).mono ?_
  rintro e w6 ⟨r1, rfl, hR1_6, hx6⟩
  have ha6 := hx6.blk0 ha5
  have hb6 := hx6.blk0 hb5
  have hT6 := hT5.ext0 hx6
  have hx6' := hx5'.grow hx6
  clear ha5 hb5 hT5 hx5' hx6 a0 a1 a2 b0 b1 b2 cB1
  obtain ⟨a0, a1, a2⟩ := cells3 ha6
  obtain ⟨b0, b1, b2⟩ := cells3 hb6
  go_wp2_with fail
  refine (cB2 _).mono ?_
  rintro e w7 ⟨r2, rfl, hR2_7, hx7⟩
  have hR1_7 := hR1_6.ext0 hx7
  have ha7 := hx7.blk0 ha6
  have hb7 := hx7.blk0 hb6
  have hT7 := hT6.ext0 hx7
  have hx7' := hx6'.grow hx7
  clear ha6 hb6 hT6 hx6' hx7 a0 a1 a2 b0 b1 b2 cB2 hR1_6
  obtain ⟨a0, a1, a2⟩ := cells3 ha7
  obtain ⟨b0, b1, b2⟩ := cells3 hb7
  obtain ⟨p1, z1, g1, rfl, hU1_7, _⟩ := hR1_7.read
  obtain ⟨p2, z2, g2, rfl, hU2_7, _⟩ := hR2_7.read
  clear hR1_7 hR2_7
  go_wp2_with fail
  refine (cP1 _ hT7).mono ?_
  rintro e w8 ⟨rfl, hx8⟩
  have ha8 := hx8.blk0 ha7
  have hb8 := hx8.blk0 hb7
  have hT8 := hT7.ext0 hx8
  have hx8' := hx7'.grow hx8
  have hU1_8 := hU1_7.ext0 hx8
  have hU2_8 := hU2_7.ext0 hx8
  clear ha7 hb7 hT7 hx7' hx8 a0 a1 a2 b0 b1 b2 hU1_7 hU2_7
  obtain ⟨a0, a1, a2⟩ := cells3 ha8
  obtain ⟨b0, b1, b2⟩ := cells3 hb8
  go_wp2_with fail
  refine (cD1 _ hT8).mono ?_
  rintro e w9 ⟨rfl, hx9⟩
  have ha9 := hx9.blk0 ha8
  have hb9 := hx9.blk0 hb8
  have hT9 := hT8.ext0 hx9
  have hx9' := hx8'.grow hx9
  have hU1_9 := hU1_8.ext0 hx9
  have hU2_9 := hU2_8.ext0 hx9
  clear ha8 hb8 hT8 hx8' hx9 a0 a1 a2 b0 b1 b2 hU1_8 hU2_8 cD1
  obtain ⟨a0, a1, a2⟩ := cells3 ha9
  obtain ⟨b0, b1, b2⟩ := cells3 hb9
  have hx10 := Ext.alloc w9 (.cells #[.int .i64 u1.k, .int .i64 u1.n, .string u1.s] 49)
  have hd10 := blk_new w9 (.cells #[.int .i64 u1.k, .int .i64 u1.n, .string u1.s] 49)
  have ha10 := hx10.blk0 ha9
  have hb10 := hx10.blk0 hb9
  have hT10 := hT9.ext0 hx10
  have hx10' := hx9'.grow hx10
  have hU1_10 := hU1_9.ext0 hx10
  have hU2_10 := hU2_9.ext0 hx10
  clear ha9 hb9 hT9 hx9' hx10 a0 a1 a2 b0 b1 b2 hU1_9 hU2_9
  obtain ⟨a0, a1, a2⟩ := cells3 ha10
  obtain ⟨b0, b1, b2⟩ := cells3 hb10
  go_wp2_with fail
  generalize w9.heap.size = m10 at *
  generalize w9.alloc (.cells #[.int .i64 u1.k, .int .i64 u1.n, .string u1.s] 49) = w10 at *
  refine (cP2 _ hT10).mono ?_
  rintro e w11 ⟨rfl, hx11⟩
  have ha11 := hx11.blk0 ha10
  have hb11 := hx11.blk0 hb10
  have hT11 := hT10.ext0 hx11
  have hx11' := hx10'.grow hx11
  have hU1_11 := hU1_10.ext0 hx11
  have hU2_11 := hU2_10.ext0 hx11
  have hd11 := hx11.blk0 hd10
  clear ha10 hb10 hT10 hx10' hx11 a0 a1 a2 b0 b1 b2 hU1_10 hU2_10 hd10
  obtain ⟨a0, a1, a2⟩ := cells3 ha11
  obtain ⟨b0, b1, b2⟩ := cells3 hb11
  go_wp2_with fail
  refine (cD2 _ hT11).mono ?_
  rintro e w12 ⟨rfl, hx12⟩
  have ha12 := hx12.blk0 ha11
  have hb12 := hx12.blk0 hb11
  have hT12 := hT11.ext0 hx12
  have hx12' := hx11'.grow hx12
  have hU1_12 := hU1_11.ext0 hx12
  have hU2_12 := hU2_11.ext0 hx12
  have hd12 := hx12.blk0 hd11
  clear ha11 hb11 hT11 hx11' hx12 a0 a1 a2 b0 b1 b2 hU1_11 hU2_11 hd11 cD2
  obtain ⟨a0, a1, a2⟩ := cells3 ha12
  obtain ⟨b0, b1, b2⟩ := cells3 hb12
  have hx13 := Ext.alloc w12 (.cells #[.int .i64 u2.k, .int .i64 u2.n, .string u2.s] 49)
  have hf13 := blk_new w12 (.cells #[.int .i64 u2.k, .int .i64 u2.n, .string u2.s] 49)
  have ha13 := hx13.blk0 ha12
  have hb13 := hx13.blk0 hb12
  have hT13 := hT12.ext0 hx13
  have hx13' := hx12'.grow hx13
  have hU1_13 := hU1_12.ext0 hx13
  have hU2_13 := hU2_12.ext0 hx13
  have hd13 := hx13.blk0 hd12
  clear ha12 hb12 hT12 hx12' hx13 a0 a1 a2 b0 b1 b2 hU1_12 hU2_12 hd12 
  obtain ⟨a0, a1, a2⟩ := cells3 ha13
  obtain ⟨b0, b1, b2⟩ := cells3 hb13
  go_wp2_with fail
  generalize w12.heap.size = m13 at *
  generalize w12.alloc (.cells #[.int .i64 u2.k, .int .i64 u2.n, .string u2.s] 49) = w13 at *
  refine (cT1 _).mono ?_
  rintro e w14 ⟨rfl, hx14⟩
  have ha14 := hx14.blk0 ha13
  have hb14 := hx14.blk0 hb13
  have hT14 := hT13.ext0 hx14
  have hx14' := hx13'.grow hx14
  have hU1_14 := hU1_13.ext0 hx14
  have hU2_14 := hU2_13.ext0 hx14
  have hd14 := hx14.blk0 hd13
  have hf14 := hx14.blk0 hf13
  clear ha13 hb13 hT13 hx13' hx14 a0 a1 a2 b0 b1 b2 hU1_13 hU2_13 hd13 hf13 cT1
  obtain ⟨a0, a1, a2⟩ := cells3 ha14
  obtain ⟨b0, b1, b2⟩ := cells3 hb14
  go_wp2_with fail
  refine (cT2 _).mono ?_
  rintro e w15 ⟨rfl, hx15⟩
  have ha15 := hx15.blk0 ha14
  have hb15 := hx15.blk0 hb14
  have hT15 := hT14.ext0 hx15
  have hx15' := hx14'.grow hx15
  have hU1_15 := hU1_14.ext0 hx15
  have hU2_15 := hU2_14.ext0 hx15
  have hd15 := hx15.blk0 hd14
  have hf15 := hx15.blk0 hf14
  clear ha14 hb14 hT14 hx14' hx15 a0 a1 a2 b0 b1 b2 hU1_14 hU2_14 hd14 hf14 cT2
  obtain ⟨a0, a1, a2⟩ := cells3 ha15
  obtain ⟨b0, b1, b2⟩ := cells3 hb15
  obtain ⟨d0, d1, d2⟩ := cells3 hd15
  obtain ⟨f0, f1, f2⟩ := cells3 hf15
  cases j1
  · go_wp2_with fail
    cases e1
    · have hF := Ext.drew w15
      have A0 := fun i : Fam (fun w' => Ext none_ w15 w') => cell_ext0 i.h a0
      have A1 := fun i : Fam (fun w' => Ext none_ w15 w') => cell_ext0 i.h a1
      have A2 := fun i : Fam (fun w' => Ext none_ w15 w') => cell_ext0 i.h a2
      have B0 := fun i : Fam (fun w' => Ext none_ w15 w') => cell_ext0 i.h b0
      have B1 := fun i : Fam (fun w' => Ext none_ w15 w') => cell_ext0 i.h b1
      have B2 := fun i : Fam (fun w' => Ext none_ w15 w') => cell_ext0 i.h b2
      have D0 := fun i : Fam (fun w' => Ext none_ w15 w') => cell_ext0 i.h d0
      have D1 := fun i : Fam (fun w' => Ext none_ w15 w') => cell_ext0 i.h d1
      have D2 := fun i : Fam (fun w' => Ext none_ w15 w') => cell_ext0 i.h d2
      have E0 := fun i : Fam (fun w' => Ext none_ w15 w') => cell_ext0 i.h f0
      have E1 := fun i : Fam (fun w' => Ext none_ w15 w') => cell_ext0 i.h f1
      have E2 := fun i : Fam (fun w' => Ext none_ w15 w') => cell_ext0 i.h f2
      have V1 : ∀ i : Fam (fun w' => Ext none_ w15 w'), (convert 51 9 (.slice p1 x1.length z1)).run Tryd.prog i.w = .ok (.string S1) i.w := fun i => by rw [HS1.out]; exact conv_bytes i.w p1 x1 g1 0 z1 (hU1_15.ext0 i.h)
      have V2 : ∀ i : Fam (fun w' => Ext none_ w15 w'), (convert 51 9 (.slice p2 x2.length z2)).run Tryd.prog i.w = .ok (.string S2) i.w := fun i => by rw [HS2.out]; exact conv_bytes i.w p2 x2 g2 0 z2 (hU2_15.ext0 i.h)
      clear a0 a1 a2 b0 b1 b2 d0 d1 d2 f0 f1 f2
      refine wp_region_hoistT (fun w' => Ext none_ w15 w') 31 [0, 1, 2, 3, 4, 5, 6, 7, 8, 9, 10, 11, 12, 13, 14, 15, 16, 17, 18, 19, 21, 24, 25, 26] 7 mixedV (by kernel_rfl) hF ?_
      simp only [List.filterMap_cons, List.filterMap_nil, List.getElem?_cons_zero, List.getElem?_cons_succ]
      have hnn := Fam.ne hF
      generalize w15.drew = w16 at *
      repeat (refine wpV_step (fun K hK => ?_); go_simp; refine hK _ ?_; clear hK K)
      refine wpV_nil ?_
      clear A0 A1 A2 B0 B1 B2 D0 D1 D2 E0 E1 E2 V1 V2
      refine wpAnyC_step [20] (by kernel_rfl) (by simp) ?_
      intro j hj
      simp only [List.mem_cons, List.not_mem_nil, or_false] at hj
      subst hj
      refine ⟨_, rfl, ?_⟩
      go_wp2_with fail
      try refine ⟨.inr hF, ?_⟩
      refine wpAnyC_step [22] (by kernel_rfl) (by simp) ?_
      intro j hj
      simp only [List.mem_cons, List.not_mem_nil, or_false] at hj
      subst hj
      refine ⟨_, rfl, ?_⟩
      go_wp2_with fail
      try refine ⟨.inr hF, ?_⟩
      refine wpAnyC_again [23, 27, 28, 29, 30] 0 (by kernel_rfl) hF ?_
      simp only [List.filterMap_cons, List.filterMap_nil, List.getElem?_toArray, List.getElem?_cons_zero, List.getElem?_cons_succ]
      repeat (refine wpV_step (fun K hK => ?_); go_simp; refine hK _ ?_; clear hK K)
      refine wpV_nil ?_
      refine wpAnyC_end (by kernel_rfl) ?_
      go_wp2_with fail
      go_ret
      exact ⟨rfl, hx15'.grow hF⟩
    · cases e2
      · have hF := Ext.drew w15
        have A0 := fun i : Fam (fun w' => Ext none_ w15 w') => cell_ext0 i.h a0
        have A1 := fun i : Fam (fun w' => Ext none_ w15 w') => cell_ext0 i.h a1
        have A2 := fun i : Fam (fun w' => Ext none_ w15 w') => cell_ext0 i.h a2
        have B0 := fun i : Fam (fun w' => Ext none_ w15 w') => cell_ext0 i.h b0
        have B1 := fun i : Fam (fun w' => Ext none_ w15 w') => cell_ext0 i.h b1
        have B2 := fun i : Fam (fun w' => Ext none_ w15 w') => cell_ext0 i.h b2
        have D0 := fun i : Fam (fun w' => Ext none_ w15 w') => cell_ext0 i.h d0
        have D1 := fun i : Fam (fun w' => Ext none_ w15 w') => cell_ext0 i.h d1
        have D2 := fun i : Fam (fun w' => Ext none_ w15 w') => cell_ext0 i.h d2
        have E0 := fun i : Fam (fun w' => Ext none_ w15 w') => cell_ext0 i.h f0
        have E1 := fun i : Fam (fun w' => Ext none_ w15 w') => cell_ext0 i.h f1
        have E2 := fun i : Fam (fun w' => Ext none_ w15 w') => cell_ext0 i.h f2
        have V1 : ∀ i : Fam (fun w' => Ext none_ w15 w'), (convert 51 9 (.slice p1 x1.length z1)).run Tryd.prog i.w = .ok (.string S1) i.w := fun i => by rw [HS1.out]; exact conv_bytes i.w p1 x1 g1 0 z1 (hU1_15.ext0 i.h)
        have V2 : ∀ i : Fam (fun w' => Ext none_ w15 w'), (convert 51 9 (.slice p2 x2.length z2)).run Tryd.prog i.w = .ok (.string S2) i.w := fun i => by rw [HS2.out]; exact conv_bytes i.w p2 x2 g2 0 z2 (hU2_15.ext0 i.h)
        clear a0 a1 a2 b0 b1 b2 d0 d1 d2 f0 f1 f2
        refine wp_region_hoistT (fun w' => Ext none_ w15 w') 31 [0, 1, 2, 3, 4, 5, 6, 7, 8, 9, 10, 11, 12, 13, 14, 15, 16, 17, 18, 19, 21, 24, 25, 26] 7 mixedV (by kernel_rfl) hF ?_
        simp only [List.filterMap_cons, List.filterMap_nil, List.getElem?_cons_zero, List.getElem?_cons_succ]
        have hnn := Fam.ne hF
        generalize w15.drew = w16 at *
        repeat (refine wpV_step (fun K hK => ?_); go_simp; refine hK _ ?_; clear hK K)
        refine wpV_nil ?_
        clear A0 A1 A2 B0 B1 B2 D0 D1 D2 E0 E1 E2 V1 V2
        refine wpAnyC_step [20] (by kernel_rfl) (by simp) ?_
        intro j hj
        simp only [List.mem_cons, List.not_mem_nil, or_false] at hj
        subst hj
        refine ⟨_, rfl, ?_⟩
        go_wp2_with fail
        try refine ⟨.inr hF, ?_⟩
        refine wpAnyC_step [22] (by kernel_rfl) (by simp) ?_
        intro j hj
        simp only [List.mem_cons, List.not_mem_nil, or_false] at hj
        subst hj
        refine ⟨_, rfl, ?_⟩
        go_wp2_with fail
        try refine ⟨.inr hF, ?_⟩
        refine wpAnyC_again [23, 27, 28, 29, 30] 0 (by kernel_rfl) hF ?_
        simp only [List.filterMap_cons, List.filterMap_nil, List.getElem?_toArray, List.getElem?_cons_zero, List.getElem?_cons_succ]
        repeat (refine wpV_step (fun K hK => ?_); go_simp; refine hK _ ?_; clear hK K)
        refine wpV_nil ?_
        refine wpAnyC_end (by kernel_rfl) ?_
        go_wp2_with fail
        go_ret
        exact ⟨rfl, hx15'.grow hF⟩
      · have hpp := Hpp.out rfl rfl
        have hF := Ext.drew w15
        have A0 := fun i : Fam (fun w' => Ext none_ w15 w') => cell_ext0 i.h a0
        have A1 := fun i : Fam (fun w' => Ext none_ w15 w') => cell_ext0 i.h a1
        have A2 := fun i : Fam (fun w' => Ext none_ w15 w') => cell_ext0 i.h a2
        have B0 := fun i : Fam (fun w' => Ext none_ w15 w') => cell_ext0 i.h b0
        have B1 := fun i : Fam (fun w' => Ext none_ w15 w') => cell_ext0 i.h b1
        have B2 := fun i : Fam (fun w' => Ext none_ w15 w') => cell_ext0 i.h b2
        have D0 := fun i : Fam (fun w' => Ext none_ w15 w') => cell_ext0 i.h d0
        have D1 := fun i : Fam (fun w' => Ext none_ w15 w') => cell_ext0 i.h d1
        have D2 := fun i : Fam (fun w' => Ext none_ w15 w') => cell_ext0 i.h d2
        have E0 := fun i : Fam (fun w' => Ext none_ w15 w') => cell_ext0 i.h f0
        have E1 := fun i : Fam (fun w' => Ext none_ w15 w') => cell_ext0 i.h f1
        have E2 := fun i : Fam (fun w' => Ext none_ w15 w') => cell_ext0 i.h f2
        have V1 : ∀ i : Fam (fun w' => Ext none_ w15 w'), (convert 51 9 (.slice p1 x1.length z1)).run Tryd.prog i.w = .ok (.string S1) i.w := fun i => by rw [HS1.out]; exact conv_bytes i.w p1 x1 g1 0 z1 (hU1_15.ext0 i.h)
        have V2 : ∀ i : Fam (fun w' => Ext none_ w15 w'), (convert 51 9 (.slice p2 x2.length z2)).run Tryd.prog i.w = .ok (.string S2) i.w := fun i => by rw [HS2.out]; exact conv_bytes i.w p2 x2 g2 0 z2 (hU2_15.ext0 i.h)
        clear a0 a1 a2 b0 b1 b2 d0 d1 d2 f0 f1 f2
        refine wp_region_hoistT (fun w' => Ext none_ w15 w') 31 [0, 1, 2, 3, 4, 5, 6, 7, 8, 9, 10, 11, 12, 13, 14, 15, 16, 17, 18, 19, 21, 24, 25, 26] 7 mixedV (by kernel_rfl) hF ?_
        simp only [List.filterMap_cons, List.filterMap_nil, List.getElem?_cons_zero, List.getElem?_cons_succ]
        have hnn := Fam.ne hF
        generalize w15.drew = w16 at *
        repeat (refine wpV_step (fun K hK => ?_); go_simp; refine hK _ ?_; clear hK K)
        refine wpV_nil ?_
        clear A0 A1 A2 B0 B1 B2 D0 D1 D2 E0 E1 E2 V1 V2
        refine wpAnyC_step [20] (by kernel_rfl) (by simp) ?_
        intro j hj
        simp only [List.mem_cons, List.not_mem_nil, or_false] at hj
        subst hj
        refine ⟨_, rfl, ?_⟩
        go_wp2_with fail
        refine (cP1 _ (hT15.ext0 hF)).mono ?_
        rintro e w17 ⟨rfl, hy⟩
        replace hF := hF.grow hy
        clear hy
        go_wp2_with fail
        try refine ⟨.inr hF, ?_⟩
        refine wpAnyC_step [22] (by kernel_rfl) (by simp) ?_
        intro j hj
        simp only [List.mem_cons, List.not_mem_nil, or_false] at hj
        subst hj
        refine ⟨_, rfl, ?_⟩
        go_wp2_with fail
        refine (cP2 _ (hT15.ext0 hF)).mono ?_
        rintro e w18 ⟨rfl, hy⟩
        replace hF := hF.grow hy
        clear hy
        go_wp2_with fail
        try refine ⟨.inr hF, ?_⟩
        refine wpAnyC_again [23, 27, 28, 29, 30] 0 (by kernel_rfl) hF ?_
        simp only [List.filterMap_cons, List.filterMap_nil, List.getElem?_toArray, List.getElem?_cons_zero, List.getElem?_cons_succ]
        repeat (refine wpV_step (fun K hK => ?_); go_simp; refine hK _ ?_; clear hK K)
        refine wpV_nil ?_
        refine wpAnyC_end (by kernel_rfl) ?_
        go_wp2_with fail
        go_ret
        exact ⟨rfl, hx15'.grow hF⟩
  · cases j2
    · go_wp2_with fail
      cases e1
      · have hF := Ext.drew w15
        have A0 := fun i : Fam (fun w' => Ext none_ w15 w') => cell_ext0 i.h a0
        have A1 := fun i : Fam (fun w' => Ext none_ w15 w') => cell_ext0 i.h a1
        have A2 := fun i : Fam (fun w' => Ext none_ w15 w') => cell_ext0 i.h a2
        have B0 := fun i : Fam (fun w' => Ext none_ w15 w') => cell_ext0 i.h b0
        have B1 := fun i : Fam (fun w' => Ext none_ w15 w') => cell_ext0 i.h b1
        have B2 := fun i : Fam (fun w' => Ext none_ w15 w') => cell_ext0 i.h b2
        have D0 := fun i : Fam (fun w' => Ext none_ w15 w') => cell_ext0 i.h d0
        have D1 := fun i : Fam (fun w' => Ext none_ w15 w') => cell_ext0 i.h d1
        have D2 := fun i : Fam (fun w' => Ext none_ w15 w') => cell_ext0 i.h d2
        have E0 := fun i : Fam (fun w' => Ext none_ w15 w') => cell_ext0 i.h f0
        have E1 := fun i : Fam (fun w' => Ext none_ w15 w') => cell_ext0 i.h f1
        have E2 := fun i : Fam (fun w' => Ext none_ w15 w') => cell_ext0 i.h f2
        have V1 : ∀ i : Fam (fun w' => Ext none_ w15 w'), (convert 51 9 (.slice p1 x1.length z1)).run Tryd.prog i.w = .ok (.string S1) i.w := fun i => by rw [HS1.out]; exact conv_bytes i.w p1 x1 g1 0 z1 (hU1_15.ext0 i.h)
        have V2 : ∀ i : Fam (fun w' => Ext none_ w15 w'), (convert 51 9 (.slice p2 x2.length z2)).run Tryd.prog i.w = .ok (.string S2) i.w := fun i => by rw [HS2.out]; exact conv_bytes i.w p2 x2 g2 0 z2 (hU2_15.ext0 i.h)
        clear a0 a1 a2 b0 b1 b2 d0 d1 d2 f0 f1 f2
        refine wp_region_hoistT (fun w' => Ext none_ w15 w') 31 [0, 1, 2, 3, 4, 5, 6, 7, 8, 9, 10, 11, 12, 13, 14, 15, 16, 17, 18, 19, 21, 24, 25, 26] 7 mixedV (by kernel_rfl) hF ?_
        simp only [List.filterMap_cons, List.filterMap_nil, List.getElem?_cons_zero, List.getElem?_cons_succ]
        have hnn := Fam.ne hF
        generalize w15.drew = w16 at *
        repeat (refine wpV_step (fun K hK => ?_); go_simp; refine hK _ ?_; clear hK K)
        refine wpV_nil ?_
        clear A0 A1 A2 B0 B1 B2 D0 D1 D2 E0 E1 E2 V1 V2
        refine wpAnyC_step [20] (by kernel_rfl) (by simp) ?_
        intro j hj
        simp only [List.mem_cons, List.not_mem_nil, or_false] at hj
        subst hj
        refine ⟨_, rfl, ?_⟩
        go_wp2_with fail
        try refine ⟨.inr hF, ?_⟩
        refine wpAnyC_step [22] (by kernel_rfl) (by simp) ?_
        intro j hj
        simp only [List.mem_cons, List.not_mem_nil, or_false] at hj
        subst hj
        refine ⟨_, rfl, ?_⟩
        go_wp2_with fail
        try refine ⟨.inr hF, ?_⟩
        refine wpAnyC_again [23, 27, 28, 29, 30] 0 (by kernel_rfl) hF ?_
        simp only [List.filterMap_cons, List.filterMap_nil, List.getElem?_toArray, List.getElem?_cons_zero, List.getElem?_cons_succ]
        repeat (refine wpV_step (fun K hK => ?_); go_simp; refine hK _ ?_; clear hK K)
        refine wpV_nil ?_
        refine wpAnyC_end (by kernel_rfl) ?_
        go_wp2_with fail
        go_ret
        exact ⟨rfl, hx15'.grow hF⟩
      · cases e2
        · have hF := Ext.drew w15
          have A0 := fun i : Fam (fun w' => Ext none_ w15 w') => cell_ext0 i.h a0
          have A1 := fun i : Fam (fun w' => Ext none_ w15 w') => cell_ext0 i.h a1
          have A2 := fun i : Fam (fun w' => Ext none_ w15 w') => cell_ext0 i.h a2
          have B0 := fun i : Fam (fun w' => Ext none_ w15 w') => cell_ext0 i.h b0
          have B1 := fun i : Fam (fun w' => Ext none_ w15 w') => cell_ext0 i.h b1
          have B2 := fun i : Fam (fun w' => Ext none_ w15 w') => cell_ext0 i.h b2
          have D0 := fun i : Fam (fun w' => Ext none_ w15 w') => cell_ext0 i.h d0
          have D1 := fun i : Fam (fun w' => Ext none_ w15 w') => cell_ext0 i.h d1
          have D2 := fun i : Fam (fun w' => Ext none_ w15 w') => cell_ext0 i.h d2
          have E0 := fun i : Fam (fun w' => Ext none_ w15 w') => cell_ext0 i.h f0
          have E1 := fun i : Fam (fun w' => Ext none_ w15 w') => cell_ext0 i.h f1
          have E2 := fun i : Fam (fun w' => Ext none_ w15 w') => cell_ext0 i.h f2
          have V1 : ∀ i : Fam (fun w' => Ext none_ w15 w'), (convert 51 9 (.slice p1 x1.length z1)).run Tryd.prog i.w = .ok (.string S1) i.w := fun i => by rw [HS1.out]; exact conv_bytes i.w p1 x1 g1 0 z1 (hU1_15.ext0 i.h)
          have V2 : ∀ i : Fam (fun w' => Ext none_ w15 w'), (convert 51 9 (.slice p2 x2.length z2)).run Tryd.prog i.w = .ok (.string S2) i.w := fun i => by rw [HS2.out]; exact conv_bytes i.w p2 x2 g2 0 z2 (hU2_15.ext0 i.h)
          clear a0 a1 a2 b0 b1 b2 d0 d1 d2 f0 f1 f2
          refine wp_region_hoistT (fun w' => Ext none_ w15 w') 31 [0, 1, 2, 3, 4, 5, 6, 7, 8, 9, 10, 11, 12, 13, 14, 15, 16, 17, 18, 19, 21, 24, 25, 26] 7 mixedV (by kernel_rfl) hF ?_
          simp only [List.filterMap_cons, List.filterMap_nil, List.getElem?_cons_zero, List.getElem?_cons_succ]
          have hnn := Fam.ne hF
          generalize w15.drew = w16 at *
          repeat (refine wpV_step (fun K hK => ?_); go_simp; refine hK _ ?_; clear hK K)
          refine wpV_nil ?_
          clear A0 A1 A2 B0 B1 B2 D0 D1 D2 E0 E1 E2 V1 V2
          refine wpAnyC_step [20] (by kernel_rfl) (by simp) ?_
          intro j hj
          simp only [List.mem_cons, List.not_mem_nil, or_false] at hj
          subst hj
          refine ⟨_, rfl, ?_⟩
          go_wp2_with fail
          try refine ⟨.inr hF, ?_⟩
          refine wpAnyC_step [22] (by kernel_rfl) (by simp) ?_
          intro j hj
          simp only [List.mem_cons, List.not_mem_nil, or_false] at hj
          subst hj
          refine ⟨_, rfl, ?_⟩
          go_wp2_with fail
          try refine ⟨.inr hF, ?_⟩
          refine wpAnyC_again [23, 27, 28, 29, 30] 0 (by kernel_rfl) hF ?_
          simp only [List.filterMap_cons, List.filterMap_nil, List.getElem?_toArray, List.getElem?_cons_zero, List.getElem?_cons_succ]
          repeat (refine wpV_step (fun K hK => ?_); go_simp; refine hK _ ?_; clear hK K)
          refine wpV_nil ?_
          refine wpAnyC_end (by kernel_rfl) ?_
          go_wp2_with fail
          go_ret
          exact ⟨rfl, hx15'.grow hF⟩
        · have hpp := Hpp.out rfl rfl
          have hF := Ext.drew w15
          have A0 := fun i : Fam (fun w' => Ext none_ w15 w') => cell_ext0 i.h a0
          have A1 := fun i : Fam (fun w' => Ext none_ w15 w') => cell_ext0 i.h a1
          have A2 := fun i : Fam (fun w' => Ext none_ w15 w') => cell_ext0 i.h a2
          have B0 := fun i : Fam (fun w' => Ext none_ w15 w') => cell_ext0 i.h b0
          have B1 := fun i : Fam (fun w' => Ext none_ w15 w') => cell_ext0 i.h b1
          have B2 := fun i : Fam (fun w' => Ext none_ w15 w') => cell_ext0 i.h b2
          have D0 := fun i : Fam (fun w' => Ext none_ w15 w') => cell_ext0 i.h d0
          have D1 := fun i : Fam (fun w' => Ext none_ w15 w') => cell_ext0 i.h d1
          have D2 := fun i : Fam (fun w' => Ext none_ w15 w') => cell_ext0 i.h d2
          have E0 := fun i : Fam (fun w' => Ext none_ w15 w') => cell_ext0 i.h f0
          have E1 := fun i : Fam (fun w' => Ext none_ w15 w') => cell_ext0 i.h f1
          have E2 := fun i : Fam (fun w' => Ext none_ w15 w') => cell_ext0 i.h f2
          have V1 : ∀ i : Fam (fun w' => Ext none_ w15 w'), (convert 51 9 (.slice p1 x1.length z1)).run Tryd.prog i.w = .ok (.string S1) i.w := fun i => by rw [HS1.out]; exact conv_bytes i.w p1 x1 g1 0 z1 (hU1_15.ext0 i.h)
          have V2 : ∀ i : Fam (fun w' => Ext none_ w15 w'), (convert 51 9 (.slice p2 x2.length z2)).run Tryd.prog i.w = .ok (.string S2) i.w := fun i => by rw [HS2.out]; exact conv_bytes i.w p2 x2 g2 0 z2 (hU2_15.ext0 i.h)
          clear a0 a1 a2 b0 b1 b2 d0 d1 d2 f0 f1 f2
          refine wp_region_hoistT (fun w' => Ext none_ w15 w') 31 [0, 1, 2, 3, 4, 5, 6, 7, 8, 9, 10, 11, 12, 13, 14, 15, 16, 17, 18, 19, 21, 24, 25, 26] 7 mixedV (by kernel_rfl) hF ?_
          simp only [List.filterMap_cons, List.filterMap_nil, List.getElem?_cons_zero, List.getElem?_cons_succ]
          have hnn := Fam.ne hF
          generalize w15.drew = w16 at *
          repeat (refine wpV_step (fun K hK => ?_); go_simp; refine hK _ ?_; clear hK K)
          refine wpV_nil ?_
          clear A0 A1 A2 B0 B1 B2 D0 D1 D2 E0 E1 E2 V1 V2
          refine wpAnyC_step [20] (by kernel_rfl) (by simp) ?_
          intro j hj
          simp only [List.mem_cons, List.not_mem_nil, or_false] at hj
          subst hj
          refine ⟨_, rfl, ?_⟩
          go_wp2_with fail
          refine (cP1 _ (hT15.ext0 hF)).mono ?_
          rintro e w17 ⟨rfl, hy⟩
          replace hF := hF.grow hy
          clear hy
          go_wp2_with fail
          try refine ⟨.inr hF, ?_⟩
          refine wpAnyC_step [22] (by kernel_rfl) (by simp) ?_
          intro j hj
          simp only [List.mem_cons, List.not_mem_nil, or_false] at hj
          subst hj
          refine ⟨_, rfl, ?_⟩
          go_wp2_with fail
          refine (cP2 _ (hT15.ext0 hF)).mono ?_
          rintro e w18 ⟨rfl, hy⟩
          replace hF := hF.grow hy
          clear hy
          go_wp2_with fail
          try refine ⟨.inr hF, ?_⟩
          refine wpAnyC_again [23, 27, 28, 29, 30] 0 (by kernel_rfl) hF ?_
          simp only [List.filterMap_cons, List.filterMap_nil, List.getElem?_toArray, List.getElem?_cons_zero, List.getElem?_cons_succ]
          repeat (refine wpV_step (fun K hK => ?_); go_simp; refine hK _ ?_; clear hK K)
          refine wpV_nil ?_
          refine wpAnyC_end (by kernel_rfl) ?_
          go_wp2_with fail
          go_ret
          exact ⟨rfl, hx15'.grow hF⟩
    · have hii := Hi.out rfl rfl
      go_wp2_with fail
      cases e1
      · have hF := Ext.drew w15
        have A0 := fun i : Fam (fun w' => Ext none_ w15 w') => cell_ext0 i.h a0
        have A1 := fun i : Fam (fun w' => Ext none_ w15 w') => cell_ext0 i.h a1
        have A2 := fun i : Fam (fun w' => Ext none_ w15 w') => cell_ext0 i.h a2
        have B0 := fun i : Fam (fun w' => Ext none_ w15 w') => cell_ext0 i.h b0
        have B1 := fun i : Fam (fun w' => Ext none_ w15 w') => cell_ext0 i.h b1
        have B2 := fun i : Fam (fun w' => Ext none_ w15 w') => cell_ext0 i.h b2
        have D0 := fun i : Fam (fun w' => Ext none_ w15 w') => cell_ext0 i.h d0
        have D1 := fun i : Fam (fun w' => Ext none_ w15 w') => cell_ext0 i.h d1
        have D2 := fun i : Fam (fun w' => Ext none_ w15 w') => cell_ext0 i.h d2
        have E0 := fun i : Fam (fun w' => Ext none_ w15 w') => cell_ext0 i.h f0
        have E1 := fun i : Fam (fun w' => Ext none_ w15 w') => cell_ext0 i.h f1
        have E2 := fun i : Fam (fun w' => Ext none_ w15 w') => cell_ext0 i.h f2
        have V1 : ∀ i : Fam (fun w' => Ext none_ w15 w'), (convert 51 9 (.slice p1 x1.length z1)).run Tryd.prog i.w = .ok (.string S1) i.w := fun i => by rw [HS1.out]; exact conv_bytes i.w p1 x1 g1 0 z1 (hU1_15.ext0 i.h)
        have V2 : ∀ i : Fam (fun w' => Ext none_ w15 w'), (convert 51 9 (.slice p2 x2.length z2)).run Tryd.prog i.w = .ok (.string S2) i.w := fun i => by rw [HS2.out]; exact conv_bytes i.w p2 x2 g2 0 z2 (hU2_15.ext0 i.h)
        clear a0 a1 a2 b0 b1 b2 d0 d1 d2 f0 f1 f2
        refine wp_region_hoistT (fun w' => Ext none_ w15 w') 31 [0, 1, 2, 3, 4, 5, 6, 7, 8, 9, 10, 11, 12, 13, 14, 15, 16, 17, 18, 19, 21, 24, 25, 26] 7 mixedV (by kernel_rfl) hF ?_
        simp only [List.filterMap_cons, List.filterMap_nil, List.getElem?_cons_zero, List.getElem?_cons_succ]
        have hnn := Fam.ne hF
        generalize w15.drew = w16 at *
        repeat (refine wpV_step (fun K hK => ?_); go_simp; refine hK _ ?_; clear hK K)
        refine wpV_nil ?_
        clear A0 A1 A2 B0 B1 B2 D0 D1 D2 E0 E1 E2 V1 V2
        refine wpAnyC_step [20] (by kernel_rfl) (by simp) ?_
        intro j hj
        simp only [List.mem_cons, List.not_mem_nil, or_false] at hj
        subst hj
        refine ⟨_, rfl, ?_⟩
        go_wp2_with fail
        try refine ⟨.inr hF, ?_⟩
        refine wpAnyC_step [22] (by kernel_rfl) (by simp) ?_
        intro j hj
        simp only [List.mem_cons, List.not_mem_nil, or_false] at hj
        subst hj
        refine ⟨_, rfl, ?_⟩
        go_wp2_with fail
        try refine ⟨.inr hF, ?_⟩
        refine wpAnyC_again [23, 27, 28, 29, 30] 0 (by kernel_rfl) hF ?_
        simp only [List.filterMap_cons, List.filterMap_nil, List.getElem?_toArray, List.getElem?_cons_zero, List.getElem?_cons_succ]
        repeat (refine wpV_step (fun K hK => ?_); go_simp; refine hK _ ?_; clear hK K)
        refine wpV_nil ?_
        refine wpAnyC_end (by kernel_rfl) ?_
        go_wp2_with fail
        go_ret
        exact ⟨rfl, hx15'.grow hF⟩
      · cases e2
        · have hF := Ext.drew w15
          have A0 := fun i : Fam (fun w' => Ext none_ w15 w') => cell_ext0 i.h a0
          have A1 := fun i : Fam (fun w' => Ext none_ w15 w') => cell_ext0 i.h a1
          have A2 := fun i : Fam (fun w' => Ext none_ w15 w') => cell_ext0 i.h a2
          have B0 := fun i : Fam (fun w' => Ext none_ w15 w') => cell_ext0 i.h b0
          have B1 := fun i : Fam (fun w' => Ext none_ w15 w') => cell_ext0 i.h b1
          have B2 := fun i : Fam (fun w' => Ext none_ w15 w') => cell_ext0 i.h b2
          have D0 := fun i : Fam (fun w' => Ext none_ w15 w') => cell_ext0 i.h d0
          have D1 := fun i : Fam (fun w' => Ext none_ w15 w') => cell_ext0 i.h d1
          have D2 := fun i : Fam (fun w' => Ext none_ w15 w') => cell_ext0 i.h d2
          have E0 := fun i : Fam (fun w' => Ext none_ w15 w') => cell_ext0 i.h f0
          have E1 := fun i : Fam (fun w' => Ext none_ w15 w') => cell_ext0 i.h f1
          have E2 := fun i : Fam (fun w' => Ext none_ w15 w') => cell_ext0 i.h f2
          have V1 : ∀ i : Fam (fun w' => Ext none_ w15 w'), (convert 51 9 (.slice p1 x1.length z1)).run Tryd.prog i.w = .ok (.string S1) i.w := fun i => by rw [HS1.out]; exact conv_bytes i.w p1 x1 g1 0 z1 (hU1_15.ext0 i.h)
          have V2 : ∀ i : Fam (fun w' => Ext none_ w15 w'), (convert 51 9 (.slice p2 x2.length z2)).run Tryd.prog i.w = .ok (.string S2) i.w := fun i => by rw [HS2.out]; exact conv_bytes i.w p2 x2 g2 0 z2 (hU2_15.ext0 i.h)
          clear a0 a1 a2 b0 b1 b2 d0 d1 d2 f0 f1 f2
          refine wp_region_hoistT (fun w' => Ext none_ w15 w') 31 [0, 1, 2, 3, 4, 5, 6, 7, 8, 9, 10, 11, 12, 13, 14, 15, 16, 17, 18, 19, 21, 24, 25, 26] 7 mixedV (by kernel_rfl) hF ?_
          simp only [List.filterMap_cons, List.filterMap_nil, List.getElem?_cons_zero, List.getElem?_cons_succ]
          have hnn := Fam.ne hF
          generalize w15.drew = w16 at *
          repeat (refine wpV_step (fun K hK => ?_); go_simp; refine hK _ ?_; clear hK K)
          refine wpV_nil ?_
          clear A0 A1 A2 B0 B1 B2 D0 D1 D2 E0 E1 E2 V1 V2
          refine wpAnyC_step [20] (by kernel_rfl) (by simp) ?_
          intro j hj
          simp only [List.mem_cons, List.not_mem_nil, or_false] at hj
          subst hj
          refine ⟨_, rfl, ?_⟩
          go_wp2_with fail
          try refine ⟨.inr hF, ?_⟩
          refine wpAnyC_step [22] (by kernel_rfl) (by simp) ?_
          intro j hj
          simp only [List.mem_cons, List.not_mem_nil, or_false] at hj
          subst hj
          refine ⟨_, rfl, ?_⟩
          go_wp2_with fail
          try refine ⟨.inr hF, ?_⟩
          refine wpAnyC_again [23, 27, 28, 29, 30] 0 (by kernel_rfl) hF ?_
          simp only [List.filterMap_cons, List.filterMap_nil, List.getElem?_toArray, List.getElem?_cons_zero, List.getElem?_cons_succ]
          repeat (refine wpV_step (fun K hK => ?_); go_simp; refine hK _ ?_; clear hK K)
          refine wpV_nil ?_
          refine wpAnyC_end (by kernel_rfl) ?_
          go_wp2_with fail
          go_ret
          exact ⟨rfl, hx15'.grow hF⟩
        · have hpp := Hpp.out rfl rfl
          have hF := Ext.drew w15
          have A0 := fun i : Fam (fun w' => Ext none_ w15 w') => cell_ext0 i.h a0
          have A1 := fun i : Fam (fun w' => Ext none_ w15 w') => cell_ext0 i.h a1
          have A2 := fun i : Fam (fun w' => Ext none_ w15 w') => cell_ext0 i.h a2
          have B0 := fun i : Fam (fun w' => Ext none_ w15 w') => cell_ext0 i.h b0
          have B1 := fun i : Fam (fun w' => Ext none_ w15 w') => cell_ext0 i.h b1
          have B2 := fun i : Fam (fun w' => Ext none_ w15 w') => cell_ext0 i.h b2
          have D0 := fun i : Fam (fun w' => Ext none_ w15 w') => cell_ext0 i.h d0
          have D1 := fun i : Fam (fun w' => Ext none_ w15 w') => cell_ext0 i.h d1
          have D2 := fun i : Fam (fun w' => Ext none_ w15 w') => cell_ext0 i.h d2
          have E0 := fun i : Fam (fun w' => Ext none_ w15 w') => cell_ext0 i.h f0
          have E1 := fun i : Fam (fun w' => Ext none_ w15 w') => cell_ext0 i.h f1
          have E2 := fun i : Fam (fun w' => Ext none_ w15 w') => cell_ext0 i.h f2
          have V1 : ∀ i : Fam (fun w' => Ext none_ w15 w'), (convert 51 9 (.slice p1 x1.length z1)).run Tryd.prog i.w = .ok (.string S1) i.w := fun i => by rw [HS1.out]; exact conv_bytes i.w p1 x1 g1 0 z1 (hU1_15.ext0 i.h)
          have V2 : ∀ i : Fam (fun w' => Ext none_ w15 w'), (convert 51 9 (.slice p2 x2.length z2)).run Tryd.prog i.w = .ok (.string S2) i.w := fun i => by rw [HS2.out]; exact conv_bytes i.w p2 x2 g2 0 z2 (hU2_15.ext0 i.h)
          clear a0 a1 a2 b0 b1 b2 d0 d1 d2 f0 f1 f2
          refine wp_region_hoistT (fun w' => Ext none_ w15 w') 31 [0, 1, 2, 3, 4, 5, 6, 7, 8, 9, 10, 11, 12, 13, 14, 15, 16, 17, 18, 19, 21, 24, 25, 26] 7 mixedV (by kernel_rfl) hF ?_
          simp only [List.filterMap_cons, List.filterMap_nil, List.getElem?_cons_zero, List.getElem?_cons_succ]
          have hnn := Fam.ne hF
          generalize w15.drew = w16 at *
          repeat (refine wpV_step (fun K hK => ?_); go_simp; refine hK _ ?_; clear hK K)
          refine wpV_nil ?_
          clear A0 A1 A2 B0 B1 B2 D0 D1 D2 E0 E1 E2 V1 V2
          refine wpAnyC_step [20] (by kernel_rfl) (by simp) ?_
          intro j hj
          simp only [List.mem_cons, List.not_mem_nil, or_false] at hj
          subst hj
          refine ⟨_, rfl, ?_⟩
          go_wp2_with fail
          refine (cP1 _ (hT15.ext0 hF)).mono ?_
          rintro e w17 ⟨rfl, hy⟩
          replace hF := hF.grow hy
          clear hy
          go_wp2_with fail
          try refine ⟨.inr hF, ?_⟩
          refine wpAnyC_step [22] (by kernel_rfl) (by simp) ?_
          intro j hj
          simp only [List.mem_cons, List.not_mem_nil, or_false] at hj
          subst hj
          refine ⟨_, rfl, ?_⟩
          go_wp2_with fail
          refine (cP2 _ (hT15.ext0 hF)).mono ?_
          rintro e w18 ⟨rfl, hy⟩
          replace hF := hF.grow hy
          clear hy
          go_wp2_with fail
          try refine ⟨.inr hF, ?_⟩
          refine wpAnyC_again [23, 27, 28, 29, 30] 0 (by kernel_rfl) hF ?_
          simp only [List.filterMap_cons, List.filterMap_nil, List.getElem?_toArray, List.getElem?_cons_zero, List.getElem?_cons_succ]
          repeat (refine wpV_step (fun K hK => ?_); go_simp; refine hK _ ?_; clear hK K)
          refine wpV_nil ?_
          refine wpAnyC_end (by kernel_rfl) ?_
          go_wp2_with fail
          go_ret
          exact ⟨rfl, hx15'.grow hF⟩

theorem vapart_all (w : World) (hT : Nums w) (a b : Vl) (hn : -9223372036854775808 ≤ a.n ∧ a.n ≤ 9223372036854775807) (hm : -9223372036854775808 ≤ b.n ∧ b.n ≤ 9223372036854775807) :
    Calls Tryd.prog 12 #[a.val, b.val] w fun e w' => e = .returned (.bool true) ∧ Ext none_ w w' := by
  cases ha : a.right
  · exact vapart_long w hT a b (.inl ha)
  · cases hb : b.right
    · exact vapart_long w hT a b (.inr hb)
    · exact vapart_any w hT a b ha hb hn hm

end Go.Proofs.YtocjidlbjmghdaaDoor
