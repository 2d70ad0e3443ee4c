/- The walk of ValueOrders . -/
import Derived.Test.YtocjidlbjmghdaaDoorVConv
import Derived.Test.YtocjidlbjmghdaaDoorLawVApart
namespace Go.Proofs.YtocjidlbjmghdaaDoor
open Go.RowKit Go.Cw

attribute [-go_sem] Go.run_equalIn_agg

theorem UOwn.read_cap {w : World} {base : Nat} {v : Value} {bs : List UInt8} (h : UOwn w base v bs) : ∃ a c b, v = .slice a bs.length c ∧ UR w a bs b 0 ∧ bs.length ≤ c := by
  obtain ⟨a, c, b, rfl, hU, _⟩ := h.read
  refine ⟨a, c, b, rfl, hU, ?_⟩
  rcases h.2 with ⟨e, h0⟩ | ⟨g, cap, cur, e, _, _, hc1, _⟩
  · omega
  · cases e; omega

theorem bytes_len (v : Vl) (h : v.right = true) : v.bytes.length ≤ 100000 := by
  unfold Vl.bytes
  split
  · rw [numB_len]; omega
  · rename_i h1
    have h2 := ((of_decide_eq_true h).resolve_left h1).2.2
    rw [strB_eq, List.length_cons, List.length_append]
    have h3 := enc0_len v.s.data.toList
    rw [show v.s.data.toList.length = v.s.size from Array.length_toList] at h3
    show _ + 2 + 1 ≤ 100000
    omega

set_option maxHeartbeats 8000000 in
set_option maxRecDepth 100000 in
theorem vorders_any (w : World) (hT : Nums w) (a b : Vl) (hra : a.right = true) (hrb : b.right = true) (hn : -9223372036854775808 ≤ a.n ∧ a.n ≤ 9223372036854775807) (hm : -9223372036854775808 ≤ b.n ∧ b.n ≤ 9223372036854775807)
    (ar : Option Addr) (zr : List Int) (br off cr : Nat) (hR : RR w ar zr br off) (hz : zr.length ≤ 50) :
    Calls Tryd.prog 15 #[a.val, b.val, .slice ar zr.length cr] w fun e w' => e = .returned (.bool true) ∧ Ext none_ w w' := by
  have cR1 := fun w : World => vrref_any w a
  have cR2 := fun w : World => vrref_any w b
  have cB1 := fun w : World => bytesR_any w a hn hra
  have cB2 := fun w : World => bytesR_any w b hm hrb
  have cC := fun w : World => vcompare_any w a b
  have q3 := fun w : World => eq49 w a b
  have Hcmp : Hid (cmpP (ints a.bytes) (ints b.bytes) = vcmp a b) := Lib.hid (bytes_cmp hra hrb hn hm)
  have Hpre : Hid (a.bytes.take (min a.bytes.length b.bytes.length) = b.bytes.take (min a.bytes.length b.bytes.length) ↔ a = b) := Lib.hid (bytes_pre hra hrb hn hm)
  obtain ⟨S1, hS1⟩ : ∃ S : ByteArray, S = ⟨a.bytes.toArray⟩ := ⟨_, rfl⟩
  obtain ⟨S2, hS2⟩ : ∃ S : ByteArray, S = ⟨b.bytes.toArray⟩ := ⟨_, rfl⟩
  have hz1 : a.bytes.length ≤ 100000 := bytes_len a hra
  have hz2 : b.bytes.length ≤ 100000 := bytes_len b hrb
  have cO := fun w : World => order_any w S1 S2 (by rw [hS1]; show a.bytes.toArray.size ≤ maxLen; rw [List.size_toArray]; unfold maxLen; omega) (by rw [hS2]; show b.bytes.toArray.size ≤ maxLen; rw [List.size_toArray]; unfold maxLen; omega)
  rw [show bytesI S1 = ints a.bytes by rw [hS1]; rfl, show bytesI S2 = ints b.bytes by rw [hS2]; rfl, Hcmp.out] at cO
  have HS1 := Lib.hid hS1
  have HS2 := Lib.hid hS2
  obtain ⟨W, hW⟩ : ∃ W : ByteArray, W = tB zr := ⟨_, rfl⟩
  have HW := Lib.hid hW
  have cN := fun w : World => num_any w a.n
  have cX := fun w : World => txt_any w W
  have rng0 : -9223372036854775808 ≤ (0 : Int) ∧ (0 : Int) ≤ 9223372036854775807 := by omega
  have cP1 := fun (w : World) (h : Nums w) => print_any w ⟨1, a.n, ⟨#[]⟩⟩ hn h
  have cP2 := fun (w : World) (h : Nums w) => print_any w ⟨2, 0, W⟩ rng0 h
  have cD1 := fun (w : World) (h : Nums w) => read_any w ⟨(Vl.print ⟨1, a.n, ⟨#[]⟩⟩).toArray⟩ (print_len ⟨1, a.n, ⟨#[]⟩⟩ hn) h
  have cD2 := fun (w : World) (h : Nums w) => read_any w ⟨(Vl.print ⟨2, 0, W⟩).toArray⟩ (print_len ⟨2, 0, W⟩ rng0) h
  rw [read_num a.n hn] at cD1
  have q4 := fun w : World => eq49 w ⟨1, a.n, ⟨#[]⟩⟩ ⟨1, a.n, ⟨#[]⟩⟩
  obtain ⟨u, c2, hu, Hq⟩ : ∃ (u : Vl) (c2 : Int), readV (readP ⟨(Vl.print ⟨2, 0, W⟩).toArray⟩) = .tuple #[u.val, .int .i64 c2] ∧ Hid (W.size ≤ 200 → c2 = 0 ∧ ∀ w, (Op.equalIn 10000 49 (.agg #[.int .i64 u.k, .int .i64 u.n, .string u.s]) (.agg #[.int .i64 2, .int .i64 0, .string W])).run Tryd.prog w = .ok true w) := by
    by_cases hs : W.size ≤ 200
    · refine ⟨⟨2, 0, W⟩, 0, ?_, Lib.hid fun _ => ⟨rfl, fun w => ?_⟩⟩
      · rw [hW] at hs ⊢
        rw [read_text zr hs]; rfl
      · have := eq49 w ⟨2, 0, W⟩ ⟨2, 0, W⟩
        rw [decide_eq_true rfl] at this
        exact this
    · obtain ⟨c, hc⟩ := readV_some (readP ⟨(Vl.print ⟨2, 0, W⟩).toArray⟩)
      exact ⟨_, c, hc, Lib.hid fun h => absurd h hs⟩
  rw [hu] at cD2
  unfold readV at cD1
  simp only [decide_true] at q4
  clear hS1 hS2 hz1 hz2 hW hu
  generalize (⟨(Vl.print ⟨1, a.n, ⟨#[]⟩⟩).toArray⟩ : ByteArray) = P1 at *
  generalize (⟨(Vl.print ⟨2, 0, W⟩).toArray⟩ : ByteArray) = P2 at *
  rw [hra] at cR1
  rw [hrb] at cR2
  have hd50 : decide (50 < (zr.length : Int)) = false := by simp; omega
  obtain ⟨w2, hw2, hx2, ha2, hb2⟩ := vbox2 w a b
  have hT2 := hT.ext0 hx2
  have hR2 := hR.ext0 hx2
  have hx2' := hx2
  clear hT hR hra hrb hx2
  generalize a.bytes = x1 at *
  generalize b.bytes = x2 at *
  unfold Vl.val at *
  generalize a.s = s1 at *
  generalize b.s = s2 at *
  generalize a.k = k1 at *
  generalize b.k = k2 at *
  generalize vcmp a b = cc at *
  go_enter Tryd.func15, Tryd.ntmps15
  go_wp2_with fail
  refine (vawake_any w2 hT2).mono ?_
  rintro e w3 ⟨rfl, hx3⟩
  have ha3 := hx3.blk0 ha2
  have hb3 := hx3.blk0 hb2
  have hT3 := hT2.ext0 hx3
  have hR3 := hR2.ext0 hx3
  have hx3' := hx2'.grow hx3
  clear ha2 hb2 hT2 hR2 hx2' hx3
  obtain ⟨a0, a1, a2⟩ := cells3 ha3
  obtain ⟨b0, b1, b2⟩ := cells3 hb3
  go_wp2_with fail
  refine (cR1 _).mono ?_
  rintro e w4 ⟨rfl, hx4⟩
  have ha4 := hx4.blk0 ha3
  have hb4 := hx4.blk0 hb3
  have hT4 := hT3.ext0 hx4
  have hR4 := hR3.ext0 hx4
  have hx4' := hx3'.grow hx4
  clear ha3 hb3 hT3 hR3 hx3' hx4 cR1 a0 a1 a2 b0 b1 b2
  obtain ⟨a0, a1, a2⟩ := cells3 ha4
  obtain ⟨b0, b1, b2⟩ := cells3 hb4
  go_wp2_with fail
  refine (cR2 _).mono ?_
  rintro e w5 ⟨rfl, hx5⟩
  have ha5 := hx5.blk0 ha4
  have hb5 := hx5.blk0 hb4
  have hT5 := hT4.ext0 hx5
  have hR5 := hR4.ext0 hx5
  have hx5' := hx4'.grow hx5
  clear ha4 hb4 hT4 hR4 hx4' hx5 cR2 a0 a1 a2 b0 b1 b2
  obtain ⟨a0, a1, a2⟩ := cells3 ha5
  obtain ⟨b0, b1, b2⟩ := cells3 hb5
  go_wp2_with fail
  refine (cB1 _).mono ?_
  rintro e w6 ⟨r1, rfl, hO1_6, hx6⟩
  have ha6 := hx6.blk0 ha5
  have hb6 := hx6.blk0 hb5
  have hT6 := hT5.ext0 hx6
  have hR6 := hR5.ext0 hx6
  have hx6' := hx5'.grow hx6
  clear ha5 hb5 hT5 hR5 hx5' hx6 cB1 a0 a1 a2 b0 b1 b2
  obtain ⟨a0, a1, a2⟩ := cells3 ha6
  obtain ⟨b0, b1, b2⟩ := cells3 hb6
  go_wp2_with fail
  refine (cB2 _).mono ?_
  rintro e w7 ⟨r2, rfl, hO2_7, hx7⟩
  have ha7 := hx7.blk0 ha6
  have hb7 := hx7.blk0 hb6
  have hT7 := hT6.ext0 hx7
  have hR7 := hR6.ext0 hx7
  have hO1_7 := hO1_6.ext0 hx7
  have hx7' := hx6'.grow hx7
  clear ha6 hb6 hT6 hR6 hO1_6 hx6' hx7 cB2 a0 a1 a2 b0 b1 b2
  obtain ⟨a0, a1, a2⟩ := cells3 ha7
  obtain ⟨b0, b1, b2⟩ := cells3 hb7
  obtain ⟨p1, z1, g1, rfl, hU1_7, hz1⟩ := hO1_7.read_cap
  obtain ⟨p2, z2, g2, rfl, hU2_7, hz2⟩ := hO2_7.read_cap
  go_wp2_with fail
  rw [show min (x1.length : Int) x2.length = ((min x1.length x2.length : Nat) : Int) by omega]
  have hl1 : min x1.length x2.length ≤ x1.length := Nat.min_le_left _ _
  have hl2 : min x1.length x2.length ≤ x2.length := Nat.min_le_right _ _
  generalize min x1.length x2.length = N at *
  obtain ⟨v1, hs1, hv1⟩ := head_text w7 p1 x1 g1 0 z1 N hU1_7 hz1 hl1
  obtain ⟨v2, hs2, hv2⟩ := head_text w7 p2 x2 g2 0 z2 N hU2_7 hz2 hl2
  obtain ⟨T1, hT1⟩ : ∃ S : ByteArray, S = ⟨(x1.take N).toArray⟩ := ⟨_, rfl⟩
  obtain ⟨T2, hT2⟩ : ∃ S : ByteArray, S = ⟨(x2.take N).toArray⟩ := ⟨_, rfl⟩
  have htt : (T1.toList == T2.toList) = decide (a = b) := by
    rw [Bool.eq_iff_iff, beq_iff_eq, decide_eq_true_iff, ← Hpre.out, hT1, hT2, ByteArray.toList_eq, ByteArray.toList_eq]
  have hF := Ext.drew w7
  have A0 := fun i : Fam (fun w' => Ext none_ w7 w') => cell_ext0 i.h a0
  have A1 := fun i : Fam (fun w' => Ext none_ w7 w') => cell_ext0 i.h a1
  have A2 := fun i : Fam (fun w' => Ext none_ w7 w') => cell_ext0 i.h a2
  have B0 := fun i : Fam (fun w' => Ext none_ w7 w') => cell_ext0 i.h b0
  have B1 := fun i : Fam (fun w' => Ext none_ w7 w') => cell_ext0 i.h b1
  have B2 := fun i : Fam (fun w' => Ext none_ w7 w') => cell_ext0 i.h b2
  have V1 : ∀ i : Fam (fun w' => Ext none_ w7 w'), (convert 51 9 (.slice p1 x1.length z1)).run Tryd.prog i.w = .ok (.string S1) i.w := fun i => by rw [HS1.out]; exact conv_bytes i.w p1 x1 g1 0 z1 (hU1_7.ext0 i.h)
  have V2 : ∀ i : Fam (fun w' => Ext none_ w7 w'), (convert 51 9 (.slice p2 x2.length z2)).run Tryd.prog i.w = .ok (.string S2) i.w := fun i => by rw [HS2.out]; exact conv_bytes i.w p2 x2 g2 0 z2 (hU2_7.ext0 i.h)
  have X1 : ∀ i : Fam (fun w' => Ext none_ w7 w'), (convert 51 9 v1).run Tryd.prog i.w = .ok (.string T1) i.w := fun i => by rw [hT1]; exact hv1 i.w i.h
  have X2 : ∀ i : Fam (fun w' => Ext none_ w7 w'), (convert 51 9 v2).run Tryd.prog i.w = .ok (.string T2) i.w := fun i => by rw [hT2]; exact hv2 i.w i.h
  clear hT1 hT2 hv1 hv2 Hpre Hcmp hl1 hl2 hz1 hz2 hU1_7 hU2_7 hO1_7 a0 a1 a2 b0 b1 b2
  generalize decide (a = b) = e3 at *
  refine wp_region_hoistT (fun w' => Ext none_ w7 w') 32 [0, 1, 2, 3, 4, 5, 6, 7, 8, 9, 10, 12, 13] 19 mixedV (by kernel_rfl) hF ?_
  simp only [List.filterMap_cons, List.filterMap_nil, List.getElem?_cons_zero, List.getElem?_cons_succ]
  have hnn := Fam.ne hF
  generalize w7.drew = v8 at *
  repeat (refine wpV_step (fun K hK => ?_); go_simp; refine hK _ ?_; clear hK K)
  refine wpV_nil ?_
  refine wpAnyC_step [11] (by kernel_rfl) (by simp) ?_
  intro j hj
  simp only [List.mem_cons, List.not_mem_nil, or_false] at hj
  subst hj
  refine ⟨_, rfl, ?_⟩
  go_wp2_with fail
  refine (cO _).mono ?_
  rintro e v9 ⟨rfl, hy⟩
  replace hF := hF.grow hy
  clear hy
  go_wp2_with fail
  try refine ⟨.inr hF, ?_⟩
  refine wpAnyC_step [14] (by kernel_rfl) (by simp) ?_
  intro j hj
  simp only [List.mem_cons, List.not_mem_nil, or_false] at hj
  subst hj
  refine ⟨_, rfl, ?_⟩
  go_wp2_with fail
  refine (cC _).mono ?_
  rintro e w8 ⟨rfl, hy⟩
  replace hF := hF.grow hy
  clear hy
  go_wp2_with fail
  try refine ⟨.inr hF, ?_⟩
  refine wpAnyC_again [15, 16, 17, 18, 19, 20, 21, 22, 23, 24, 25, 26, 27, 28, 29, 30, 31] 0 (by kernel_rfl) hF ?_
  simp only [List.filterMap_cons, List.filterMap_nil, List.getElem?_toArray, List.getElem?_cons_zero, List.getElem?_cons_succ]
  repeat (refine wpV_step (fun K hK => ?_); go_simp; refine hK _ ?_; clear hK K)
  refine wpV_nil ?_
  refine wpAnyC_end (by kernel_rfl) ?_
  clear hnn A0 A1 A2 B0 B1 B2 V1 V2 X1 X2 hs1 hs2 cO cC q3 htt
  have hx8 := hF
  clear hF

  have ha8 := hx8.blk0 ha7
  have hT8 := hT7.ext0 hx8
  have hR8 := hR7.ext0 hx8
  have hx8' := hx7'.grow hx8
  clear ha7 hT7 hR7 hx7' hx8
  obtain ⟨a0, a1, a2⟩ := cells3 ha8
  go_wp2_with fail
  refine (cN _).mono ?_
  rintro e w9 ⟨rfl, hx9⟩
  have ha9 := hx9.blk0 ha8
  have hT9 := hT8.ext0 hx9
  have hR9 := hR8.ext0 hx9
  have hx9' := hx8'.grow hx9
  clear ha8 hT8 hR8 hx8' hx9 cN a0 a1 a2
  obtain ⟨a0, a1, a2⟩ := cells3 ha9
  have hx10 := Ext.alloc w9 (.cells #[.int .i64 1, .int .i64 a.n, .string ⟨#[]⟩] 49)
  have hv10 := blk_new w9 (.cells #[.int .i64 1, .int .i64 a.n, .string ⟨#[]⟩] 49)
  have ha10 := hx10.blk0 ha9
  have hT10 := hT9.ext0 hx10
  have hR10 := hR9.ext0 hx10
  have hx10' := hx9'.grow hx10
  clear ha9 hT9 hR9 hx9' hx10 a0 a1 a2
  obtain ⟨a0, a1, a2⟩ := cells3 ha10
  have hcv := conv_text (w9.alloc (.cells #[.int .i64 1, .int .i64 a.n, .string ⟨#[]⟩] 49)) ar zr br off cr hR10
  rw [← HW.out] at hcv
  go_wp2_with fail
  generalize w9.heap.size = m10 at *
  generalize w9.alloc (.cells #[.int .i64 1, .int .i64 a.n, .string ⟨#[]⟩] 49) = w10 at *
  clear hcv
  refine (cX _).mono ?_
  rintro e w11 ⟨rfl, hx11⟩
  have ha11 := hx11.blk0 ha10
  have hT11 := hT10.ext0 hx11
  have hR11 := hR10.ext0 hx11
  have hv11 := hx11.blk0 hv10
  have hx11' := hx10'.grow hx11
  clear ha10 hT10 hR10 hv10 hx10' hx11 cX a0 a1 a2
  obtain ⟨a0, a1, a2⟩ := cells3 ha11
  have hx12 := Ext.alloc w11 (.cells #[.int .i64 2, .int .i64 0, .string W] 49)
  have hw12 := blk_new w11 (.cells #[.int .i64 2, .int .i64 0, .string W] 49)
  have ha12 := hx12.blk0 ha11
  have hT12 := hT11.ext0 hx12
  have hR12 := hR11.ext0 hx12
  have hv12 := hx12.blk0 hv11
  have hx12' := hx11'.grow hx12
  clear ha11 hT11 hR11 hv11 hx11' hx12 a0 a1 a2
  obtain ⟨a0, a1, a2⟩ := cells3 ha12
  obtain ⟨d0, d1, d2⟩ := cells3 hv12
  clear a0 a1 a2
  go_wp2_with fail
  generalize w11.heap.size = m12 at *
  generalize w11.alloc (.cells #[.int .i64 2, .int .i64 0, .string W] 49) = w12 at *
  refine (cP1 _ hT12).mono ?_
  rintro e w13 ⟨rfl, hx13⟩
  have ha13 := hx13.blk0 ha12
  have hT13 := hT12.ext0 hx13
  have hR13 := hR12.ext0 hx13
  have hv13 := hx13.blk0 hv12
  have hw13 := hx13.blk0 hw12
  have hx13' := hx12'.grow hx13
  clear ha12 hT12 hR12 hv12 hw12 hx12' hx13 cP1 d0 d1 d2
  obtain ⟨d0, d1, d2⟩ := cells3 hv13
  go_wp2_with fail
  refine (cD1 _ hT13).mono ?_
  rintro e w14 ⟨rfl, hx14⟩
  have ha14 := hx14.blk0 ha13
  have hT14 := hT13.ext0 hx14
  have hR14 := hR13.ext0 hx14
  have hv14 := hx14.blk0 hv13
  have hw14 := hx14.blk0 hw13
  have hx14' := hx13'.grow hx14
  clear ha13 hT13 hR13 hv13 hw13 hx13' hx14 cD1 d0 d1 d2
  obtain ⟨d0, d1, d2⟩ := cells3 hv14
  have hx15 := Ext.alloc w14 (.cells #[.int .i64 1, .int .i64 a.n, .string ⟨#[]⟩] 49)
  have hp15 := blk_new w14 (.cells #[.int .i64 1, .int .i64 a.n, .string ⟨#[]⟩] 49)
  have ha15 := hx15.blk0 ha14
  have hT15 := hT14.ext0 hx15
  have hR15 := hR14.ext0 hx15
  have hv15 := hx15.blk0 hv14
  have hw15 := hx15.blk0 hw14
  have hx15' := hx14'.grow hx15
  clear ha14 hT14 hR14 hv14 hw14 hx14' hx15 d0 d1 d2
  obtain ⟨d0, d1, d2⟩ := cells3 hv15
  obtain ⟨h0, h1, h2⟩ := cells3 hw15
  clear d0 d1 d2
  go_wp2_with fail
  generalize w14.heap.size = m15 at *
  generalize w14.alloc (.cells #[.int .i64 1, .int .i64 a.n, .string ⟨#[]⟩] 49) = w15 at *
  refine (cP2 _ hT15).mono ?_
  rintro e w16 ⟨rfl, hx16⟩
  have ha16 := hx16.blk0 ha15
  have hT16 := hT15.ext0 hx16
  have hR16 := hR15.ext0 hx16
  have hv16 := hx16.blk0 hv15
  have hw16 := hx16.blk0 hw15
  have hp16 := hx16.blk0 hp15
  have hx16' := hx15'.grow hx16
  clear ha15 hT15 hR15 hv15 hw15 hp15 hx15' hx16 cP2 h0 h1 h2
  obtain ⟨h0, h1, h2⟩ := cells3 hw16
  go_wp2_with fail
  refine (cD2 _ hT16).mono ?_
  rintro e w17 ⟨rfl, hx17⟩
  have ha17 := hx17.blk0 ha16
  have hT17 := hT16.ext0 hx17
  have hR17 := hR16.ext0 hx17
  have hv17 := hx17.blk0 hv16
  have hw17 := hx17.blk0 hw16
  have hp17 := hx17.blk0 hp16
  have hx17' := hx16'.grow hx17
  clear ha16 hT16 hR16 hv16 hw16 hp16 hx16' hx17 cD2 h0 h1 h2
  obtain ⟨h0, h1, h2⟩ := cells3 hw17
  have hx18 := Ext.alloc w17 (.cells #[.int .i64 u.k, .int .i64 u.n, .string u.s] 49)
  have hq18 := blk_new w17 (.cells #[.int .i64 u.k, .int .i64 u.n, .string u.s] 49)
  have ha18 := hx18.blk0 ha17
  have hT18 := hT17.ext0 hx18
  have hR18 := hR17.ext0 hx18
  have hv18 := hx18.blk0 hv17
  have hw18 := hx18.blk0 hw17
  have hp18 := hx18.blk0 hp17
  have hx18' := hx17'.grow hx18
  clear ha17 hT17 hR17 hv17 hw17 hp17 hx17' hx18 h0 h1 h2
  obtain ⟨h0, h1, h2⟩ := cells3 hw18
  obtain ⟨d0, d1, d2⟩ := cells3 hv18
  obtain ⟨i0, i1, i2⟩ := cells3 hp18
  obtain ⟨j0, j1, j2⟩ := cells3 hq18
  by_cases hsz : W.size ≤ 200
  · obtain ⟨rfl, hq5⟩ := Hq.out hsz
    have hd : decide (200 < (W.size : Int)) = false := by simp; omega
    clear hsz
    go_wp2_with fail
    go_ret
    exact ⟨rfl, hx18'⟩
  · have hd : decide (200 < (W.size : Int)) = true := by simp; omega
    clear hsz
    go_wp2_with fail
    go_ret
    exact ⟨rfl, hx18'⟩

set_option maxHeartbeats 4000000 in
set_option maxRecDepth 100000 in
theorem vorders_long (w : World) (hT : Nums w) (a b : Vl) (v : Value) (n : Nat) (ar : Option Addr) (cr : Nat) (hv : v = .slice ar n cr) (h : 50 < n ∨ a.right = false ∨ b.right = false) : Calls Tryd.prog 15 #[a.val, b.val, v] w fun e w' => e = .returned (.bool true) ∧ Ext none_ w w' := by
  subst hv
  have cR1 := fun w : World => vrref_any w a
  have cR2 := fun w : World => vrref_any w b
  obtain ⟨w2, hw2, hx2, ha, hb⟩ := vbox2 w a b
  have hT2 := hT.ext0 hx2
  clear hT
  generalize a.right = ra at *
  generalize b.right = rb at *
  unfold Vl.val at *
  generalize a.k = k1 at *
  generalize a.n = n1 at *
  generalize a.s = s1 at *
  generalize b.k = k2 at *
  generalize b.n = n2 at *
  generalize b.s = s2 at *
  go_enter Tryd.func15, Tryd.ntmps15
  go_wp2_with fail
  refine (vawake_any w2 hT2).mono ?_
  rintro e w3 ⟨rfl, hx3⟩
  have ha3 := hx3.blk0 ha
  have hb3 := hx3.blk0 hb
  have hT3 := hT2.ext0 hx3
  have hxx := hx2.grow hx3
  clear hx2 hx3 ha hb hT2 hw2
  obtain ⟨a0, a1, a2⟩ := cells3 ha3
  obtain ⟨b0, b1, b2⟩ := cells3 hb3
  by_cases hn : 50 < n
  · have hd : decide (50 < (n : Int)) = true := by simp; omega
    clear h hn
    go_wp2_with fail
    refine (vawake_any w3 hT3).mono ?_
    rintro e w5 ⟨rfl, hx5⟩
    go_wp2
    go_ret
    exact ⟨rfl, hxx.grow hx5⟩
  · have hd : decide (50 < (n : Int)) = false := by simp; omega
    replace h := h.resolve_left hn
    clear hn
    go_wp2_with fail
    refine (cR1 _).mono ?_
    rintro e w4 ⟨rfl, hx4⟩
    have hb4 := hx4.blk0 hb3
    have hT4 := hT3.ext0 hx4
    have hx4' := hxx.grow hx4
    clear a0 a1 a2 b0 b1 b2 ha3 hb3 hx4 hxx hT3
    obtain ⟨b0, b1, b2⟩ := cells3 hb4
    cases ra
    · clear h
      go_wp2_with fail
      refine (vawake_any w4 hT4).mono ?_
      rintro e w5 ⟨rfl, hx5⟩
      go_wp2
      go_ret
      exact ⟨rfl, hx4'.grow hx5⟩
    · obtain rfl : rb = false := h.resolve_left (by simp)
      go_wp2_with fail
      refine (cR2 _).mono ?_
      rintro e w5 ⟨rfl, hx5⟩
      have hT5 := hT4.ext0 hx5
      go_wp2_with fail
      refine (vawake_any w5 hT5).mono ?_
      rintro e w6 ⟨rfl, hx6⟩
      go_wp2
      go_ret
      exact ⟨rfl, (hx4'.grow hx5).grow hx6⟩

theorem vorders_all (w : World) (hT : Nums w) (a b : Vl) (hn : -9223372036854775808 ≤ a.n ∧ a.n ≤ 9223372036854775807) (hm : -9223372036854775808 ≤ b.n ∧ b.n ≤ 9223372036854775807) (ar : Option Addr) (zr : List Int) (br off cr : Nat) (hR : RR w ar zr br off) (_hz : ∀ z ∈ zr, -2147483648 ≤ z ∧ z ≤ 2147483647) :
    Calls Tryd.prog 15 #[a.val, b.val, .slice ar zr.length cr] w fun e w' => e = .returned (.bool true) ∧ Ext none_ w w' := by
  by_cases h : 50 < zr.length
  · exact vorders_long w hT a b _ _ ar cr rfl (.inl h)
  · cases ha : a.right
    · exact vorders_long w hT a b _ _ ar cr rfl (.inr (.inl ha))
    · cases hb : b.right
      · exact vorders_long w hT a b _ _ ar cr rfl (.inr (.inr hb))
      · exact vorders_any w hT a b ha hb hn hm ar zr br off cr hR (by omega)

end Go.Proofs.YtocjidlbjmghdaaDoor
