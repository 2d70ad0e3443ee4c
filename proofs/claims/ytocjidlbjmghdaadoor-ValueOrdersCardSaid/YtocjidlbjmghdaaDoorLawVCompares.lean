/- The walk of ValueCompares. -/
import Derived.Test.YtocjidlbjmghdaaDoorVAwake
namespace Go.Proofs.YtocjidlbjmghdaaDoor
open Go.RowKit Go.Cw

theorem vcmp_k {x y : Vl} (h : x.k ≠ y.k) : vcmp x y = if decide (x.k < y.k) then -1 else 1 := by
  unfold vcmp Vl.key
  show (if x.k < y.k then -1 else if y.k < x.k then 1 else _) = _
  by_cases h1 : x.k < y.k
  · rw [if_pos h1, if_pos (decide_eq_true h1)]
  · rw [if_neg h1, if_pos (by omega), if_neg (by simpa using h1)]
theorem vcmp_n {x y : Vl} (h : x.k = y.k) (h2 : x.n ≠ y.n) : vcmp x y = if decide (x.n < y.n) then -1 else 1 := by
  unfold vcmp Vl.key
  show (if x.k < y.k then -1 else if y.k < x.k then 1 else if x.n < y.n then -1 else if y.n < x.n then 1 else _) = _
  rw [if_neg (by omega), if_neg (by omega)]
  by_cases h1 : x.n < y.n
  · rw [if_pos h1, if_pos (decide_eq_true h1)]
  · rw [if_neg h1, if_pos (by omega), if_neg (by simpa using h1)]
theorem vcmp_s {x y : Vl} (h : x.k = y.k) (h2 : x.n = y.n) : vcmp x y = cmpP (bytesI x.s) (bytesI y.s) := by
  unfold vcmp Vl.key
  show (if x.k < y.k then -1 else if y.k < x.k then 1 else if x.n < y.n then -1 else if y.n < x.n then 1 else _) = _
  rw [if_neg (by omega), if_neg (by omega), if_neg (by omega), if_neg (by omega)]

set_option maxHeartbeats 4000000 in
theorem rvcompare_any (w : World) (x y : Vl) (hs : x.s.size ≤ maxLen) (hs' : y.s.size ≤ maxLen) : Calls Tryd.prog 46 #[x.val, y.val] w fun e w' => e = .returned (.int .i64 (vcmp x y)) ∧ Ext none_ w w' := by
  have Hk := Lib.hid (vcmp_k (x := x) (y := y))
  have Hn := Lib.hid (vcmp_n (x := x) (y := y))
  have Hs := Lib.hid (vcmp_s (x := x) (y := y))
  have ho := fun w : World => order_any w x.s y.s hs hs'
  obtain ⟨hx1, c0, c1, c2⟩ := vbox w x.k x.n x.s
  obtain ⟨hx2, d0, d1, d2⟩ := vbox (w.alloc (.cells #[.int .i64 x.k, .int .i64 x.n, .string x.s] 49)) y.k y.n y.s
  have hsz : (w.alloc (.cells #[.int .i64 x.k, .int .i64 x.n, .string x.s] 49)).heap.size = w.heap.size + 1 := by simp
  rw [hsz] at d0 d1 d2
  have c0' := cell_ext0 hx2 c0
  have c1' := cell_ext0 hx2 c1
  have c2' := cell_ext0 hx2 c2
  have hx2' := hx1.grow hx2
  clear hx1 hx2 hsz c0 c1 c2 hs hs'
  unfold Vl.val
  generalize vcmp x y = r at *
  generalize x.k = k at *
  generalize x.n = n at *
  generalize x.s = s at *
  generalize y.k = k' at *
  generalize y.n = n' at *
  generalize y.s = s' at *
  go_enter Tryd.func46, Tryd.ntmps46
  by_cases hk : k = k'
  · have hb : (k != k') = false := by simp [hk]
    by_cases hn : n = n'
    · have hb2 : (n != n') = false := by simp [hn]
      have Hr := Lib.hid (Hs.out hk hn)
      clear hk hn Hk Hn Hs
      go_wp2_with fail
      refine (ho _).mono ?_
      rintro e w3 ⟨rfl, hx3⟩
      rw [← Hr.out]
      go_wp2
      go_ret
      exact ⟨rfl, hx2'.grow hx3⟩
    · have hb2 : (n != n') = true := by simp [hn]
      have Hr := Lib.hid (Hn.out hk hn)
      clear hk hn Hk Hn Hs
      go_wp2_with fail
      refine (sign_any _ _).mono ?_
      rintro e w3 ⟨rfl, rfl⟩
      rw [← Hr.out]
      go_wp2
      go_ret
      exact ⟨rfl, hx2'⟩
  · have hb : (k != k') = true := by simp [hk]
    have Hr := Lib.hid (Hk.out hk)
    clear hk Hk Hn Hs
    go_wp2_with fail
    refine (sign_any _ _).mono ?_
    rintro e w3 ⟨rfl, rfl⟩
    rw [← Hr.out]
    go_wp2
    go_ret
    exact ⟨rfl, hx2'⟩

theorem vcmp_flip (a b : Vl) : vcmp b a = - vcmp a b := cmpP_flip _ _
theorem vcmp_refl (a : Vl) : vcmp a a = 0 := cmpP_refl _
theorem vcmp_range (a b : Vl) : vcmp a b = -1 ∨ vcmp a b = 0 ∨ vcmp a b = 1 := cmpP_range _ _
theorem vcmp_trans (a b c : Vl) (h1 : vcmp a b ≤ 0) (h2 : vcmp b c ≤ 0) : vcmp a c ≤ 0 := cmpP_trans _ _ _ h1 h2

/-- three values laid down -/
theorem vbox3 (w : World) (a b c : Vl) : ∃ w3, ((w.alloc (.cells #[.int .i64 a.k, .int .i64 a.n, .string a.s] 49)).alloc (.cells #[.int .i64 b.k, .int .i64 b.n, .string b.s] 49)).alloc (.cells #[.int .i64 c.k, .int .i64 c.n, .string c.s] 49) = w3 ∧ Ext none_ w w3 ∧
    w3.heap[w.heap.size]? = some (.cells #[.int .i64 a.k, .int .i64 a.n, .string a.s] 49 (0, 0)) ∧ w3.heap[w.heap.size + 1]? = some (.cells #[.int .i64 b.k, .int .i64 b.n, .string b.s] 49 (0, 0)) ∧ w3.heap[w.heap.size + 1 + 1]? = some (.cells #[.int .i64 c.k, .int .i64 c.n, .string c.s] 49 (0, 0)) := by
  have h1 := blk_new w (.cells #[.int .i64 a.k, .int .i64 a.n, .string a.s] 49)
  have x1 := Ext.alloc w (.cells #[.int .i64 a.k, .int .i64 a.n, .string a.s] 49)
  have s1 : (w.alloc (.cells #[.int .i64 a.k, .int .i64 a.n, .string a.s] 49)).heap.size = w.heap.size + 1 := by simp
  generalize w.alloc (.cells #[.int .i64 a.k, .int .i64 a.n, .string a.s] 49) = w1 at *
  have h2 := blk_new w1 (.cells #[.int .i64 b.k, .int .i64 b.n, .string b.s] 49)
  have x2 := Ext.alloc w1 (.cells #[.int .i64 b.k, .int .i64 b.n, .string b.s] 49)
  have s2 : (w1.alloc (.cells #[.int .i64 b.k, .int .i64 b.n, .string b.s] 49)).heap.size = w1.heap.size + 1 := by simp
  generalize w1.alloc (.cells #[.int .i64 b.k, .int .i64 b.n, .string b.s] 49) = w2 at *
  have h3 := blk_new w2 (.cells #[.int .i64 c.k, .int .i64 c.n, .string c.s] 49)
  have x3 := Ext.alloc w2 (.cells #[.int .i64 c.k, .int .i64 c.n, .string c.s] 49)
  refine ⟨_, rfl, (x1.grow x2).grow x3, x3.blk0 (x2.blk0 h1), ?_, ?_⟩
  · rw [s1] at h2; exact x3.blk0 h2
  · rw [s2, s1] at h3; exact h3

set_option maxHeartbeats 4000000 in
set_option maxRecDepth 100000 in
theorem vcompares_long (w : World) (hT : Nums w) (a b c : Vl) (h : 1000 < a.s.size ∨ 1000 < b.s.size ∨ 1000 < c.s.size) :
    Calls Tryd.prog 14 #[a.val, b.val, c.val] w fun e w' => e = .returned (.bool true) ∧ Ext none_ w w' := by
  obtain ⟨w3, hw3, hx3, ha, hb, hc⟩ := vbox3 w a b c
  have hT3 := hT.ext0 hx3
  clear hT
  unfold Vl.val
  generalize a.k = k1 at *
  generalize a.n = n1 at *
  generalize a.s = s1 at *
  generalize b.k = k2 at *
  generalize b.n = n2 at *
  generalize b.s = s2 at *
  generalize c.k = k3 at *
  generalize c.n = n3 at *
  generalize c.s = s3 at *
  go_enter Tryd.func14, Tryd.ntmps14
  go_wp2_with fail
  refine (vawake_any w3 hT3).mono ?_
  rintro e w4 ⟨rfl, hx4⟩
  have hT4 := hT3.ext0 hx4
  obtain ⟨a0, a1, a2⟩ := cells3 (hx4.blk0 ha)
  obtain ⟨b0, b1, b2⟩ := cells3 (hx4.blk0 hb)
  obtain ⟨c0, c1, c2⟩ := cells3 (hx4.blk0 hc)
  have hxx := hx3.grow hx4
  clear hx3 hx4 ha hb hc hT3
  by_cases h1 : 1000 < s1.size
  · have hd1 : decide (1000 < (s1.size : Int)) = true := by simp; omega
    clear h h1
    go_wp2_with fail
    refine (vawake_any w4 hT4).mono ?_
    rintro e w5 ⟨rfl, hx5⟩
    go_wp2
    go_ret
    exact ⟨rfl, hxx.grow hx5⟩
  · have hd1 : decide (1000 < (s1.size : Int)) = false := by simp; omega
    by_cases h2 : 1000 < s2.size
    · have hd2 : decide (1000 < (s2.size : Int)) = true := by simp; omega
      clear h h1 h2
      go_wp2_with fail
      refine (vawake_any w4 hT4).mono ?_
      rintro e w5 ⟨rfl, hx5⟩
      go_wp2
      go_ret
      exact ⟨rfl, hxx.grow hx5⟩
    · have hd2 : decide (1000 < (s2.size : Int)) = false := by simp; omega
      have hd3 : decide (1000 < (s3.size : Int)) = true := by simp; omega
      clear h h1 h2
      go_wp2_with fail
      refine (vawake_any w4 hT4).mono ?_
      rintro e w5 ⟨rfl, hx5⟩
      go_wp2
      go_ret
      exact ⟨rfl, hxx.grow hx5⟩

theorem toList_iff (s t : ByteArray) : s.toList = t.toList ↔ s = t := by
  rw [ByteArray.toList_eq, ByteArray.toList_eq]
  obtain ⟨⟨s⟩⟩ := s
  obtain ⟨⟨t⟩⟩ := t
  simp
theorem vl_ext (a b : Vl) : a = b ↔ a.k = b.k ∧ a.n = b.n ∧ a.s = b.s := by
  obtain ⟨k, n, s⟩ := a
  obtain ⟨k', n', s'⟩ := b
  simp

set_option maxHeartbeats 8000000 in
set_option maxRecDepth 100000 in
theorem vcompares_any (w : World) (hT : Nums w) (a b c : Vl) (h1 : a.s.size ≤ 1000) (h2 : b.s.size ≤ 1000) (h3 : c.s.size ≤ 1000) :
    Calls Tryd.prog 14 #[a.val, b.val, c.val] w fun e w' => e = .returned (.bool true) ∧ Ext none_ w w' := by
  obtain ⟨w3, hw3, hx3, ha, hb, hc⟩ := vbox3 w a b c
  have hT3 := hT.ext0 hx3
  clear hT
  have cab := fun w : World => vcompare_any w a b
  have cbc := fun w : World => vcompare_any w b c
  have cac := fun w : World => vcompare_any w a c
  have cba := fun w : World => vcompare_any w b a
  have caa := fun w : World => vcompare_any w a a
  have rab := fun w : World => rvcompare_any w a b (by unfold maxLen; omega) (by unfold maxLen; omega)
  simp only [vcmp_flip a b] at cba
  simp only [vcmp_refl] at caa
  have hrg := Lib.hid (vcmp_range a b)
  have htr := Lib.hid (vcmp_trans a b c)
  have heq := vcmp_eq a b
  rw [vl_ext] at heq
  have Heq := Lib.hid heq
  have hd1 : decide (1000 < (a.s.size : Int)) = false := by simp; omega
  have hd2 : decide (1000 < (b.s.size : Int)) = false := by simp; omega
  have hd3 : decide (1000 < (c.s.size : Int)) = false := by simp; omega
  clear h1 h2 h3 heq
  unfold Vl.val at *
  generalize vcmp a b = x1 at *
  generalize vcmp b c = x2 at *
  generalize vcmp a c = x3 at *
  generalize a.k = k1 at *
  generalize a.n = n1 at *
  generalize a.s = s1 at *
  generalize b.k = k2 at *
  generalize b.n = n2 at *
  generalize b.s = s2 at *
  generalize c.k = k3 at *
  generalize c.n = n3 at *
  generalize c.s = s3 at *
  go_enter Tryd.func14, Tryd.ntmps14
  go_wp2_with fail
  refine (vawake_any w3 hT3).mono ?_
  rintro e w4 ⟨rfl, hx4⟩
  obtain ⟨a0, a1, a2⟩ := cells3 (hx4.blk0 ha)
  obtain ⟨b0, b1, b2⟩ := cells3 (hx4.blk0 hb)
  obtain ⟨c0, c1, c2⟩ := cells3 (hx4.blk0 hc)
  have hxx := hx3.grow hx4
  clear hx3 hx4 ha hb hc hT3 hw3
  go_wp2_with fail
  clear hd1 hd2 hd3
  have hF := Ext.drew w4
  have e0 := fun i : Fam (fun w' => Ext none_ w4 w') => cell_ext0 i.h a0
  have e1 := fun i : Fam (fun w' => Ext none_ w4 w') => cell_ext0 i.h a1
  have e2 := fun i : Fam (fun w' => Ext none_ w4 w') => cell_ext0 i.h a2
  have f0 := fun i : Fam (fun w' => Ext none_ w4 w') => cell_ext0 i.h b0
  have f1 := fun i : Fam (fun w' => Ext none_ w4 w') => cell_ext0 i.h b1
  have f2 := fun i : Fam (fun w' => Ext none_ w4 w') => cell_ext0 i.h b2
  have g0 := fun i : Fam (fun w' => Ext none_ w4 w') => cell_ext0 i.h c0
  have g1 := fun i : Fam (fun w' => Ext none_ w4 w') => cell_ext0 i.h c1
  have g2 := fun i : Fam (fun w' => Ext none_ w4 w') => cell_ext0 i.h c2
  refine wp_region_hoistT (fun w' => Ext none_ w4 w') 12 [0, 1, 3, 4, 6, 7] 6 mixedV (by kernel_rfl) hF ?_
  simp only [List.filterMap_cons, List.filterMap_nil, List.getElem?_cons_zero, List.getElem?_cons_succ]
  have hnn := Fam.ne hF
  generalize w4.drew = w5 at *
  repeat (refine wpV_step (fun K hK => ?_); go_simp; refine hK _ ?_; clear hK K)
  refine wpV_nil ?_
  clear e0 e1 e2 f0 f1 f2 g0 g1 g2
  refine wpAnyC_step [2] (by kernel_rfl) (by simp) ?_
  intro j hj
  simp only [List.mem_cons, List.not_mem_nil, or_false] at hj
  subst hj
  refine ⟨_, rfl, ?_⟩
  go_wp2_with fail
  refine (cab _).mono ?_
  rintro e w6 ⟨rfl, hy6⟩
  have hF6 := hF.grow hy6
  clear hF hy6
  go_wp2_with fail
  refine ⟨.inr hF6, ?_⟩
  refine wpAnyC_step [5] (by kernel_rfl) (by simp) ?_
  intro j hj
  simp only [List.mem_cons, List.not_mem_nil, or_false] at hj
  subst hj
  refine ⟨_, rfl, ?_⟩
  go_wp2_with fail
  refine (cbc _).mono ?_
  rintro e w7 ⟨rfl, hy7⟩
  have hF7 := hF6.grow hy7
  clear hF6 hy7
  go_wp2_with fail
  refine ⟨.inr hF7, ?_⟩
  refine wpAnyC_step [8] (by kernel_rfl) (by simp) ?_
  intro j hj
  simp only [List.mem_cons, List.not_mem_nil, or_false] at hj
  subst hj
  refine ⟨_, rfl, ?_⟩
  go_wp2_with fail
  refine (cac _).mono ?_
  rintro e w8 ⟨rfl, hy8⟩
  have hF8 := hF7.grow hy8
  clear hF7 hy8
  go_wp2_with fail
  refine ⟨.inr hF8, ?_⟩
  refine wpAnyC_again [9, 10, 11] 0 (by kernel_rfl) hF8 ?_
  simp only [List.filterMap_cons, List.filterMap_nil, List.getElem?_toArray, List.getElem?_cons_zero, List.getElem?_cons_succ]
  repeat (refine wpV_step (fun K hK => ?_); go_simp; refine hK _ ?_; clear hK K)
  refine wpV_nil ?_
  refine wpAnyC_end (by kernel_rfl) ?_
  clear hnn cab cbc cac
  have e0 := cell_ext0 hF8 a0
  have e1 := cell_ext0 hF8 a1
  have e2 := cell_ext0 hF8 a2
  have f0 := cell_ext0 hF8 b0
  have f1 := cell_ext0 hF8 b1
  have f2 := cell_ext0 hF8 b2
  clear a0 a1 a2 b0 b1 b2 c0 c1 c2
  have hx8 := hxx.grow hF8
  clear hxx hF8
  have hneg : wrap64 (-x1) = -x1 := by have := hrg.out; unfold wrap64; omega
  go_wp2_with fail
  refine (rab _).mono ?_
  rintro e w9 ⟨rfl, hy⟩
  have e0' := cell_ext0 hy e0
  have e1' := cell_ext0 hy e1
  have e2' := cell_ext0 hy e2
  have f0' := cell_ext0 hy f0
  have f1' := cell_ext0 hy f1
  have f2' := cell_ext0 hy f2
  have hx9 := hx8.grow hy
  clear hx8 hy e0 e1 e2 f0 f1 f2 rab
  go_wp2_with fail
  refine (cba _).mono ?_
  rintro e w10 ⟨rfl, hy⟩
  have e0'' := cell_ext0 hy e0'
  have e1'' := cell_ext0 hy e1'
  have e2'' := cell_ext0 hy e2'
  have f0'' := cell_ext0 hy f0'
  have f1'' := cell_ext0 hy f1'
  have f2'' := cell_ext0 hy f2'
  have hx10 := hx9.grow hy
  clear hx9 hy e0' e1' e2' f0' f1' f2' cba
  go_wp2_with fail
  refine (caa _).mono ?_
  rintro e w11 ⟨rfl, hy⟩
  have e0''' := cell_ext0 hy e0''
  have e1''' := cell_ext0 hy e1''
  have e2''' := cell_ext0 hy e2''
  have f0''' := cell_ext0 hy f0''
  have f1''' := cell_ext0 hy f1''
  have f2''' := cell_ext0 hy f2''
  have hx11 := hx10.grow hy
  clear hx10 hy e0'' e1'' e2'' f0'' f1'' f2'' caa
  go_wp2_with fail
  all_goals go_ret
  all_goals refine ⟨ret_val (congrArg Value.bool (?_ : _ = true)), hx11⟩
  all_goals
    have hq := Heq.out
    have ht := htr.out
    rw [← toList_iff] at hq
    first
      | exact beq_iff_eq.2 (hq.2 ⟨by assumption, by assumption, by assumption⟩)
      | (rw [Bool.not_eq_true', beq_eq_false_iff_ne]
         intro hz
         obtain ⟨p, q, r⟩ := hq.1 hz
         first | exact absurd p (by assumption) | exact absurd q (by assumption) | exact absurd r (by assumption))
      | (exfalso; have := ht (by omega) (by omega); omega)

theorem vcompares_all (w : World) (hT : Nums w) (a b c : Vl) : Calls Tryd.prog 14 #[a.val, b.val, c.val] w fun e w' => e = .returned (.bool true) ∧ Ext none_ w w' := by
  by_cases h : 1000 < a.s.size ∨ 1000 < b.s.size ∨ 1000 < c.s.size
  · exact vcompares_long w hT a b c h
  · exact vcompares_any w hT a b c (by omega) (by omega) (by omega)

end Go.Proofs.YtocjidlbjmghdaaDoor
