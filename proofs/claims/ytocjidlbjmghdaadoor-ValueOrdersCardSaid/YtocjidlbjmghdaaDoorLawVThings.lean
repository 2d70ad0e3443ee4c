/- The walk of ValueThings. -/
import Derived.Test.YtocjidlbjmghdaaDoorVBroke
namespace Go.Proofs.YtocjidlbjmghdaaDoor
open Go.RowKit Go.Cw

/-- two values laid down -/
theorem vbox2 (w : World) (a b : Vl) : ∃ w3, (w.alloc (.cells #[.int .i64 a.k, .int .i64 a.n, .string a.s] 49)).alloc (.cells #[.int .i64 b.k, .int .i64 b.n, .string b.s] 49) = w3 ∧ Ext none_ w w3 ∧
    w3.heap[w.heap.size]? = some (.cells #[.int .i64 a.k, .int .i64 a.n, .string a.s] 49 (0, 0)) ∧ w3.heap[w.heap.size + 1]? = some (.cells #[.int .i64 b.k, .int .i64 b.n, .string b.s] 49 (0, 0)) := by
  have h1 := blk_new w (.cells #[.int .i64 a.k, .int .i64 a.n, .string a.s] 49)
  have x1 := Ext.alloc w (.cells #[.int .i64 a.k, .int .i64 a.n, .string a.s] 49)
  have s1 : (w.alloc (.cells #[.int .i64 a.k, .int .i64 a.n, .string a.s] 49)).heap.size = w.heap.size + 1 := by simp
  generalize w.alloc (.cells #[.int .i64 a.k, .int .i64 a.n, .string a.s] 49) = w1 at *
  have h2 := blk_new w1 (.cells #[.int .i64 b.k, .int .i64 b.n, .string b.s] 49)
  have x2 := Ext.alloc w1 (.cells #[.int .i64 b.k, .int .i64 b.n, .string b.s] 49)
  refine ⟨_, rfl, x1.grow x2, x2.blk0 h1, ?_⟩
  rw [s1] at h2; exact h2

theorem right0 (w : World) : Calls Tryd.prog 43 #[.slice none 0 0] w fun e w' => e = .returned (.bool true) ∧ Ext none_ w w' :=
  vright_any w none [] 0 0 0 ⟨fun h => by simp at h, fun j x hj => by simp at hj⟩ (by simp)
theorem right1 (w : World) (v : Vl) : Calls Tryd.prog 43 #[.slice (some ⟨w.heap.size, 0, none⟩) 1 1] (w.alloc (.cells #[.int .i64 v.k, .int .i64 v.n, .string v.s] 49)) fun e w' => e = .returned (.bool v.right) ∧ Ext none_ (w.alloc (.cells #[.int .i64 v.k, .int .i64 v.n, .string v.s] 49)) w' := by
  have h := vright_any (w.alloc (.cells #[.int .i64 v.k, .int .i64 v.n, .string v.s] 49)) (some ⟨w.heap.size, 0, none⟩) [v] w.heap.size 0 1 ⟨fun _ => rfl, fun j x hj => by
    match j, hj with
    | 0, hj =>
      obtain rfl : v = x := by simpa using hj
      exact cells3 (blk_new w _)
    | j + 1, hj => simp at hj⟩ (by simp)
  rw [show [v].all Vl.right = v.right by simp] at h
  exact h
theorem right2 (w : World) (v u : Vl) : Calls Tryd.prog 43 #[.slice (some ⟨w.heap.size, 0, none⟩) 2 2] (w.alloc (.cells #[.int .i64 v.k, .int .i64 v.n, .string v.s, .int .i64 u.k, .int .i64 u.n, .string u.s] 49)) fun e w' => e = .returned (.bool (v.right && u.right)) ∧ Ext none_ (w.alloc (.cells #[.int .i64 v.k, .int .i64 v.n, .string v.s, .int .i64 u.k, .int .i64 u.n, .string u.s] 49)) w' := by
  have hb := blk_new w (.cells #[.int .i64 v.k, .int .i64 v.n, .string v.s, .int .i64 u.k, .int .i64 u.n, .string u.s] 49)
  have h := vright_any (w.alloc (.cells #[.int .i64 v.k, .int .i64 v.n, .string v.s, .int .i64 u.k, .int .i64 u.n, .string u.s] 49)) (some ⟨w.heap.size, 0, none⟩) [v, u] w.heap.size 0 2 ⟨fun _ => rfl, fun j x hj => by
    rw [cell_of hb, cell_of hb, cell_of hb]
    match j, hj with
    | 0, hj =>
      obtain rfl : v = x := by simpa using hj
      exact ⟨rfl, rfl, rfl⟩
    | 1, hj =>
      obtain rfl : u = x := by simpa using hj
      exact ⟨rfl, rfl, rfl⟩
    | j + 2, hj => simp at hj⟩ (by simp)
  rw [show [v, u].all Vl.right = (v.right && u.right) by simp] at h
  exact h

set_option maxHeartbeats 8000000 in
set_option maxRecDepth 100000 in
theorem vthings_N (w : World) (hT : Nums w) (n : Int) (u : Vl) : Calls Tryd.prog 13 #[(⟨1, n, ⟨#[]⟩⟩ : Vl).val, u.val] w fun e w' => e = .returned (.bool true) ∧ Ext none_ w w' := by
  have hr1 : Vl.right (⟨1, n, ⟨#[]⟩⟩ : Vl) = true := by unfold Vl.right; exact decide_eq_true (.inl ⟨rfl, rfl⟩)
  have hth : Vl.thing (⟨1, n, ⟨#[]⟩⟩ : Vl) = .iface 3 (.int .i64 n) := by unfold Vl.thing; rw [if_pos (show Vl.isN _ from ⟨rfl, rfl⟩)]
  have cR1 := fun w : World => vrref_any w (⟨1, n, ⟨#[]⟩⟩ : Vl)
  have cR2 := fun w : World => vrref_any w u
  have cT := fun w : World => Thing_any w (⟨1, n, ⟨#[]⟩⟩ : Vl)
  have c1 := fun w : World => right1 w (⟨1, n, ⟨#[]⟩⟩ : Vl)
  have c2 := fun w : World => right2 w (⟨1, n, ⟨#[]⟩⟩ : Vl) u
  have c0 := fun w : World => right0 w
  have cn := fun w : World => broke_n_ok w ⟨1, n, ⟨#[]⟩⟩ ⟨rfl, rfl⟩
  have cs := fun w : World => broke_s_bad w ⟨1, n, ⟨#[]⟩⟩ (.inl ⟨rfl, rfl⟩)
  have t33 := ta33
  have t93 := ta93
  have t39 := ta39
  have t99 := ta99
  rw [hth] at cT
  simp only [hr1] at cR1 cT c1 c2
  obtain ⟨w2, hw2, hx2, ha, hb⟩ := vbox2 w (⟨1, n, ⟨#[]⟩⟩ : Vl) u
  have hT2 := hT.ext0 hx2
  clear hT hr1 hth
  generalize u.right = ub at *
  unfold Vl.val at *
  simp only at *
  generalize u.k = k2 at *
  generalize u.n = n2 at *
  generalize u.s = s2 at *
  go_enter Tryd.func13, Tryd.ntmps13
  go_wp2_with fail
  refine (vawake_any w2 hT2).mono ?_
  rintro e w3 ⟨rfl, hx3⟩
  have ha3 := hx3.blk0 ha
  have hb3 := hx3.blk0 hb
  have hxx := hx2.grow hx3
  clear hx2 hx3 ha hb hT2 hw2
  obtain ⟨a0, a1, a2⟩ := cells3 ha3
  obtain ⟨b0, b1, b2⟩ := cells3 hb3
  go_wp2_with fail
  have hF := Ext.drew w3
  have e0 := fun i : Fam (fun w' => Ext none_ w3 w') => cell_ext0 i.h a0
  have e1 := fun i : Fam (fun w' => Ext none_ w3 w') => cell_ext0 i.h a1
  have e2 := fun i : Fam (fun w' => Ext none_ w3 w') => cell_ext0 i.h a2
  have f0 := fun i : Fam (fun w' => Ext none_ w3 w') => cell_ext0 i.h b0
  have f1 := fun i : Fam (fun w' => Ext none_ w3 w') => cell_ext0 i.h b1
  have f2 := fun i : Fam (fun w' => Ext none_ w3 w') => cell_ext0 i.h b2
  refine wp_region_hoistT (fun w' => Ext none_ w3 w') 6 [0, 2] 4 mixedV (by kernel_rfl) hF ?_
  simp only [List.filterMap_cons, List.filterMap_nil, List.getElem?_cons_zero, List.getElem?_cons_succ]
  have hnn := Fam.ne hF
  generalize w3.drew = w4 at *
  repeat (refine wpV_step (fun K hK => ?_); go_simp; refine hK _ ?_; clear hK K)
  refine wpV_nil ?_
  clear e0 e1 e2 f0 f1 f2
  refine wpAnyC_step [1] (by kernel_rfl) (by simp) ?_
  intro j hj
  simp only [List.mem_cons, List.not_mem_nil, or_false] at hj
  subst hj
  refine ⟨_, rfl, ?_⟩
  go_wp2_with fail
  refine (cR1 _).mono ?_
  rintro e w5 ⟨rfl, hx5⟩
  have hF5 := hF.grow hx5
  clear hF hx5
  go_wp2_with fail
  refine ⟨.inr hF5, ?_⟩
  refine wpAnyC_step [3] (by kernel_rfl) (by simp) ?_
  intro j hj
  simp only [List.mem_cons, List.not_mem_nil, or_false] at hj
  subst hj
  refine ⟨_, rfl, ?_⟩
  go_wp2_with fail
  refine (cR2 _).mono ?_
  rintro e w6 ⟨rfl, hx6⟩
  have hF6 := hF5.grow hx6
  clear hF5 hx6
  go_wp2_with fail
  refine ⟨.inr hF6, ?_⟩
  refine wpAnyC_again [4, 5] 0 (by kernel_rfl) hF6 ?_
  simp only [List.filterMap_cons, List.filterMap_nil, List.getElem?_toArray, List.getElem?_cons_zero, List.getElem?_cons_succ]
  repeat (refine wpV_step (fun K hK => ?_); go_simp; refine hK _ ?_; clear hK K)
  refine wpV_nil ?_
  refine wpAnyC_end (by kernel_rfl) ?_
  clear hnn cR1 cR2 a0 a1 a2 b0 b1 b2
  have ha6 := hF6.blk0 ha3
  have hb6 := hF6.blk0 hb3
  have hx6 := hxx.grow hF6
  clear ha3 hb3 hxx hF6
  obtain ⟨a0, a1, a2⟩ := cells3 ha6
  obtain ⟨b0, b1, b2⟩ := cells3 hb6
  go_wp2_with fail
  refine (cT _).mono ?_
  rintro e w7 ⟨rfl, hx7⟩
  have ha7 := hx7.blk0 ha6
  have hb7 := hx7.blk0 hb6
  have hx7' := hx6.grow hx7
  clear ha6 hb6 hx6 hx7 a0 a1 a2 b0 b1 b2 cT
  obtain ⟨a0, a1, a2⟩ := cells3 ha7
  obtain ⟨b0, b1, b2⟩ := cells3 hb7
  go_wp2_with fail
  refine (c1 _).mono ?_
  rintro e w8 ⟨rfl, hx8⟩
  have hx8a := (Ext.alloc w7 (.cells #[.int .i64 1, .int .i64 n, .string ⟨#[]⟩] 49)).grow hx8
  have ha8 := hx8a.blk0 ha7
  have hb8 := hx8a.blk0 hb7
  have hx8' := hx7'.grow hx8a
  clear ha7 hb7 hx7' hx8 hx8a a0 a1 a2 b0 b1 b2 c1
  obtain ⟨a0, a1, a2⟩ := cells3 ha8
  obtain ⟨b0, b1, b2⟩ := cells3 hb8
  go_wp2_with fail
  refine (c2 _).mono ?_
  rintro e w9 ⟨rfl, hx9⟩
  have hx9a := (Ext.alloc w8 (.cells #[.int .i64 1, .int .i64 n, .string ⟨#[]⟩, .int .i64 k2, .int .i64 n2, .string s2] 49)).grow hx9
  have ha9 := hx9a.blk0 ha8
  have hx9' := hx8'.grow hx9a
  clear ha8 hb8 hx8' hx9 hx9a a0 a1 a2 b0 b1 b2 c2
  obtain ⟨a0, a1, a2⟩ := cells3 ha9
  go_wp2_with fail
  refine (c0 _).mono ?_
  rintro e w10 ⟨rfl, hx10⟩
  have ha10 := hx10.blk0 ha9
  have hx10' := hx9'.grow hx10
  clear ha9 hx9' hx10 a0 a1 a2 c0
  obtain ⟨a0, a1, a2⟩ := cells3 ha10
  go_wp2_with fail
  refine (cn _).mono ?_
  rintro e w11 ⟨rfl, hx11⟩
  have ha11 := hx11.blk0 ha10
  have hx11' := hx10'.grow hx11
  clear ha10 hx10' hx11 a0 a1 a2 cn
  obtain ⟨a0, a1, a2⟩ := cells3 ha11
  go_wp2_with fail
  refine (cs _).mono ?_
  rintro e w12 ⟨rfl, hx12⟩
  have ha12 := hx12.blk0 ha11
  have hx12' := hx11'.grow hx12
  clear ha11 hx11' hx12 a0 a1 a2 cs
  obtain ⟨a0, a1, a2⟩ := cells3 ha12
  go_wp2_with fail
  go_ret
  exact ⟨rfl, hx12'⟩


set_option maxHeartbeats 8000000 in
set_option maxRecDepth 100000 in
theorem vthings_T (w : World) (hT : Nums w) (s : ByteArray) (hs : s.size ≤ 200) (u : Vl) : Calls Tryd.prog 13 #[(⟨2, 0, s⟩ : Vl).val, u.val] w fun e w' => e = .returned (.bool true) ∧ Ext none_ w w' := by
  have notN : ¬ Vl.isN ⟨2, 0, s⟩ := fun h => by have := h.1; simp only at this; omega
  have hr1 : Vl.right (⟨2, 0, s⟩ : Vl) = true := by unfold Vl.right; exact decide_eq_true (.inr ⟨rfl, rfl, hs⟩)
  have hth : Vl.thing (⟨2, 0, s⟩ : Vl) = .iface 9 (.string s) := by unfold Vl.thing; rw [if_neg notN, if_pos (show Vl.isT _ from ⟨rfl, rfl, hs⟩)]
  have cR1 := fun w : World => vrref_any w (⟨2, 0, s⟩ : Vl)
  have cR2 := fun w : World => vrref_any w u
  have cT := fun w : World => Thing_any w (⟨2, 0, s⟩ : Vl)
  have c1 := fun w : World => right1 w (⟨2, 0, s⟩ : Vl)
  have c2 := fun w : World => right2 w (⟨2, 0, s⟩ : Vl) u
  have c0 := fun w : World => right0 w
  have cn := fun w : World => broke_n_bad w ⟨2, 0, s⟩ notN
  have cs := fun w : World => broke_s_ok w ⟨2, 0, s⟩ notN ⟨rfl, rfl, hs⟩
  have t33 := ta33
  have t93 := ta93
  have t39 := ta39
  have t99 := ta99
  rw [hth] at cT
  simp only [hr1] at cR1 cT c1 c2
  obtain ⟨w2, hw2, hx2, ha, hb⟩ := vbox2 w (⟨2, 0, s⟩ : Vl) u
  have hT2 := hT.ext0 hx2
  clear hT hr1 hth notN hs
  generalize u.right = ub at *
  unfold Vl.val at *
  simp only at *
  generalize u.k = k2 at *
  generalize u.n = n2 at *
  generalize u.s = s2 at *
  go_enter Tryd.func13, Tryd.ntmps13
  go_wp2_with fail
  refine (vawake_any w2 hT2).mono ?_
  rintro e w3 ⟨rfl, hx3⟩
  have ha3 := hx3.blk0 ha
  have hb3 := hx3.blk0 hb
  have hxx := hx2.grow hx3
  clear hx2 hx3 ha hb hT2 hw2
  obtain ⟨a0, a1, a2⟩ := cells3 ha3
  obtain ⟨b0, b1, b2⟩ := cells3 hb3
  go_wp2_with fail
  have hF := Ext.drew w3
  have e0 := fun i : Fam (fun w' => Ext none_ w3 w') => cell_ext0 i.h a0
  have e1 := fun i : Fam (fun w' => Ext none_ w3 w') => cell_ext0 i.h a1
  have e2 := fun i : Fam (fun w' => Ext none_ w3 w') => cell_ext0 i.h a2
  have f0 := fun i : Fam (fun w' => Ext none_ w3 w') => cell_ext0 i.h b0
  have f1 := fun i : Fam (fun w' => Ext none_ w3 w') => cell_ext0 i.h b1
  have f2 := fun i : Fam (fun w' => Ext none_ w3 w') => cell_ext0 i.h b2
  refine wp_region_hoistT (fun w' => Ext none_ w3 w') 6 [0, 2] 4 mixedV (by kernel_rfl) hF ?_
  simp only [List.filterMap_cons, List.filterMap_nil, List.getElem?_cons_zero, List.getElem?_cons_succ]
  have hnn := Fam.ne hF
  generalize w3.drew = w4 at *
  repeat (refine wpV_step (fun K hK => ?_); go_simp; refine hK _ ?_; clear hK K)
  refine wpV_nil ?_
  clear e0 e1 e2 f0 f1 f2
  refine wpAnyC_step [1] (by kernel_rfl) (by simp) ?_
  intro j hj
  simp only [List.mem_cons, List.not_mem_nil, or_false] at hj
  subst hj
  refine ⟨_, rfl, ?_⟩
  go_wp2_with fail
  refine (cR1 _).mono ?_
  rintro e w5 ⟨rfl, hx5⟩
  have hF5 := hF.grow hx5
  clear hF hx5
  go_wp2_with fail
  refine ⟨.inr hF5, ?_⟩
  refine wpAnyC_step [3] (by kernel_rfl) (by simp) ?_
  intro j hj
  simp only [List.mem_cons, List.not_mem_nil, or_false] at hj
  subst hj
  refine ⟨_, rfl, ?_⟩
  go_wp2_with fail
  refine (cR2 _).mono ?_
  rintro e w6 ⟨rfl, hx6⟩
  have hF6 := hF5.grow hx6
  clear hF5 hx6
  go_wp2_with fail
  refine ⟨.inr hF6, ?_⟩
  refine wpAnyC_again [4, 5] 0 (by kernel_rfl) hF6 ?_
  simp only [List.filterMap_cons, List.filterMap_nil, List.getElem?_toArray, List.getElem?_cons_zero, List.getElem?_cons_succ]
  repeat (refine wpV_step (fun K hK => ?_); go_simp; refine hK _ ?_; clear hK K)
  refine wpV_nil ?_
  refine wpAnyC_end (by kernel_rfl) ?_
  clear hnn cR1 cR2 a0 a1 a2 b0 b1 b2
  have ha6 := hF6.blk0 ha3
  have hb6 := hF6.blk0 hb3
  have hx6 := hxx.grow hF6
  clear ha3 hb3 hxx hF6
  obtain ⟨a0, a1, a2⟩ := cells3 ha6
  obtain ⟨b0, b1, b2⟩ := cells3 hb6
  go_wp2_with fail
  refine (cT _).mono ?_
  rintro e w7 ⟨rfl, hx7⟩
  have ha7 := hx7.blk0 ha6
  have hb7 := hx7.blk0 hb6
  have hx7' := hx6.grow hx7
  clear ha6 hb6 hx6 hx7 a0 a1 a2 b0 b1 b2 cT
  obtain ⟨a0, a1, a2⟩ := cells3 ha7
  obtain ⟨b0, b1, b2⟩ := cells3 hb7
  go_wp2_with fail
  refine (c1 _).mono ?_
  rintro e w8 ⟨rfl, hx8⟩
  have hx8a := (Ext.alloc w7 (.cells #[.int .i64 2, .int .i64 0, .string s] 49)).grow hx8
  have ha8 := hx8a.blk0 ha7
  have hb8 := hx8a.blk0 hb7
  have hx8' := hx7'.grow hx8a
  clear ha7 hb7 hx7' hx8 hx8a a0 a1 a2 b0 b1 b2 c1
  obtain ⟨a0, a1, a2⟩ := cells3 ha8
  obtain ⟨b0, b1, b2⟩ := cells3 hb8
  go_wp2_with fail
  refine (c2 _).mono ?_
  rintro e w9 ⟨rfl, hx9⟩
  have hx9a := (Ext.alloc w8 (.cells #[.int .i64 2, .int .i64 0, .string s, .int .i64 k2, .int .i64 n2, .string s2] 49)).grow hx9
  have ha9 := hx9a.blk0 ha8
  have hx9' := hx8'.grow hx9a
  clear ha8 hb8 hx8' hx9 hx9a a0 a1 a2 b0 b1 b2 c2
  obtain ⟨a0, a1, a2⟩ := cells3 ha9
  go_wp2_with fail
  refine (c0 _).mono ?_
  rintro e w10 ⟨rfl, hx10⟩
  have ha10 := hx10.blk0 ha9
  have hx10' := hx9'.grow hx10
  clear ha9 hx9' hx10 a0 a1 a2 c0
  obtain ⟨a0, a1, a2⟩ := cells3 ha10
  go_wp2_with fail
  refine (cn _).mono ?_
  rintro e w11 ⟨rfl, hx11⟩
  have ha11 := hx11.blk0 ha10
  have hx11' := hx10'.grow hx11
  clear ha10 hx10' hx11 a0 a1 a2 cn
  obtain ⟨a0, a1, a2⟩ := cells3 ha11
  go_wp2_with fail
  refine (cs _).mono ?_
  rintro e w12 ⟨rfl, hx12⟩
  have ha12 := hx12.blk0 ha11
  have hx12' := hx11'.grow hx12
  clear ha11 hx11' hx12 a0 a1 a2 cs
  obtain ⟨a0, a1, a2⟩ := cells3 ha12
  go_wp2_with fail
  go_ret
  exact ⟨rfl, hx12'⟩


set_option maxHeartbeats 8000000 in
set_option maxRecDepth 100000 in
theorem vthings_O (w : World) (hT : Nums w) (k n : Int) (s : ByteArray) (hn : ¬ Vl.isN ⟨k, n, s⟩) (ht : ¬ Vl.isT ⟨k, n, s⟩) (u : Vl) : Calls Tryd.prog 13 #[(⟨k, n, s⟩ : Vl).val, u.val] w fun e w' => e = .returned (.bool true) ∧ Ext none_ w w' := by
  have hr1 : Vl.right (⟨k, n, s⟩ : Vl) = false := by unfold Vl.right; exact decide_eq_false (fun h => h.elim hn ht)
  have hth : Vl.thing (⟨k, n, s⟩ : Vl) = .nilIface := by unfold Vl.thing; rw [if_neg hn, if_neg ht]
  have cR1 := fun w : World => vrref_any w (⟨k, n, s⟩ : Vl)
  have cR2 := fun w : World => vrref_any w u
  have cT := fun w : World => Thing_any w (⟨k, n, s⟩ : Vl)
  have c1 := fun w : World => right1 w (⟨k, n, s⟩ : Vl)
  have c2 := fun w : World => right2 w (⟨k, n, s⟩ : Vl) u
  have c0 := fun w : World => right0 w
  have cn := fun w : World => broke_n_bad w ⟨k, n, s⟩ hn
  have cs := fun w : World => broke_s_bad w ⟨k, n, s⟩ (.inr ht)
  have t33 := ta33
  have t93 := ta93
  have t39 := ta39
  have t99 := ta99
  rw [hth] at cT
  simp only [hr1] at cR1 cT c1 c2
  obtain ⟨w2, hw2, hx2, ha, hb⟩ := vbox2 w (⟨k, n, s⟩ : Vl) u
  have hT2 := hT.ext0 hx2
  clear hT hr1 hth hn ht
  generalize u.right = ub at *
  unfold Vl.val at *
  simp only at *
  generalize u.k = k2 at *
  generalize u.n = n2 at *
  generalize u.s = s2 at *
  go_enter Tryd.func13, Tryd.ntmps13
  go_wp2_with fail
  refine (vawake_any w2 hT2).mono ?_
  rintro e w3 ⟨rfl, hx3⟩
  have ha3 := hx3.blk0 ha
  have hb3 := hx3.blk0 hb
  have hxx := hx2.grow hx3
  clear hx2 hx3 ha hb hT2 hw2
  obtain ⟨a0, a1, a2⟩ := cells3 ha3
  obtain ⟨b0, b1, b2⟩ := cells3 hb3
  go_wp2_with fail
  have hF := Ext.drew w3
  have e0 := fun i : Fam (fun w' => Ext none_ w3 w') => cell_ext0 i.h a0
  have e1 := fun i : Fam (fun w' => Ext none_ w3 w') => cell_ext0 i.h a1
  have e2 := fun i : Fam (fun w' => Ext none_ w3 w') => cell_ext0 i.h a2
  have f0 := fun i : Fam (fun w' => Ext none_ w3 w') => cell_ext0 i.h b0
  have f1 := fun i : Fam (fun w' => Ext none_ w3 w') => cell_ext0 i.h b1
  have f2 := fun i : Fam (fun w' => Ext none_ w3 w') => cell_ext0 i.h b2
  refine wp_region_hoistT (fun w' => Ext none_ w3 w') 6 [0, 2] 4 mixedV (by kernel_rfl) hF ?_
  simp only [List.filterMap_cons, List.filterMap_nil, List.getElem?_cons_zero, List.getElem?_cons_succ]
  have hnn := Fam.ne hF
  generalize w3.drew = w4 at *
  repeat (refine wpV_step (fun K hK => ?_); go_simp; refine hK _ ?_; clear hK K)
  refine wpV_nil ?_
  clear e0 e1 e2 f0 f1 f2
  refine wpAnyC_step [1] (by kernel_rfl) (by simp) ?_
  intro j hj
  simp only [List.mem_cons, List.not_mem_nil, or_false] at hj
  subst hj
  refine ⟨_, rfl, ?_⟩
  go_wp2_with fail
  refine (cR1 _).mono ?_
  rintro e w5 ⟨rfl, hx5⟩
  have hF5 := hF.grow hx5
  clear hF hx5
  go_wp2_with fail
  refine ⟨.inr hF5, ?_⟩
  refine wpAnyC_step [3] (by kernel_rfl) (by simp) ?_
  intro j hj
  simp only [List.mem_cons, List.not_mem_nil, or_false] at hj
  subst hj
  refine ⟨_, rfl, ?_⟩
  go_wp2_with fail
  refine (cR2 _).mono ?_
  rintro e w6 ⟨rfl, hx6⟩
  have hF6 := hF5.grow hx6
  clear hF5 hx6
  go_wp2_with fail
  refine ⟨.inr hF6, ?_⟩
  refine wpAnyC_again [4, 5] 0 (by kernel_rfl) hF6 ?_
  simp only [List.filterMap_cons, List.filterMap_nil, List.getElem?_toArray, List.getElem?_cons_zero, List.getElem?_cons_succ]
  repeat (refine wpV_step (fun K hK => ?_); go_simp; refine hK _ ?_; clear hK K)
  refine wpV_nil ?_
  refine wpAnyC_end (by kernel_rfl) ?_
  clear hnn cR1 cR2 a0 a1 a2 b0 b1 b2
  have ha6 := hF6.blk0 ha3
  have hb6 := hF6.blk0 hb3
  have hx6 := hxx.grow hF6
  clear ha3 hb3 hxx hF6
  obtain ⟨a0, a1, a2⟩ := cells3 ha6
  obtain ⟨b0, b1, b2⟩ := cells3 hb6
  go_wp2_with fail
  refine (cT _).mono ?_
  rintro e w7 ⟨rfl, hx7⟩
  have ha7 := hx7.blk0 ha6
  have hb7 := hx7.blk0 hb6
  have hx7' := hx6.grow hx7
  clear ha6 hb6 hx6 hx7 a0 a1 a2 b0 b1 b2 cT
  obtain ⟨a0, a1, a2⟩ := cells3 ha7
  obtain ⟨b0, b1, b2⟩ := cells3 hb7
  go_wp2_with fail
  refine (c1 _).mono ?_
  rintro e w8 ⟨rfl, hx8⟩
  have hx8a := (Ext.alloc w7 (.cells #[.int .i64 k, .int .i64 n, .string s] 49)).grow hx8
  have ha8 := hx8a.blk0 ha7
  have hb8 := hx8a.blk0 hb7
  have hx8' := hx7'.grow hx8a
  clear ha7 hb7 hx7' hx8 hx8a a0 a1 a2 b0 b1 b2 c1
  obtain ⟨a0, a1, a2⟩ := cells3 ha8
  obtain ⟨b0, b1, b2⟩ := cells3 hb8
  go_wp2_with fail
  refine (c2 _).mono ?_
  rintro e w9 ⟨rfl, hx9⟩
  have hx9a := (Ext.alloc w8 (.cells #[.int .i64 k, .int .i64 n, .string s, .int .i64 k2, .int .i64 n2, .string s2] 49)).grow hx9
  have ha9 := hx9a.blk0 ha8
  have hx9' := hx8'.grow hx9a
  clear ha8 hb8 hx8' hx9 hx9a a0 a1 a2 b0 b1 b2 c2
  obtain ⟨a0, a1, a2⟩ := cells3 ha9
  go_wp2_with fail
  refine (c0 _).mono ?_
  rintro e w10 ⟨rfl, hx10⟩
  have ha10 := hx10.blk0 ha9
  have hx10' := hx9'.grow hx10
  clear ha9 hx9' hx10 a0 a1 a2 c0
  obtain ⟨a0, a1, a2⟩ := cells3 ha10
  go_wp2_with fail
  refine (cn _).mono ?_
  rintro e w11 ⟨rfl, hx11⟩
  have ha11 := hx11.blk0 ha10
  have hx11' := hx10'.grow hx11
  clear ha10 hx10' hx11 a0 a1 a2 cn
  obtain ⟨a0, a1, a2⟩ := cells3 ha11
  go_wp2_with fail
  refine (cs _).mono ?_
  rintro e w12 ⟨rfl, hx12⟩
  have ha12 := hx12.blk0 ha11
  have hx12' := hx11'.grow hx12
  clear ha11 hx11' hx12 a0 a1 a2 cs
  obtain ⟨a0, a1, a2⟩ := cells3 ha12
  go_wp2_with fail
  go_ret
  exact ⟨rfl, hx12'⟩


theorem vthings_all (w : World) (hT : Nums w) (v u : Vl) : Calls Tryd.prog 13 #[v.val, u.val] w fun e w' => e = .returned (.bool true) ∧ Ext none_ w w' := by
  by_cases hn : v.isN
  · obtain ⟨k, n, s⟩ := v
    obtain ⟨h1, h2⟩ := hn
    simp only at h1 h2
    subst h1
    obtain rfl : s = ⟨#[]⟩ := by
      obtain ⟨⟨l⟩⟩ := s
      have : l.length = 0 := h2
      rw [List.length_eq_zero_iff] at this
      rw [this]
    exact vthings_N w hT n u
  · by_cases ht : v.isT
    · obtain ⟨k, n, s⟩ := v
      obtain ⟨h1, h2, h3⟩ := ht
      simp only at h1 h2 h3
      subst h1 h2
      exact vthings_T w hT s h3 u
    · exact vthings_O w hT v.k v.n v.s hn ht u

end Go.Proofs.YtocjidlbjmghdaaDoor
