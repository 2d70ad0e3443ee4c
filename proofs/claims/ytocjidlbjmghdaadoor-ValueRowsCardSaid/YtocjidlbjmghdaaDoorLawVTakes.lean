/- The walk of ValueTakes. -/
import Derived.Test.YtocjidlbjmghdaaDoorVEq
import Derived.Test.YtocjidlbjmghdaaDoorVRTake2
import Derived.Test.YtocjidlbjmghdaaDoorVRBytes
namespace Go.Proofs.YtocjidlbjmghdaaDoor
open Go.RowKit Go.Cw

attribute [-go_sem] Go.run_equalIn_agg

theorem UOwn.lit0 (w : World) : UOwn (w.alloc (.cells #[] 5)) w.heap.size (.slice (some ⟨w.heap.size, 0, none⟩) 0 0) [] := UOwn.lit w [] (by simp)
theorem UOwn.read_cap {w : World} {base : Nat} {v : Value} {bs : List UInt8} (h : UOwn w base v bs) : ∃ a c b, v = .slice a bs.length c ∧ UR w a bs b 0 ∧ bs.length ≤ c := by
  obtain ⟨a, c, b, rfl, hU, hc, _⟩ := h.read0
  exact ⟨a, c, b, rfl, hU, hc⟩
theorem bytes_len (v : Vl) (h : v.right = true) : v.bytes.length ≤ 1000 := by
  unfold Vl.bytes
  split
  · rw [numB_len]; omega
  · rename_i h1
    have h2 := ((of_decide_eq_true h).resolve_left h1).2.2
    rw [strB_eq, List.length_cons, List.length_append]
    have h3 := enc0_len v.s.data.toList
    rw [show v.s.data.toList.length = v.s.size from Array.length_toList] at h3
    show _ + 2 + 1 ≤ 1000
    omega

set_option maxHeartbeats 8000000 in
set_option maxRecDepth 100000 in
theorem vtakes_any (w : World) (hT : Nums w) (v : Vl) (hr : v.right = true) (hn : -9223372036854775808 ≤ v.n ∧ v.n ≤ 9223372036854775807) (hs : v.s.size ≤ 1000)
    (p : Option Addr) (bs : List UInt8) (b off c : Nat) (h : UR w p bs b off) (hc : bs.length ≤ c) (hp : p = none → c = 0) (hl : bs.length ≤ 1000) :
    Calls Tryd.prog 16 #[v.val, .slice p bs.length c] w fun e w' => e = .returned (.bool true) ∧ Ext none_ w w' := by
  have cR := fun w : World => vrref_any w v
  rw [hr] at cR
  have cB := fun w : World => bytesR_any w v hn hr
  have cC := fun w : World => rbytes_any w v hn hr
  have q3 := fun w : World => eq49 w v v
  have Htb : Hid (takeP (v.bytes ++ bs) = (v, v.bytes.length, 0)) := Lib.hid (take_bytes hr hn bs)
  have hbl := bytes_len v hr
  have cK := fun (w : World) (p : Option Addr) (b off c : Nat) (h : UR w p bs b off) (hc : bs.length ≤ c) => take_any w p bs b off c h hc (by omega)
  have cM := fun (w : World) (p : Option Addr) (b off c : Nat) (h : UR w p bs b off) => rtake_any w p bs b off c h (by omega)
  obtain ⟨Y, hY⟩ : ∃ Y, Y = v.bytes ++ bs := ⟨_, rfl⟩
  have cY := fun (w : World) (p : Option Addr) (b off c : Nat) (h : UR w p Y b off) (hc : Y.length ≤ c) => take_any w p Y b off c h hc (by rw [hY, List.length_append]; omega)
  rw [hY, Htb.out, ← hY] at cY
  have HY := Lib.hid hY
  clear hY Htb
  unfold tkV at cK cM cY
  generalize takeP bs = R at *
  obtain ⟨⟨rk, rn, rs⟩, rat, rerr⟩ := R
  have q2 := fun (w : World) => eq49 w ⟨rk, rn, rs⟩ ⟨rk, rn, rs⟩
  simp only [decide_true] at q2
  obtain ⟨S1, hS1⟩ : ∃ S : ByteArray, S = ⟨v.bytes.toArray⟩ := ⟨_, rfl⟩
  have HS1 := Lib.hid hS1
  clear hS1
  simp only [decide_true] at q3
  have hx1 := Ext.alloc w (.cells #[.int .i64 v.k, .int .i64 v.n, .string v.s] 49)
  have ha1 := blk_new w (.cells #[.int .i64 v.k, .int .i64 v.n, .string v.s] 49)
  have hT1 := hT.ext0 hx1
  have h1 := h.ext0 hx1
  have hd1 : decide (1000 < (bs.length : Int)) = false := decide_eq_false (by omega)
  have hd2 : decide (1000 < (v.s.size : Int)) = false := decide_eq_false (by omega)
  clear hT h hr hs
  generalize v.bytes = xb at *
  unfold Vl.val at *
  generalize v.s = s1 at *
  generalize v.k = k1 at *
  generalize v.n = n1 at *
  go_enter Tryd.func16, Tryd.ntmps16
  go_wp2_with fail
  generalize w.alloc (.cells #[.int .i64 k1, .int .i64 n1, .string s1] 49) = w1 at *
  refine (vawake_any w1 hT1).mono ?_
  rintro e w2 ⟨rfl, hx2⟩
  have ha2 := hx2.blk0 ha1
  have hT2 := hT1.ext0 hx2
  have h2 := h1.ext0 hx2
  have hx2' := hx1.grow hx2
  clear ha1 hT1 h1 hx1 hx2
  obtain ⟨a0, a1, a2⟩ := cells3 ha2
  have hlit := UOwn.lit0 w2
  have hb5 : w2.heap.size ≤ (w2.alloc (.cells #[] 5)).heap.size := by simp
  have hx3 := Ext.alloc w2 (.cells #[] 5)
  have ha3 := hx3.blk0 ha2
  have hT3 := hT2.ext0 hx3
  have h3 := h2.ext0 hx3
  have hx3' := hx2'.grow hx3
  go_wp2_with (refine app_bytes rfl _ _ rfl w2.heap.size _ [] bs hlit rfl p b off c rfl hc h3 hp (by simp; omega) hb5 ?_)
  intro v6 w4 hown4 hy4
  have hx4 : Ext none_ w2 w4 := hx3.trans hy4 fun i hi hb => by have := (hlit.lt i hb).1; omega
  have hx4' := hx2'.grow hx4
  have ha4 := hx4.blk0 ha2
  have hT4 := hT2.ext0 hx4
  have h4 := h2.ext0 hx4
  clear hx3 hy4 hlit hb5 hx4 ha3 hT3 h3 hx3' ha2 hT2 h2 hx2' a0 a1 a2
  obtain ⟨p1, z1, g1, rfl, hU4, hz1⟩ := hown4.read_cap
  obtain ⟨a0, a1, a2⟩ := cells3 ha4
  go_wp2_with fail
  refine (cK _ p1 g1 0 z1 hU4 hz1).mono ?_
  rintro e w5 ⟨rfl, hx5⟩
  have ha5 := hx5.blk0 ha4
  have hT5 := hT4.ext0 hx5
  have h5 := h4.ext0 hx5
  have hx5' := hx4'.grow hx5
  clear ha4 hT4 h4 hx4' hx5 cK hown4 hU4 a0 a1 a2
  obtain ⟨a0, a1, a2⟩ := cells3 ha5
  have Hlt := Lib.hid (blk_lt ha5)
  have hx6 := Ext.alloc w5 (.cells #[.int .i64 rk, .int .i64 rn, .string rs] 49)
  have hx_6 := blk_new w5 (.cells #[.int .i64 rk, .int .i64 rn, .string rs] 49)
  have ha6 := hx6.blk0 ha5
  have hT6 := hT5.ext0 hx6
  have h6 := h5.ext0 hx6
  have hx6' := hx5'.grow hx6
  go_wp2_with fail
  clear ha5 hT5 h5 hx5' hx6 a0 a1 a2
  generalize w5.alloc (.cells #[.int .i64 rk, .int .i64 rn, .string rs] 49) = w6 at *
  obtain ⟨a0, a1, a2⟩ := cells3 ha6
  refine (cM _ p b off c h6).mono ?_
  rintro e w7 ⟨rfl, hx7⟩
  have ha7 := hx7.blk0 ha6
  have hT7 := hT6.ext0 hx7
  have h7 := h6.ext0 hx7
  have hx_7 := hx7.blk0 hx_6
  have hx7' := hx6'.grow hx7
  clear ha6 hT6 h6 hx_6 hx6' hx7 cM a0 a1 a2
  obtain ⟨a0, a1, a2⟩ := cells3 ha7
  have hx8 := Ext.alloc w7 (.cells #[.int .i64 rk, .int .i64 rn, .string rs] 49)
  have hy_8 := blk_new w7 (.cells #[.int .i64 rk, .int .i64 rn, .string rs] 49)
  have ha8 := hx8.blk0 ha7
  have hT8 := hT7.ext0 hx8
  have h8 := h7.ext0 hx8
  have hx_8 := hx8.blk0 hx_7
  have hx8' := hx7'.grow hx8
  obtain ⟨x0, x1, x2⟩ := cells3 hx_8
  obtain ⟨y0, y1, y2⟩ := cells3 hy_8
  obtain ⟨e0, e1, e2⟩ := cells3 ha8
  go_wp2_with fail
  clear ha7 hT7 h7 hx_7 hx7' hx8 a0 a1 a2 x0 x1 x2 y0 y1 y2
  generalize w7.alloc (.cells #[.int .i64 rk, .int .i64 rn, .string rs] 49) = w8 at *
  obtain ⟨a0, a1, a2⟩ := cells3 ha8
  obtain ⟨x0, x1, x2⟩ := cells3 hx_8
  obtain ⟨y0, y1, y2⟩ := cells3 hy_8
  refine (cB _).mono ?_
  rintro e w9 ⟨r1, rfl, hO_9, hx9⟩
  have ha9 := hx9.blk0 ha8
  have hT9 := hT8.ext0 hx9
  have h9 := h8.ext0 hx9
  have hx_9 := hx9.blk0 hx_8
  have hx9' := hx8'.grow hx9
  clear ha8 hT8 h8 hx_8 hx8' hx9 cB a0 a1 a2 x0 x1 x2
  obtain ⟨a0, a1, a2⟩ := cells3 ha9
  obtain ⟨x0, x1, x2⟩ := cells3 hx_9
  go_wp2_with fail
  refine (cR _).mono ?_
  rintro e w10 ⟨rfl, hx10⟩
  have ha10 := hx10.blk0 ha9
  have hT10 := hT9.ext0 hx10
  have h10 := h9.ext0 hx10
  have hx_10 := hx10.blk0 hx_9
  have hO_10 := hO_9.ext0 hx10
  have hx10' := hx9'.grow hx10
  clear ha9 hT9 h9 hx_9 hO_9 hx9' hx10 cR a0 a1 a2 x0 x1 x2
  obtain ⟨a0, a1, a2⟩ := cells3 ha10
  obtain ⟨x0, x1, x2⟩ := cells3 hx_10
  obtain ⟨p2, z2, g2, rfl, hU10, hz2, hp2⟩ := hO_10.read0
  go_wp2_with fail
  have hF := Ext.drew w10
  have A0 := fun i : Fam (fun w' => Ext none_ w10 w') => cell_ext0 i.h a0
  have A1 := fun i : Fam (fun w' => Ext none_ w10 w') => cell_ext0 i.h a1
  have A2 := fun i : Fam (fun w' => Ext none_ w10 w') => cell_ext0 i.h a2
  have V1 : ∀ i : Fam (fun w' => Ext none_ w10 w'), (convert 51 9 (.slice p2 xb.length z2)).run Tryd.prog i.w = .ok (.string S1) i.w := fun i => by rw [HS1.out]; exact conv_bytes i.w p2 xb g2 0 z2 (hU10.ext0 i.h)
  clear a0 a1 a2 x0 x1 x2
  refine wp_region_hoistT (fun w' => Ext none_ w10 w') 10 [0, 1, 2, 3, 4, 5] 4 mixedV (by kernel_rfl) hF ?_
  simp only [List.filterMap_cons, List.filterMap_nil, List.getElem?_cons_zero, List.getElem?_cons_succ]
  have hnn := Fam.ne hF
  generalize w10.drew = v11 at *
  repeat (refine wpV_step (fun K hK => ?_); go_simp; refine hK _ ?_; clear hK K)
  refine wpV_nil ?_
  refine wpAnyC_step [6] (by kernel_rfl) (by simp) ?_
  intro j hj
  simp only [List.mem_cons, List.not_mem_nil, or_false] at hj
  subst hj
  refine ⟨_, rfl, ?_⟩
  go_wp2_with fail
  refine (cC _).mono ?_
  rintro e w11 ⟨r2, rfl, hO2, hy⟩
  replace hF := hF.grow hy
  clear hy
  obtain ⟨p3, z3, g3, rfl, hU3, hz3, hp3⟩ := hO2.read0
  have V2 : (convert 51 9 (.slice p3 xb.length z3)).run Tryd.prog w11 = .ok (.string S1) w11 := by rw [HS1.out]; exact conv_bytes w11 p3 xb g3 0 z3 hU3
  have hx11 := hF
  clear hO2 hU3 hnn A0 A1 A2 V1
  go_wp2_with fail
  try refine ⟨.inr hF, ?_⟩
  refine wpAnyC_step [7] (by kernel_rfl) (by simp) ?_
  intro j hj
  simp only [List.mem_cons, List.not_mem_nil, or_false] at hj
  subst hj
  refine ⟨_, rfl, ?_⟩
  go_wp2_with fail
  try refine ⟨.inr hF, ?_⟩
  refine wpAnyC_step [8] (by kernel_rfl) (by simp) ?_
  intro j hj
  simp only [List.mem_cons, List.not_mem_nil, or_false] at hj
  subst hj
  refine ⟨_, rfl, ?_⟩
  go_wp2_with fail
  try refine ⟨.inr hF, ?_⟩
  refine wpAnyC_step [9] (by kernel_rfl) (by simp) ?_
  intro j hj
  simp only [List.mem_cons, List.not_mem_nil, or_false] at hj
  subst hj
  refine ⟨_, rfl, ?_⟩
  go_wp2_with fail
  try refine ⟨.inr hF, ?_⟩
  refine wpAnyC_end (by kernel_rfl) ?_
  clear hF V2
  have ha11 := hx11.blk0 ha10
  have hT11 := hT10.ext0 hx11
  have h11 := h10.ext0 hx11
  have hx_11 := hx11.blk0 hx_10
  have hO_11 := hO_10.ext0 hx11
  have hU11 := hU10.ext0 hx11
  have hx11' := hx10'.grow hx11
  clear hU10 hx11 hx10' ha10 hT10 h10 hx_10 hO_10
  have hlit := UOwn.lit0 w11
  have hb5 : w11.heap.size ≤ (w11.alloc (.cells #[] 5)).heap.size := by simp
  have hx12 := Ext.alloc w11 (.cells #[] 5)
  have hU12 := hU11.ext0 hx12
  have h12 := h11.ext0 hx12
  go_wp2_with (refine app_bytes rfl _ _ rfl w11.heap.size _ [] xb hlit rfl p2 g2 0 z2 rfl hz2 hU12 hp2 (by simp; omega) hb5 ?_)
  intro v13 w13 hown13 hy13
  have hx13 : Ext none_ w11 w13 := hx12.trans hy13 fun i hi hb => by have := (hlit.lt i hb).1; omega
  have h13 := h11.ext0 hx13
  clear hlit hb5 hx12 hU12 h12 hy13
  have hb6 : w11.heap.size ≤ w13.heap.size := hx13.size
  go_wp2_with (refine app_bytes rfl _ _ rfl w11.heap.size _ xb bs hown13 rfl p b off c rfl hc h13 hp (by omega) hb6 ?_)
  intro v14 w14 hown14 hy14
  have hx14 := hx13.trans hy14 fun i hi hb => by have := (hown13.lt i hb).1; omega
  rw [← HY.out] at hown14
  have ha14 := hx14.blk0 ha11
  have hx_14 := hx14.blk0 hx_11
  have hx14' := hx11'.grow hx14
  clear hy14 hown13 hx13 h13 hb6 hx14 ha11 hx_11 hx11' hT11 h11 hO_11 hU11
  obtain ⟨p4, z4, g4, rfl, hU14, hz4⟩ := hown14.read_cap
  go_wp2_with fail
  refine (cY _ p4 g4 0 z4 hU14 hz4).mono ?_
  rintro e w15 ⟨rfl, hx15⟩
  have ha15 := hx15.blk0 ha14
  have hx_15 := hx15.blk0 hx_14
  have hx15' := hx14'.grow hx15
  clear hown14 hU14 ha14 hx_14 hx14' hx15 cY
  obtain ⟨a0, a1, a2⟩ := cells3 ha15
  obtain ⟨x0, x1, x2⟩ := cells3 hx_15
  have hz := frozen_of hx_15
  have hset := setV_ext w15 w5.heap.size ⟨k1, n1, s1⟩
  have hxf := setV_blk hx_15 ⟨k1, n1, s1⟩
  have haf := hset.blk ha15 (show ¬ w.heap.size = w5.heap.size by have := Hlt.out; omega)
  have hxx := hx15'.trans hset fun i hi e => by have h2 : i = w5.heap.size := e; have := Hlt.out; omega
  clear hset
  unfold setV at hxf haf hxx
  simp only at hxf haf hxx
  obtain ⟨f0, f1, f2⟩ := cells3 hxf
  obtain ⟨g0, g1, g2⟩ := cells3 haf
  go_wp2_with fail
  go_ret
  exact ⟨rfl, hxx⟩

set_option maxHeartbeats 8000000 in
set_option maxRecDepth 100000 in
theorem vtakes_bad (w : World) (hT : Nums w) (v : Vl) (hr : v.right = false) (hs : v.s.size ≤ 1000)
    (p : Option Addr) (bs : List UInt8) (b off c : Nat) (h : UR w p bs b off) (hc : bs.length ≤ c) (hp : p = none → c = 0) (hl : bs.length ≤ 1000) :
    Calls Tryd.prog 16 #[v.val, .slice p bs.length c] w fun e w' => e = .returned (.bool true) ∧ Ext none_ w w' := by
  have cR := fun w : World => vrref_any w v
  rw [hr] at cR
  have cB := fun w : World => bytes0_any w v hr
  have cK := fun (w : World) (p : Option Addr) (b off c : Nat) (h : UR w p bs b off) (hc : bs.length ≤ c) => take_any w p bs b off c h hc (by omega)
  have cM := fun (w : World) (p : Option Addr) (b off c : Nat) (h : UR w p bs b off) => rtake_any w p bs b off c h (by omega)
  unfold tkV at cK cM
  generalize takeP bs = R at *
  obtain ⟨⟨rk, rn, rs⟩, rat, rerr⟩ := R
  have q2 := fun (w : World) => eq49 w ⟨rk, rn, rs⟩ ⟨rk, rn, rs⟩
  simp only [decide_true] at q2
  have hx1 := Ext.alloc w (.cells #[.int .i64 v.k, .int .i64 v.n, .string v.s] 49)
  have ha1 := blk_new w (.cells #[.int .i64 v.k, .int .i64 v.n, .string v.s] 49)
  have hT1 := hT.ext0 hx1
  have h1 := h.ext0 hx1
  have hd1 : decide (1000 < (bs.length : Int)) = false := decide_eq_false (by omega)
  have hd2 : decide (1000 < (v.s.size : Int)) = false := decide_eq_false (by omega)
  clear hT h hr hs
  unfold Vl.val at *
  generalize v.s = s1 at *
  generalize v.k = k1 at *
  generalize v.n = n1 at *
  go_enter Tryd.func16, Tryd.ntmps16
  go_wp2_with fail
  generalize w.alloc (.cells #[.int .i64 k1, .int .i64 n1, .string s1] 49) = w1 at *
  refine (vawake_any w1 hT1).mono ?_
  rintro e w2 ⟨rfl, hx2⟩
  have ha2 := hx2.blk0 ha1
  have hT2 := hT1.ext0 hx2
  have h2 := h1.ext0 hx2
  have hx2' := hx1.grow hx2
  clear ha1 hT1 h1 hx1 hx2
  obtain ⟨a0, a1, a2⟩ := cells3 ha2
  have hlit := UOwn.lit0 w2
  have hb5 : w2.heap.size ≤ (w2.alloc (.cells #[] 5)).heap.size := by simp
  have hx3 := Ext.alloc w2 (.cells #[] 5)
  have ha3 := hx3.blk0 ha2
  have hT3 := hT2.ext0 hx3
  have h3 := h2.ext0 hx3
  have hx3' := hx2'.grow hx3
  go_wp2_with (refine app_bytes rfl _ _ rfl w2.heap.size _ [] bs hlit rfl p b off c rfl hc h3 hp (by simp; omega) hb5 ?_)
  intro v6 w4 hown4 hy4
  have hx4 : Ext none_ w2 w4 := hx3.trans hy4 fun i hi hb => by have := (hlit.lt i hb).1; omega
  have hx4' := hx2'.grow hx4
  have ha4 := hx4.blk0 ha2
  have hT4 := hT2.ext0 hx4
  have h4 := h2.ext0 hx4
  clear hx3 hy4 hlit hb5 hx4 ha3 hT3 h3 hx3' ha2 hT2 h2 hx2' a0 a1 a2
  obtain ⟨p1, z1, g1, rfl, hU4, hz1⟩ := hown4.read_cap
  obtain ⟨a0, a1, a2⟩ := cells3 ha4
  go_wp2_with fail
  refine (cK _ p1 g1 0 z1 hU4 hz1).mono ?_
  rintro e w5 ⟨rfl, hx5⟩
  have ha5 := hx5.blk0 ha4
  have hT5 := hT4.ext0 hx5
  have h5 := h4.ext0 hx5
  have hx5' := hx4'.grow hx5
  clear ha4 hT4 h4 hx4' hx5 cK hown4 hU4 a0 a1 a2
  obtain ⟨a0, a1, a2⟩ := cells3 ha5
  have hx6 := Ext.alloc w5 (.cells #[.int .i64 rk, .int .i64 rn, .string rs] 49)
  have hx_6 := blk_new w5 (.cells #[.int .i64 rk, .int .i64 rn, .string rs] 49)
  have ha6 := hx6.blk0 ha5
  have hT6 := hT5.ext0 hx6
  have h6 := h5.ext0 hx6
  have hx6' := hx5'.grow hx6
  go_wp2_with fail
  clear ha5 hT5 h5 hx5' hx6 a0 a1 a2
  generalize w5.alloc (.cells #[.int .i64 rk, .int .i64 rn, .string rs] 49) = w6 at *
  obtain ⟨a0, a1, a2⟩ := cells3 ha6
  refine (cM _ p b off c h6).mono ?_
  rintro e w7 ⟨rfl, hx7⟩
  have ha7 := hx7.blk0 ha6
  have hT7 := hT6.ext0 hx7
  have h7 := h6.ext0 hx7
  have hx_7 := hx7.blk0 hx_6
  have hx7' := hx6'.grow hx7
  clear ha6 hT6 h6 hx_6 hx6' hx7 cM a0 a1 a2
  obtain ⟨a0, a1, a2⟩ := cells3 ha7
  have hx8 := Ext.alloc w7 (.cells #[.int .i64 rk, .int .i64 rn, .string rs] 49)
  have hy_8 := blk_new w7 (.cells #[.int .i64 rk, .int .i64 rn, .string rs] 49)
  have ha8 := hx8.blk0 ha7
  have hT8 := hT7.ext0 hx8
  have h8 := h7.ext0 hx8
  have hx_8 := hx8.blk0 hx_7
  have hx8' := hx7'.grow hx8
  obtain ⟨x0, x1, x2⟩ := cells3 hx_8
  obtain ⟨y0, y1, y2⟩ := cells3 hy_8
  obtain ⟨e0, e1, e2⟩ := cells3 ha8
  go_wp2_with fail
  clear ha7 hT7 h7 hx_7 hx7' hx8 a0 a1 a2 x0 x1 x2 y0 y1 y2
  generalize w7.alloc (.cells #[.int .i64 rk, .int .i64 rn, .string rs] 49) = w8 at *
  obtain ⟨a0, a1, a2⟩ := cells3 ha8
  obtain ⟨x0, x1, x2⟩ := cells3 hx_8
  obtain ⟨y0, y1, y2⟩ := cells3 hy_8
  refine (cB _).mono ?_
  rintro e w9 ⟨rfl, hx9⟩
  have ha9 := hx9.blk0 ha8
  have hx9' := hx8'.grow hx9
  clear ha8 hx8' hx9 cB x0 x1 x2 a0 a1 a2
  obtain ⟨a0, a1, a2⟩ := cells3 ha9
  go_wp2_with fail
  refine (cR _).mono ?_
  rintro e w10 ⟨rfl, hx10⟩
  go_wp2_with fail
  go_ret
  exact ⟨rfl, hx9'.grow hx10⟩

set_option maxHeartbeats 4000000 in
set_option maxRecDepth 100000 in
theorem vtakes_long (w : World) (hT : Nums w) (v : Vl) (p : Option Addr) (n c : Nat) (h : 1000 < n ∨ 1000 < v.s.size) :
    Calls Tryd.prog 16 #[v.val, .slice p n c] w fun e w' => e = .returned (.bool true) ∧ Ext none_ w w' := by
  have hx1 := Ext.alloc w (.cells #[.int .i64 v.k, .int .i64 v.n, .string v.s] 49)
  have ha1 := blk_new w (.cells #[.int .i64 v.k, .int .i64 v.n, .string v.s] 49)
  have hT1 := hT.ext0 hx1
  clear hT
  unfold Vl.val at *
  generalize v.s = s1 at *
  generalize v.k = k1 at *
  generalize v.n = n1 at *
  go_enter Tryd.func16, Tryd.ntmps16
  go_wp2_with fail
  generalize w.alloc (.cells #[.int .i64 k1, .int .i64 n1, .string s1] 49) = w1 at *
  refine (vawake_any w1 hT1).mono ?_
  rintro e w2 ⟨rfl, hx2⟩
  have hT2 := hT1.ext0 hx2
  have ha2 := hx2.blk0 ha1
  have hx2' := hx1.grow hx2
  clear ha1 hT1 hx1 hx2
  obtain ⟨a0, a1, a2⟩ := cells3 ha2
  by_cases hn : 1000 < n
  · have hd1 : decide (1000 < (n : Int)) = true := decide_eq_true (by omega)
    clear h hn
    go_wp2_with fail
    refine (vawake_any w2 hT2).mono ?_
    rintro e w3 ⟨rfl, hx3⟩
    go_wp2_with fail
    go_ret
    exact ⟨rfl, hx2'.grow hx3⟩
  · have hd1 : decide (1000 < (n : Int)) = false := decide_eq_false (by omega)
    have hd2 : decide (1000 < (s1.size : Int)) = true := decide_eq_true (by have := h.resolve_left hn; omega)
    clear h hn
    go_wp2_with fail
    refine (vawake_any w2 hT2).mono ?_
    rintro e w3 ⟨rfl, hx3⟩
    go_wp2_with fail
    go_ret
    exact ⟨rfl, hx2'.grow hx3⟩

theorem vtakes_all (w : World) (hT : Nums w) (v : Vl) (hn : -9223372036854775808 ≤ v.n ∧ v.n ≤ 9223372036854775807)
    (p : Option Addr) (bs : List UInt8) (b off c : Nat) (h : UR w p bs b off) (hc : bs.length ≤ c) (hp : p = none → c = 0) :
    Calls Tryd.prog 16 #[v.val, .slice p bs.length c] w fun e w' => e = .returned (.bool true) ∧ Ext none_ w w' := by
  by_cases hl : 1000 < bs.length ∨ 1000 < v.s.size
  · exact vtakes_long w hT v p bs.length c hl
  · cases hr : v.right
    · exact vtakes_bad w hT v hr (by omega) p bs b off c h hc hp (by omega)
    · exact vtakes_any w hT v hr hn (by omega) p bs b off c h hc hp (by omega)

end Go.Proofs.YtocjidlbjmghdaaDoor
