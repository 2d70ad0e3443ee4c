/- The walk of the value laws' awake. -/
import Derived.Test.YtocjidlbjmghdaaDoorVPrint
namespace Go.Proofs.YtocjidlbjmghdaaDoor
open Go.RowKit Go.Cw

theorem ta33f (v : Value) (w : World) : (Instr.typeAssert (.iface 3 v) 20 3 false).run Tryd.prog w = .ok v w := by
  simp [Instr.typeAssert, run_underlying Tryd.underlying3]
set_option maxHeartbeats 2000000 in
theorem number_any (w : World) (v : Vl) (hv : v.isN) : Calls Tryd.prog 67 #[v.val] w fun e w' => e = .returned (.int .i64 v.n) ∧ Ext none_ w w' := by
  have ht := thing_any (w.alloc (.cells #[.int .i64 v.k, .int .i64 v.n, .string v.s] 49)) v
  rw [show v.thing = .iface 3 (.int .i64 v.n) by unfold Vl.thing; rw [if_pos hv]] at ht
  obtain ⟨hx1, c0, c1, c2⟩ := vbox w v.k v.n v.s
  unfold Vl.val at ht ⊢
  clear hv
  generalize v.k = k at *
  generalize v.n = n at *
  generalize v.s = s at *
  have t33 := ta33f
  go_enter Tryd.func67, Tryd.ntmps67
  go_wp2_with fail
  refine ht.mono ?_
  rintro e w2 ⟨rfl, hx2⟩
  clear ht
  go_wp2
  go_ret
  exact ⟨rfl, hx1.grow hx2⟩

theorem lit1 : numB 1 = [1, 128, 0, 0, 0, 0, 0, 0, 1] := by kernel_rfl
theorem lit2 : strB ⟨#[97]⟩ = [2, 97, 0, 0] := by kernel_rfl
theorem lit3 : readP ⟨#[45, 48]⟩ = none := by kernel_rfl
theorem lit4 : Vl.print ⟨1, -5, ⟨#[]⟩⟩ = [45, 53] := by kernel_rfl
theorem lit5 : Vl.print ⟨2, 0, ⟨#[97]⟩⟩ = [34, 97, 34] := by kernel_rfl

set_option maxHeartbeats 8000000 in
set_option maxRecDepth 100000 in
theorem vawake_any (w : World) (hT : Nums w) : Calls Tryd.prog 37 #[] w fun e w' => e = .returned (.bool true) ∧ Ext none_ w w' := by
  have cB1 := fun w : World => bytesN_any w ⟨1, 1, ⟨#[]⟩⟩ (by simp only; omega) ⟨rfl, rfl⟩
  have cB2 := fun w : World => bytesT_any w ⟨2, 0, ⟨#[97]⟩⟩ (fun h => by have := h.1; simp only at this; omega) ⟨rfl, rfl, by decide⟩
  have cR := fun (w : World) (h : Nums w) => read_any w ⟨#[45, 48]⟩ (by decide) h
  have cP1 := fun (w : World) (h : Nums w) => print_any w ⟨1, -5, ⟨#[]⟩⟩ (by simp only; omega) h
  have cP2 := fun (w : World) (h : Nums w) => print_any w ⟨2, 0, ⟨#[97]⟩⟩ (by simp only; omega) h
  have cN := fun w : World => number_any w ⟨1, 7, ⟨#[]⟩⟩ ⟨rfl, rfl⟩
  rw [lit3] at cR
  rw [lit4] at cP1
  rw [lit5] at cP2
  unfold readV at cR
  simp only [lit1] at cB1
  simp only [lit2] at cB2
  have n1 := fun w : World => num_any w 1
  have n5 := fun w : World => num_any w (-5)
  have n7 := fun w : World => num_any w 7
  have na := fun w : World => txt_any w ⟨#[97]⟩
  unfold Vl.val at *
  simp only at *
  go_enter Tryd.func37, Tryd.ntmps37
  go_wp2_with fail
  refine (n1 _).mono ?_
  rintro e w1 ⟨rfl, hx1⟩
  go_wp2_with fail
  refine (cB1 _).mono ?_
  rintro e w2 ⟨r1, rfl, hu1, hx2⟩
  go_wp2_with fail
  refine (na _).mono ?_
  rintro e w3 ⟨rfl, hx3⟩
  go_wp2_with fail
  refine (cB2 _).mono ?_
  rintro e w4 ⟨r2, rfl, hu2, hx4⟩
  obtain ⟨a1, q1, b1, rfl, hR1, _⟩ := hu1.read
  obtain ⟨a2, q2, b2, rfl, hR2, _⟩ := hu2.read
  have hx24 := (hx3.grow hx4)
  have hR1' := hR1.ext0 hx24
  have hx4' := (hx1.grow hx2).grow hx24
  clear hu1 hu2 hx1 hx2 hx3 hx4 hx24 hR1 cB1 cB2 n1
  go_wp2_with fail
  refine (cR _ (hT.ext0 hx4')).mono ?_
  rintro e w5 ⟨rfl, hx5⟩
  have hR1 := hR1'.ext0 hx5
  have hR2' := hR2.ext0 hx5
  have hx5' := hx4'.grow hx5
  clear hR1' hR2 hx4' hx5 cR
  have hx6 := Ext.alloc w5 (.cells #[.int .i64 0, .int .i64 0, .string ⟨#[]⟩] 49)
  have hcv1 := conv_bytes _ a1 _ b1 0 q1 (hR1.ext0 hx6)
  have hcv2 := conv_bytes _ a2 _ b2 0 q2 (hR2'.ext0 hx6)
  have hx6' := hx5'.grow hx6
  simp only [List.length_cons, List.length_nil, Nat.zero_add, Nat.reduceAdd] at hcv1 hcv2
  clear hR1 hR2' hx5' hx6
  go_wp2_with fail
  refine (n5 _).mono ?_
  rintro e w7 ⟨rfl, hx7⟩
  have hx7' := hx6'.grow hx7
  clear hcv1 hcv2 hx6' hx7
  go_wp2_with fail
  refine (cP1 _ (hT.ext0 hx7')).mono ?_
  rintro e w8 ⟨rfl, hx8⟩
  have hx8' := hx7'.grow hx8
  clear hx7' hx8 cP1
  go_wp2_with fail
  refine (na _).mono ?_
  rintro e w9 ⟨rfl, hx9⟩
  have hx9' := hx8'.grow hx9
  clear hx8' hx9
  go_wp2_with fail
  refine (cP2 _ (hT.ext0 hx9')).mono ?_
  rintro e w10 ⟨rfl, hx10⟩
  have hx10' := hx9'.grow hx10
  clear hx9' hx10 cP2
  go_wp2_with fail
  refine (n7 _).mono ?_
  rintro e w11 ⟨rfl, hx11⟩
  have hx11' := hx10'.grow hx11
  clear hx10' hx11
  go_wp2_with fail
  refine (cN _).mono ?_
  rintro e w12 ⟨rfl, hx12⟩
  have hx12' := hx11'.grow hx12
  clear hx11' hx12
  go_wp2
  go_ret
  exact ⟨rfl, hx12'⟩

end Go.Proofs.YtocjidlbjmghdaaDoor
