/- The walk of ValueRows. -/
import Derived.Test.YtocjidlbjmghdaaDoorLawVTakes
import Derived.Test.YtocjidlbjmghdaaDoorHoistT
namespace Go.Proofs.YtocjidlbjmghdaaDoor
open Go.RowKit Go.Cw

attribute [-go_sem] Go.run_equalIn_agg

theorem elem51r : Tryd.prog.elem 51 = 5 := by kernel_rfl
theorem und51r : Tryd.prog.underlying 51 = some (.slice (Tryd.prog.elem 51)) := by kernel_rfl
/-- a row of bytes' rest -/
theorem tail_row (w : World) (a : Option Addr) (bs : List UInt8) (b off c K : Nat) (h : UR w a bs b off) (hc : bs.length ≤ c) (hK : K ≤ bs.length) :
    ∃ (a' : Option Addr) (c' off' : Nat), (∀ w, (Instr.slice 51 (.slice a bs.length c) (some (.int .i64 (K : Int))) none none).run Tryd.prog w = .ok (.slice a' (bs.drop K).length c') w) ∧ UR w a' (bs.drop K) b off' ∧ (bs.drop K).length ≤ c' := by
  have hl : (bs.drop K).length = bs.length - K := List.length_drop
  refine ⟨if c = K then a else a.map (·.add (K * 1)), c - K, off + K, fun w => ?_, ⟨fun hp => ?_, fun j x hj => ?_⟩, by omega⟩
  · rw [run_slice_l w 51 a bs.length c und51r .i64 K (by omega) (by omega), elem51r, Tryd.sizeOf5, hl]
    simp [Result.andThen, sliced, eq_comm]
  · have hb := h.addr (by omega)
    rw [hb, if_neg (by omega)]
    simp only [Option.map_some, Nat.mul_one, Option.some.injEq]
    unfold Addr.add
    split <;> simp_all
  · rw [List.getElem?_drop] at hj
    have := h.cell (K + j) x hj
    rw [← Nat.add_assoc] at this
    exact this

/-- the bytes, one behind the other -/
noncomputable def rowB (xs : List Vl) : List UInt8 := xs.flatMap Vl.bytes
theorem rowB_take {xs : List Vl} {j : Nat} {x : Vl} (h : xs[j]? = some x) : rowB (xs.take (j + 1)) = rowB (xs.take j) ++ x.bytes := by
  obtain ⟨hl, rfl⟩ := List.getElem?_eq_some_iff.1 h
  unfold rowB
  rw [List.take_succ_eq_append_getElem hl, List.flatMap_append]; simp
theorem rowB_drop {xs : List Vl} {j : Nat} {x : Vl} (h : xs[j]? = some x) : rowB (xs.drop j) = x.bytes ++ rowB (xs.drop (j + 1)) := by
  obtain ⟨hl, rfl⟩ := List.getElem?_eq_some_iff.1 h
  unfold rowB
  rw [List.drop_eq_getElem_cons hl, List.flatMap_cons]
theorem rowB_len : ∀ xs : List Vl, (∀ x ∈ xs, x.right = true) → (rowB xs).length ≤ 1000 * xs.length
  | [], _ => by simp [rowB]
  | x :: xs, h => by
    have ih := rowB_len xs fun y hy => h y (List.mem_cons_of_mem _ hy)
    have hx := bytes_len x (h x List.mem_cons_self)
    unfold rowB at ih ⊢
    rw [List.flatMap_cons, List.length_append, List.length_cons]
    omega
theorem bytes_pos (v : Vl) : 1 ≤ v.bytes.length := by
  unfold Vl.bytes
  split
  · rw [numB_len]; omega
  · rw [strB_eq, List.length_cons]; omega

set_option maxHeartbeats 8000000 in
set_option maxRecDepth 100000 in
theorem vrows_any (w : World) (hT : Nums w) (p : Option Addr) (xs : List Vl) (b off c : Nat) (h : VR w p xs b off) (hw : ∀ x ∈ xs, -9223372036854775808 ≤ x.n ∧ x.n ≤ 9223372036854775807) (hl : xs.length ≤ 30) :
    Calls Tryd.prog 17 #[.slice p xs.length c] w fun e w' => e = .returned (.bool true) ∧ Ext none_ w w' := by
  have hd1 : decide (30 < (xs.length : Int)) = false := decide_eq_false (by omega)
  have cW := vawake_any w hT
  go_enter Tryd.func17, Tryd.ntmps17
  go_wp2_with fail
  refine cW.mono ?_
  rintro e w2 ⟨rfl, hx2⟩
  have h2 := h.ext0 hx2
  clear cW hT h
  go_wp2_with fail
  go_loopw [3, 4] (fun q i wr => ∃ j : Nat, j ≤ xs.length ∧ i = .int .i64 j ∧ UOwn wr w2.heap.size q (rowB (xs.take j)) ∧ (∀ x ∈ xs.take j, x.right = true) ∧ Ext none_ w2 wr) (fun _ i _ => xs.length - (RowKit.intOf i).toNat)
  case atStart => exact ⟨0, by omega, rfl, UOwn.nil _ _, fun x hx => by simp at hx, Ext.refl _ _⟩
  case round =>
    obtain ⟨j, hj, rfl, hown, hri, hx⟩ := hrel
    by_cases hlt : j < xs.length
    · have hd : decide ((j : Int) < (xs.length : Int)) = true := decide_eq_true (by omega)
      obtain ⟨x, hx0⟩ : ∃ x, xs[j]? = some x := ⟨_, List.getElem?_eq_getElem hlt⟩
      have hxr := hw x (List.mem_of_getElem? hx0)
      have ha := h2.addr (by omega)
      subst ha
      obtain ⟨e0, e1, e2⟩ := h2.cell j x hx0
      have e0 := cell_ext0 hx e0
      have e1 := cell_ext0 hx e1
      have e2 := cell_ext0 hx e2
      have cR := fun w => vrref_any w x
      have cB := fun w h => bytesR_any w x hxr h
      have Htk := Lib.hid (rowB_take hx0)
      have Hrn : Hid (x.right = true → ∀ y ∈ xs.take (j + 1), y.right = true) := Lib.hid fun h1 y hy => by
        obtain ⟨hl, hxe⟩ := List.getElem?_eq_some_iff.1 hx0
        rw [List.take_succ_eq_append_getElem hl, List.mem_append, List.mem_singleton] at hy
        rcases hy with hy | hy
        · exact hri y hy
        · rw [hy, hxe]; exact h1
      have hlen := rowB_len _ hri
      rw [List.length_take] at hlen
      have hbl := bytes_len x
      unfold Vl.val at cR cB
      generalize x.k = k1 at *
      generalize x.n = n1 at *
      generalize x.s = s1 at *
      cases hr : x.right
      · rw [hr] at cR
        clear hr hbl Hrn
        go_wp2_with fail
        refine (cR _).mono ?_
        rintro e w3 ⟨rfl, hx3⟩
        go_wp2_with fail
        go_ret
        exact ⟨rfl, hx2.grow (hx.grow hx3)⟩
      · rw [hr] at cR
        replace Hrn := Lib.hid (Hrn.out hr)
        replace hbl := hbl hr
        replace cB := fun w => cB w hr
        generalize x.bytes = xb at *
        clear hr
        go_wp2_with fail
        refine (cR _).mono ?_
        rintro e w3 ⟨rfl, hx3⟩
        have hown3 := hown.ext0 hx3
        have e0 := cell_ext0 hx3 e0
        have e1 := cell_ext0 hx3 e1
        have e2 := cell_ext0 hx3 e2
        have hxx := hx.grow hx3
        clear cR hx3 hx hown
        go_wp2_with fail
        refine (cB _).mono ?_
        rintro e w4 ⟨r, rfl, hO4, hx4⟩
        have hown4 := hown3.ext0 hx4
        have hxy := hxx.grow hx4
        obtain ⟨p2, z2, g2, rfl, hU4, hz2, hp2⟩ := hO4.read0
        have hb5 : w2.heap.size ≤ w4.heap.size := hxy.size
        clear cB hx4 hown3 hxx hO4
        go_wp2_with (refine app_bytes rfl _ _ rfl w2.heap.size _ (rowB (xs.take j)) xb hown4 rfl p2 g2 0 z2 rfl hz2 hU4 hp2 (by omega) hb5 ?_)
        intro v5 w5 hown5 hx5
        have hx5' := hxy.trans hx5 fun i hi hb => by have := (hown4.lt i hb).1; omega
        rw [← Htk.out] at hown5
        clear hown4 hxy hx5 hb5 hU4
        go_wp2
        exact ⟨⟨j + 1, by omega, by simp, hown5, Hrn.out, hx5'⟩, by simp [RowKit.intOf]; omega⟩
    · have hd : decide ((j : Int) < (xs.length : Int)) = false := decide_eq_false (by omega)
      have hjn : j = xs.length := by omega
      rw [hjn, List.take_length] at hown hri
      clear hjn
      have hlen := rowB_len _ hri
      obtain ⟨p1, z1, g1, rfl, hU1, hz1, _⟩ := hown.read0
      have h3 := h2.ext0 hx
      have hx3 := hx2.grow hx
      clear hown h2 hx
      go_wp2_with fail
      go_loopw [3, 7] (fun q i wr => ∃ (k : Nat) (p' : Option Addr) (c' off' bb : Nat), k ≤ xs.length ∧ i = .int .i64 k ∧ q = .slice p' (rowB (xs.drop k)).length c' ∧ UR wr p' (rowB (xs.drop k)) bb off' ∧ (rowB (xs.drop k)).length ≤ c' ∧ VR wr p xs b off ∧ Ext none_ w wr) (fun _ i _ => xs.length - (RowKit.intOf i).toNat)
      case atStart => exact ⟨0, p1, z1, 0, g1, by omega, rfl, rfl, hU1, hz1, h3, hx3⟩
      case round =>
        obtain ⟨k, p', c', off', bb, hk, rfl, rfl, hU, hc', hV, hx⟩ := hrel
        by_cases hlt2 : k < xs.length
        · have hd2 : decide ((k : Int) < (xs.length : Int)) = true := decide_eq_true (by omega)
          obtain ⟨x, hx0⟩ : ∃ x, xs[k]? = some x := ⟨_, List.getElem?_eq_getElem hlt2⟩
          have hxr := hw x (List.mem_of_getElem? hx0)
          have hrx := hri x (List.mem_of_getElem? hx0)
          have hdk := rowB_drop hx0
          have hln := rowB_len (xs.drop k) fun y hy => hri y (List.mem_of_mem_drop hy)
          rw [List.length_drop] at hln
          have hpos := bytes_pos x
          obtain ⟨L, hL⟩ : ∃ L, L = rowB (xs.drop k) := ⟨_, rfl⟩
          rw [← hL] at hU hc' hln hdk ⊢
          have cT := take_any wr p' L bb off' c' hU hc' (by omega)
          have hLl : x.bytes.length ≤ L.length := by rw [hdk, List.length_append]; omega
          rw [hdk, take_bytes hrx hxr, ← hdk] at cT
          obtain ⟨a', c2, o2, hs0, hU2, hc2⟩ := tail_row wr p' L bb off' c' x.bytes.length hU hc' hLl
          have hdr : L.drop x.bytes.length = rowB (xs.drop (k + 1)) := by rw [hdk, List.drop_left]
          rw [hdr] at hU2 hc2
          have hs1 : ∀ w, (Instr.slice 51 (.slice p' L.length c') (some (.int .i64 (x.bytes.length : Int))) none none).run Tryd.prog w = .ok (.slice a' (rowB (xs.drop (k + 1))).length c2) w := fun w => by rw [hs0 w, hdr]
          clear hs0
          have ha := hV.addr (by omega)
          subst ha
          obtain ⟨e0, e1, e2⟩ := hV.cell k x hx0
          have q3 := fun w => eq49 w x x
          simp only [decide_true] at q3
          have hp1 : decide ((x.bytes.length : Int) < 1) = false := decide_eq_false (by omega)
          have hp2 : ¬ L.length < x.bytes.length := by omega
          unfold tkV Vl.val at cT
          unfold Vl.val at q3
          generalize x.bytes.length = N at *
          generalize x.k = k1 at *
          generalize x.n = n1 at *
          generalize x.s = s1 at *
          simp only at cT
          clear hL hdk hdr hln hpos hLl hU hc'
          go_wp2_with fail
          refine cT.mono ?_
          rintro e w6 ⟨rfl, hx6⟩
          have hx7 := Ext.alloc w6 (.cells #[.int .i64 k1, .int .i64 n1, .string s1] 49)
          have hv7 := blk_new w6 (.cells #[.int .i64 k1, .int .i64 n1, .string s1] 49)
          have hxx := hx6.grow hx7
          have e0 := cell_ext0 hxx e0
          have e1 := cell_ext0 hxx e1
          have e2 := cell_ext0 hxx e2
          have hV7 := hV.ext0 hxx
          have hU7 := hU2.ext0 hxx
          have hx8 := hx.grow hxx
          clear cT hx6 hx7 hxx hV hU2 hx
          obtain ⟨x0, x1, x2⟩ := cells3 hv7
          go_wp2_with fail
          generalize w6.alloc (.cells #[.int .i64 k1, .int .i64 n1, .string s1] 49) = w7 at *
          have hF := Ext.drew w7
          have A0 := fun i : Fam (fun w' => Ext none_ w7 w') => cell_ext0 i.h e0
          have A1 := fun i : Fam (fun w' => Ext none_ w7 w') => cell_ext0 i.h e1
          have A2 := fun i : Fam (fun w' => Ext none_ w7 w') => cell_ext0 i.h e2
          have B0 := fun i : Fam (fun w' => Ext none_ w7 w') => cell_ext0 i.h x0
          have B1 := fun i : Fam (fun w' => Ext none_ w7 w') => cell_ext0 i.h x1
          have B2 := fun i : Fam (fun w' => Ext none_ w7 w') => cell_ext0 i.h x2
          clear e0 e1 e2 x0 x1 x2 hv7
          refine wp_region_hoistT (fun w' => Ext none_ w7 w') 20 [0, 1, 2, 3, 4, 5, 6, 7, 8, 9, 10, 11, 12, 13, 14, 15, 16, 17, 18, 19] 0 mixedV (by kernel_rfl) hF ?_
          simp only [List.filterMap_cons, List.filterMap_nil, List.getElem?_cons_zero, List.getElem?_cons_succ]
          have hnn := Fam.ne hF
          have hV8 := hV7.ext0 hF
          have hU8 := hU7.ext0 hF
          have hx9 := hx8.grow hF
          generalize w7.drew = v8 at *
          clear hV7 hU7 hx8
          repeat (refine wpV_step (fun K hK => ?_); go_simp; refine hK _ ?_; clear hK K)
          refine wpV_nil ?_
          refine wpAnyC_end (by kernel_rfl) ?_
          clear hnn A0 A1 A2 B0 B1 B2 hF
          go_wp2_with fail
          exact ⟨⟨k + 1, a', c2, o2, bb, by omega, by simp, rfl, hU8, hc2, hV8, hx9⟩, by simp [RowKit.intOf]; omega⟩
        · have hd2 : decide ((k : Int) < (xs.length : Int)) = false := decide_eq_false (by omega)
          have hkn : k = xs.length := by omega
          have h0 : (rowB (xs.drop k)).length = 0 := by rw [hkn, List.drop_length]; rfl
          rw [h0]
          clear hkn
          go_wp2_with fail
          go_ret
          exact ⟨rfl, hx⟩

set_option maxHeartbeats 4000000 in
theorem vrows_long (w : World) (hT : Nums w) (p : Option Addr) (n c : Nat) (h : 30 < n) :
    Calls Tryd.prog 17 #[.slice p n c] w fun e w' => e = .returned (.bool true) ∧ Ext none_ w w' := by
  have hd1 : decide (30 < (n : Int)) = true := decide_eq_true (by omega)
  have cW := vawake_any w hT
  clear h
  go_enter Tryd.func17, Tryd.ntmps17
  go_wp2_with fail
  refine cW.mono ?_
  rintro e w2 ⟨rfl, hx2⟩
  have hT2 := hT.ext0 hx2
  clear cW hT
  go_wp2_with fail
  refine (vawake_any w2 hT2).mono ?_
  rintro e w3 ⟨rfl, hx3⟩
  go_wp2_with fail
  go_ret
  exact ⟨rfl, hx2.grow hx3⟩

theorem vrows_all (w : World) (hT : Nums w) (p : Option Addr) (xs : List Vl) (b off c : Nat) (h : VR w p xs b off) (hw : ∀ x ∈ xs, -9223372036854775808 ≤ x.n ∧ x.n ≤ 9223372036854775807) :
    Calls Tryd.prog 17 #[.slice p xs.length c] w fun e w' => e = .returned (.bool true) ∧ Ext none_ w w' := by
  by_cases hl : 30 < xs.length
  · exact vrows_long w hT p xs.length c hl
  · exact vrows_any w hT p xs b off c h hw (by omega)

end Go.Proofs.YtocjidlbjmghdaaDoor
