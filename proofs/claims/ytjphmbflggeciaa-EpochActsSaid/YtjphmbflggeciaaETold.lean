/- The walk of told. -/
import Derived.Test.YtjphmbflggeciaaEAdv
import Derived.Test.YtjphmbflggeciaaEHoist
namespace Go.Proofs.Ytjphmbflggeciaa
open Go.RowKit Go.Cw

theorem Sim.size {n : Nat} {gl : Int} {M : List (Z × Int)} {R : List Int} (h : Sim n gl M R) : M.length ≤ 64 := by
  have h1 := h.keys.length_eq
  rw [List.length_map, busyP_len] at h1
  have h2 : cnt R R.length ≤ R.length := by
    unfold cnt
    have := List.length_filter_le (inN R) (List.range R.length)
    rw [List.length_range] at this
    exact this
  have h3 := h.len
  have h4 := h.n64
  omega
theorem Sim.at {n : Nat} {gl : Int} {M : List (Z × Int)} {R : List Int} (h : Sim n gl M R) {k : Nat} {x : Int} (hx : R[k]? = some x) (s : Z) (hs : s.1 = k) : mget M s = if 0 ≤ x then some x else none := by
  have hk := (List.getElem?_eq_some_iff.1 hx).1
  have h1 := h.inIt s (by omega) (by rw [h.len] at hk; omega)
  rw [List.getD_eq_getElem?_getD, show s.1.toNat = k by omega, hx, Option.getD_some] at h1
  rcases h.bwd k x hx with h2 | ⟨h2, h3⟩
  · rw [if_neg (by omega)]
    rw [decide_eq_false (by omega)] at h1
    exact Option.not_isSome_iff_eq_none.1 (by rw [h1]; simp)
  · rw [if_pos h2, h3 s hs]
theorem Sim.out {n : Nat} {gl : Int} {M : List (Z × Int)} {R : List Int} (h : Sim n gl M R) (s : Z) (hs : s.1 < 0 ∨ (n : Int) ≤ s.1) : mget M s = none := by
  cases hm : mget M s with
  | none => rfl
  | some e =>
    obtain ⟨i, hi, hR, _⟩ := h.fwd s e hm
    have hk := (List.getElem?_eq_some_iff.1 hR).1
    rw [h.len] at hk
    omega
theorem wfI (x : Int) (h : -1000 ≤ x ∧ x ≤ 1000) : (Lit.int .i64 x).wf = true := by
  have h' : IntKind.i64.min ≤ x ∧ x ≤ IntKind.i64.max := by
    have h1 : IntKind.i64.min = -9223372036854775808 := by decide
    have h2 : IntKind.i64.max = 9223372036854775807 := by decide
    omega
  simpa [Lit.wf] using h'

theorem own_read0 {w : World} {base : Nat} {v : Value} {zs : List Int} (h : w.ownsRow base 3 1 v zs.length (zs.map (Value.int .i64))) :
    ∃ a cap b, v = .slice a zs.length cap ∧ IR w a zs b 0 := by
  rcases h.2 with ⟨rfl, h0⟩ | ⟨g, cap, cur, rfl, hb, hg, hc1, hc2, hc3, hc4⟩
  · rw [h0]
    exact ⟨none, 0, 0, rfl, fun h => by omega, fun j z hj => by have := (List.getElem?_eq_some_iff.1 hj).1; omega⟩
  · refine ⟨_, cap, g, rfl, fun _ => rfl, fun j z hj => ?_⟩
    rw [cell_of hg, Nat.zero_add]
    have hj' : (zs.map (Value.int .i64))[j]? = some (.int .i64 z) := by simp [hj]
    rw [← hc4, List.getElem?_take] at hj'
    split at hj'
    · simpa using hj'
    · cases hj'

set_option maxHeartbeats 8000000 in
set_option maxRecDepth 100000 in
theorem told_any (w : World) (base g mb n g2 i c : Nat) (gl : Int) (M : List (Z × Int)) (R : List Int) (hT : TableIs w base g mb n gl M) (hR : RTab w base g2 i c gl R) (hS : Sim n gl M R) :
    Calls Try.prog 19 #[.pointer (some ⟨g, 0, none⟩), .pointer (some ⟨g2, 0, none⟩)] w fun e w' => e = .returned (.bool true) ∧ Ext none_ w w' := by
  have hMl := hS.size
  have hRl : R.length ≤ 64 := by rw [hS.len]; exact hS.n64
  obtain ⟨m, hm⟩ : ∃ m, m = rleast gl R := ⟨_, rfl⟩
  have cG := fun w (h : TableIs w base g mb n gl M) => global_any w base g mb n gl M h
  have cL : ∀ w, TableIs w base g mb n gl M → Calls Try.prog 11 #[.pointer (some ⟨g, 0, none⟩)] w fun e w' => e = .returned (.int .i64 m) ∧ Ext none_ w w' := fun w h => (least_any w base g mb n gl M h (by omega)).mono fun e w' ⟨m', h1, h2, h3⟩ => ⟨by rw [h1, (hS.least h2).1, hm], h3⟩
  have cR := fun w (h : RTab w base g2 i c gl R) => rleast_walk w base g2 i c gl R h hRl
  have hgm : gl - 1 ≤ m ∧ m ≤ gl := by
    have h1 := (rleast_any R gl).congr hS.vals
    rw [← hm] at h1
    exact ⟨(hS.least h1).2, h1.le⟩
  rw [← hm] at cR
  have hg0 := hS.g0
  have hg1 := hS.g1
  have hwm : IntKind.i64.wrap (gl - m) = gl - m := by unfold IntKind.wrap; simp [IntKind.bits, IntKind.signed]; omega
  have hw2 : wrap64 (gl - m) = gl - m := by have := hwm; first | exact this | (unfold wrap64; omega)
  have hdm : decide (1 < gl - m) = false := decide_eq_false (by omega)
  clear hm hgm hg0 hg1
  have hF := Ext.drew w
  have hx1 := hF
  have hT1 := hT.ext0 hF
  have hR1 := hR.ext0 hF
  obtain ⟨c0, c1⟩ := cells2 hR.blk
  go_enter Try.func19, Try.ntmps19
  go_wp2_with fail
  have hc0 := fun i : Fam (fun w' => Ext none_ w w') => cell_ext0 i.h c0
  clear c0 c1
  refine wp_region_hoistT (fun w' => Ext none_ w w') 22 [0, 2, 3, 4, 5] 17 mixed (by kernel_rfl) hF ?_
  simp only [List.filterMap_cons, List.filterMap_nil, List.getElem?_cons_zero, List.getElem?_cons_succ]
  have hnn := Fam.ne hF
  generalize w.drew = w1 at *
  repeat (refine wpV_step (fun K hK => ?_); go_simp; refine hK _ ?_; clear hK K)
  refine wpV_nil ?_
  refine wpAnyC_step [1] (by kernel_rfl) (by simp) ?_
  intro j hj
  simp only [List.mem_cons, List.not_mem_nil, or_false] at hj
  subst hj
  refine ⟨_, rfl, ?_⟩
  go_wp2_with fail
  refine (cG _ hT1).mono ?_
  rintro e w2 ⟨rfl, rfl⟩
  go_wp2_with fail
  try refine ⟨.inr hF, ?_⟩
  refine wpAnyC_again [6, 7, 8, 10] 12 (by kernel_rfl) hF ?_
  simp only [List.filterMap_cons, List.filterMap_nil, List.getElem?_toArray, List.getElem?_cons_zero, List.getElem?_cons_succ]
  repeat (refine wpV_step (fun K hK => ?_); go_simp; refine hK _ ?_; clear hK K)
  refine wpV_nil ?_
  refine wpAnyC_step [9] (by kernel_rfl) (by simp) ?_
  intro j hj
  simp only [List.mem_cons, List.not_mem_nil, or_false] at hj
  subst hj
  refine ⟨_, rfl, ?_⟩
  go_wp2_with fail
  refine (cL _ hT1).mono ?_
  rintro e w2 ⟨rfl, hy⟩
  replace hF := hF.grow hy
  have hT2 := hT1.ext0 hy
  have hR2 := hR1.ext0 hy
  clear hy hT1 hR1
  go_wp2_with fail
  try refine ⟨.inr hF, ?_⟩
  refine wpAnyC_step [11] (by kernel_rfl) (by simp) ?_
  intro j hj
  simp only [List.mem_cons, List.not_mem_nil, or_false] at hj
  subst hj
  refine ⟨_, rfl, ?_⟩
  go_wp2_with fail
  refine (cR _ hR2).mono ?_
  rintro e w3 ⟨rfl, rfl⟩
  go_wp2_with fail
  try refine ⟨.inr hF, ?_⟩
  refine wpAnyC_again [12, 13, 14, 15, 17] 5 (by kernel_rfl) hF ?_
  simp only [List.filterMap_cons, List.filterMap_nil, List.getElem?_toArray, List.getElem?_cons_zero, List.getElem?_cons_succ]
  repeat (refine wpV_step (fun K hK => ?_); go_simp; refine hK _ ?_; clear hK K)
  refine wpV_nil ?_
  refine wpAnyC_step [16] (by kernel_rfl) (by simp) ?_
  intro j hj
  simp only [List.mem_cons, List.not_mem_nil, or_false] at hj
  subst hj
  refine ⟨_, rfl, ?_⟩
  go_wp2_with fail
  refine (cG _ hT2).mono ?_
  rintro e w3 ⟨rfl, rfl⟩
  go_wp2_with fail
  try refine ⟨.inr hF, ?_⟩
  refine wpAnyC_step [18] (by kernel_rfl) (by simp) ?_
  intro j hj
  simp only [List.mem_cons, List.not_mem_nil, or_false] at hj
  subst hj
  refine ⟨_, rfl, ?_⟩
  go_wp2_with fail
  refine (cL _ hT2).mono ?_
  rintro e w3 ⟨rfl, hy⟩
  replace hF := hF.grow hy
  have hT3 := hT2.ext0 hy
  have hR3 := hR2.ext0 hy
  clear hy hT2 hR2
  go_wp2_with fail
  try refine ⟨.inr hF, ?_⟩
  refine wpAnyC_again [19, 20, 21] 0 (by kernel_rfl) hF ?_
  simp only [List.filterMap_cons, List.filterMap_nil, List.getElem?_toArray, List.getElem?_cons_zero, List.getElem?_cons_succ]
  repeat (refine wpV_step (fun K hK => ?_); go_simp; refine hK _ ?_; clear hK K)
  refine wpV_nil ?_
  refine wpAnyC_end (by kernel_rfl) ?_
  clear hnn hc0 hx1
  go_wp2_with fail
  refine (busy_any w3 base g mb n gl M hT3 (by omega)).mono ?_
  rintro e w4 ⟨v, ks, rfl, hp, ho, hx4⟩
  have hT4 := hT3.ext0 hx4
  have hR4 := hR3.ext0 hx4
  have hx4' := hF.grow hx4
  have ho2 : w4.ownsRow w3.heap.size 3 1 v (busyP R).length ((busyP R).map (Value.int .i64)) := by
    have h1 := hS.busy hp
    have h2 : ks.length = (busyP R).length := by rw [← h1, List.length_mergeSort]
    rw [h1, h2] at ho
    exact ho
  obtain ⟨pa, pc, pb, rfl, hI⟩ := own_read0 ho2
  clear hF hx4 ho ho2 hT3 hR3 hp hT hR cL cR cG hwm hw2 hdm
  obtain ⟨c0, c1⟩ := cells2 hR4.blk
  go_wp2_with fail
  have hcn : ∀ z : Int, inN R z.toNat = false → cnt R (z.toNat + 1) = cnt R z.toNat := fun z h => by rw [cnt_succ, h]; rfl
  have hcL : cnt R R.length = (busyP R).length := (busyP_len R).symm
  go_loopw [6, 7] (fun q i wr => ∃ z : Int, -1 ≤ z ∧ z ≤ R.length + 1 ∧ i = .int .i64 z ∧ q = .int .i64 (cnt R z.toNat) ∧ w4 = wr) (fun _ i _ => (R.length + 2 - RowKit.intOf i).toNat)
  case atStart => exact ⟨-1, by omega, by omega, rfl, rfl, rfl⟩
  case round =>
    obtain ⟨z, hz1, hz2, rfl, rfl, rfl⟩ := hrel
    have hout : R.length ≤ z.toNat → inN R z.toNat = false := fun h => by unfold inN; rw [List.getD_eq_getElem?_getD, List.getElem?_eq_none h]; rfl
    by_cases hj2 : z = R.length + 1
    · have hd : decide (z ≤ (R.length : Int)) = false := decide_eq_false (by omega)
      have hfin : cnt R z.toNat = (busyP R).length := by
        rw [show z.toNat = (R.length : Int).toNat + 1 by omega, hcn R.length (by unfold inN; rw [List.getD_eq_getElem?_getD, List.getElem?_eq_none (by simp)]; rfl)]
        simpa using hcL
      rw [hfin]
      clear hj2 hfin hcn hcL hout
      go_wp2_with fail
      go_ret
      exact ⟨rfl, hx4'⟩
    · have hd : decide (z ≤ (R.length : Int)) = true := decide_eq_true (by omega)
      have cI := in_any w4 base g mb n gl M ⟨z, wfI _ (by omega)⟩ hT4
      simp only at cI
      have hwz : IntKind.i64.wrap (z + 1) = z + 1 := by unfold IntKind.wrap; simp [IntKind.bits, IntKind.signed]; omega
      have hwz2 : wrap64 (z + 1) = z + 1 := by have := hwz; first | exact this | (unfold wrap64; omega)
      by_cases hz0 : z < 0
      · rw [hS.out ⟨z, wfI _ (by omega)⟩ (.inl hz0)] at cI
        simp only [Option.getD_none, Option.isSome_none] at cI
        have hd1 : decide ((0 : Int) ≤ z) = false := decide_eq_false (by omega)
        have hzt : z.toNat = 0 := by omega
        have Hn : Hid (cnt R z.toNat = cnt R (z + 1).toNat) := Lib.hid (by rw [hzt, show (z + 1).toNat = 0 by omega])
        have Hz := Lib.hid (show -1 ≤ z + 1 ∧ z + 1 ≤ R.length + 1 ∧ ((R.length : Int) + 2 - (z + 1)).toNat < ((R.length : Int) + 2 - z).toNat by omega)
        clear hz0 hz1 hz2 hj2 hcn hcL hout hzt hS
        go_wp2_with fail
        refine cI.mono ?_
        rintro e w5 ⟨rfl, rfl⟩
        go_wp2_with fail
        exact ⟨⟨z + 1, Hz.out.1, Hz.out.2.1, rfl, by rw [Hn.out], trivial⟩, Hz.out.2.2⟩
      · have hd1 : decide ((0 : Int) ≤ z) = true := decide_eq_true (by omega)
        by_cases hzl : z = R.length
        · rw [hS.out ⟨z, wfI _ (by omega)⟩ (.inr (by rw [← hS.len]; simp only; omega))] at cI
          simp only [Option.getD_none, Option.isSome_none] at cI
          have hd2 : decide (z < (R.length : Int)) = false := decide_eq_false (by omega)
          have Hn : Hid (cnt R z.toNat = cnt R (z + 1).toNat) := Lib.hid (by rw [show (z + 1).toNat = z.toNat + 1 by omega, hcn z (hout (by omega))])
          have Hz := Lib.hid (show -1 ≤ z + 1 ∧ z + 1 ≤ R.length + 1 ∧ ((R.length : Int) + 2 - (z + 1)).toNat < ((R.length : Int) + 2 - z).toNat by omega)
          clear hz0 hz1 hz2 hj2 hcn hcL hout hzl hS
          go_wp2_with fail
          refine cI.mono ?_
          rintro e w5 ⟨rfl, rfl⟩
          go_wp2_with fail
          exact ⟨⟨z + 1, Hz.out.1, Hz.out.2.1, rfl, by rw [Hn.out], trivial⟩, Hz.out.2.2⟩
        · have hd2 : decide (z < (R.length : Int)) = true := decide_eq_true (by omega)
          obtain ⟨k, rfl⟩ : ∃ k : Nat, z = k := ⟨z.toNat, by omega⟩
          have hkl : k < R.length := by omega
          obtain ⟨x, hx⟩ : ∃ x, R[k]? = some x := ⟨_, List.getElem?_eq_getElem hkl⟩
          have hcx := hR4.cell hx
          rw [hS.at hx ⟨(k : Int), wfI _ (by omega)⟩ rfl] at cI
          have hin : inN R k = decide (0 ≤ x) := by unfold inN; rw [List.getD_eq_getElem?_getD, hx]; rfl
          rw [show (k : Int).toNat = k by omega]
          have Hz := Lib.hid (show -1 ≤ (k : Int) + 1 ∧ (k : Int) + 1 ≤ R.length + 1 ∧ ((R.length : Int) + 2 - ((k : Int) + 1)).toNat < ((R.length : Int) + 2 - k).toNat by omega)
          by_cases h0 : 0 ≤ x
          · rw [if_pos h0] at cI
            simp only [Option.getD_some, Option.isSome_some] at cI
            have hd3 : decide (0 ≤ x) = true := decide_eq_true h0
            rw [hd3] at hin
            have hb := busyP_get hkl hin
            have hbl := (List.getElem?_eq_some_iff.1 hb).1
            have ha := hI.addr (by omega)
            subst ha
            have hcb := hI.cell _ _ hb
            rw [Nat.zero_add] at hcb
            have Hn : Hid (((cnt R k : Nat) : Int) + 1 = ((cnt R ((k : Int) + 1).toNat : Nat) : Int)) := Lib.hid (by rw [show ((k : Int) + 1).toNat = k + 1 by omega, cnt_succ, hin]; simp)
            have hd4 : decide (((busyP R).length : Int) ≤ (cnt R k : Int)) = false := decide_eq_false (by omega)
            have hn4 : ¬ (busyP R).length ≤ cnt R k := by omega
            have hxx : (x != x) = false := bne_self_eq_false _
            have hq64 : cnt R k ≤ 64 := by
              have h9 := hcL
              have h8 : cnt R R.length ≤ R.length := by
                unfold cnt
                have := List.length_filter_le (inN R) (List.range R.length)
                rw [List.length_range] at this
                exact this
              omega
            have hwc : IntKind.i64.wrap ((cnt R k : Int) + 1) = (cnt R k : Int) + 1 := by
              have h9 := hcL
              have h8 : cnt R R.length ≤ R.length := by
                unfold cnt
                have := List.length_filter_le (inN R) (List.range R.length)
                rw [List.length_range] at this
                exact this
              unfold IntKind.wrap; simp [IntKind.bits, IntKind.signed]; omega
            have hwc2 : wrap64 ((cnt R k : Int) + 1) = (cnt R k : Int) + 1 := by unfold wrap64; have := hq64; omega
            generalize cnt R k = q at *
            clear hz0 hz1 hz2 hj2 hcn hcL hout hzl hS h0 hin hb hx
            go_wp2_with fail
            refine cI.mono ?_
            rintro e w5 ⟨rfl, rfl⟩
            go_wp2_with fail
            exact ⟨⟨(k : Int) + 1, Hz.out.1, Hz.out.2.1, rfl, by rw [← Hn.out], trivial⟩, Hz.out.2.2⟩
          · rw [if_neg h0] at cI
            simp only [Option.getD_none, Option.isSome_none] at cI
            have hd3 : decide (0 ≤ x) = false := decide_eq_false h0
            rw [hd3] at hin
            have Hn : Hid (cnt R k = cnt R ((k : Int) + 1).toNat) := Lib.hid (by rw [show ((k : Int) + 1).toNat = k + 1 by omega, cnt_succ, hin]; simp)
            generalize cnt R k = q at *
            clear hz0 hz1 hz2 hj2 hcn hcL hout hzl hS h0 hin hx
            go_wp2_with fail
            refine cI.mono ?_
            rintro e w5 ⟨rfl, rfl⟩
            go_wp2_with fail
            exact ⟨⟨(k : Int) + 1, Hz.out.1, Hz.out.2.1, rfl, by rw [← Hn.out], trivial⟩, Hz.out.2.2⟩

end Go.Proofs.Ytjphmbflggeciaa
