/- The walk of the reference's Advance. -/
import Derived.Test.YtjphmbflggeciaaELeast
import Derived.Test.YtjphmbflggeciaaEKeys
namespace Go.Proofs.Ytjphmbflggeciaa
open Go.RowKit Go.Cw

theorem RTab.glob {w : World} {base g i c : Nat} {gl : Int} {R : List Int} (h : RTab w base g i c gl R) (v : Int) : RTab (w.setCell ⟨g, 0, none⟩ (.int .i64 v)) base g i c v R := by
  obtain ⟨cur, hc, hr⟩ := h.row
  exact ⟨blk_set h.blk 0 _, ⟨cur, blk_set_ne hc h.ne 0 _, hr⟩, h.gb, h.ib, h.ne⟩

set_option maxHeartbeats 2000000 in
theorem radv_any (w : World) (base g i c : Nat) (gl : Int) (R : List Int) (hT : RTab w base g i c gl R) (hgl : 0 ≤ gl ∧ gl ≤ 2147483647) (hn : R.length ≤ 64) :
    Calls Try.prog 18 #[.pointer (some ⟨g, 0, none⟩)] w fun e w' => e = .returned (.tuple #[.int .i64 (rAN gl R), .int .i64 (rAE gl R)]) ∧ RTab w' base g i c (rAG gl R) R ∧ Ext (Foot g i) w w' := by
  obtain ⟨c0, c1⟩ := cells2 hT.blk
  by_cases h1 : gl = 2147483647
  · have hd : (gl == 2147483647) = true := beq_iff_eq.2 h1
    have HN : Hid (rAN gl R = 0) := Lib.hid (by unfold rAN; rw [if_pos h1])
    have HE : Hid (rAE gl R = 40) := Lib.hid (by unfold rAE; rw [if_pos h1])
    have HG : Hid (rAG gl R = gl) := Lib.hid (by unfold rAG; rw [if_pos h1])
    clear h1
    go_enter Try.func18, Try.ntmps18
    go_wp2
    go_ret2
    exact ⟨by rw [HN.out, HE.out]; rfl, by rw [HG.out]; exact hT, Ext.refl _ _⟩
  · have hd : (gl == 2147483647) = false := beq_eq_false_iff_ne.2 h1
    have hF := Ext.drew w
    have hx1 := hF
    have hT1 := hT.ext0 hF
    obtain ⟨m, hm⟩ : ∃ m, m = rleast gl R := ⟨_, rfl⟩
    have cL := fun w (h : RTab w base g i c gl R) => rleast_walk w base g i c gl R h hn
    rw [← hm] at cL
    have Hm := Lib.hid hm
    have H1 := Lib.hid h1
    have Hgl := Lib.hid hgl
    clear hm h1 hgl
    go_enter Try.func18, Try.ntmps18
    go_wp2_with fail
    have hc0 := fun i : Fam (fun w' => Ext none_ w w') => cell_ext0 i.h c0
    have hc1 := fun i : Fam (fun w' => Ext none_ w w') => cell_ext0 i.h c1
    clear c0 c1
    refine wp_region_hoistT (fun w' => Ext none_ w w') 7 [0, 2, 3, 4, 5] 2 mixed (by kernel_rfl) hF ?_
    simp only [List.filterMap_cons, List.filterMap_nil, List.getElem?_cons_zero, List.getElem?_cons_succ]
    have hnn := Fam.ne hF
    generalize w.drew = w1 at *
    repeat (refine wpV_step (fun K hK => ?_); go_simp; refine hK _ ?_; clear hK K)
    refine wpV_nil ?_
    clear hc0 hc1 hnn
    refine wpAnyC_step [1] (by kernel_rfl) (by simp) ?_
    intro j hj
    simp only [List.mem_cons, List.not_mem_nil, or_false] at hj
    subst hj
    refine ⟨_, rfl, ?_⟩
    go_wp2_with fail
    refine (cL _ hT1).mono ?_
    rintro e w2 ⟨rfl, rfl⟩
    go_wp2_with fail
    try refine ⟨.inr hF, ?_⟩
    refine wpAnyC_step [6] (by kernel_rfl) (by simp) ?_
    intro j hj
    simp only [List.mem_cons, List.not_mem_nil, or_false] at hj
    subst hj
    refine ⟨_, rfl, ?_⟩
    go_wp2_with fail
    try refine ⟨.inr hF, ?_⟩
    refine wpAnyC_end (by kernel_rfl) ?_
    obtain ⟨c0, c1⟩ := cells2 hT1.blk
    by_cases h2 : m = gl
    · have hd2 : (m != gl) = false := by rw [h2]; exact bne_self_eq_false _
      have HN : Hid (rAN gl R = gl + 1) := Lib.hid (by unfold rAN; rw [if_neg H1.out, ← Hm.out, if_neg (by omega)])
      have HE : Hid (rAE gl R = 0) := Lib.hid (by unfold rAE; rw [if_neg H1.out, ← Hm.out, if_neg (by omega)])
      have HG : Hid (rAG gl R = gl + 1) := Lib.hid (by unfold rAG; rw [if_neg H1.out, ← Hm.out, if_neg (by omega)])
      have hz := frozen_of hT1.blk
      have hT2 := hT1.glob (gl + 1)
      have hx3 := (hx1.mono fun _ _ h => h.elim : Ext (Foot g i) w w1).trans (Ext.setCell w1 ⟨g, 0, none⟩ (.int .i64 (gl + 1))) fun j _ e => .inl e
      have hgb : IntKind.i64.wrap (gl + 1) = gl + 1 := by have := Hgl.out; unfold IntKind.wrap; simp [IntKind.bits, IntKind.signed]; omega
      obtain ⟨e0, e1⟩ := cells2 hT2.blk
      clear h2 hF
      go_wp2
      go_ret2
      exact ⟨by rw [HN.out, HE.out]; rfl, by rw [HG.out]; exact hT2, hx3⟩
    · have hd2 : (m != gl) = true := by rw [bne, beq_eq_false_iff_ne.2 h2]; rfl
      have HN : Hid (rAN gl R = 0) := Lib.hid (by unfold rAN; rw [if_neg H1.out, ← Hm.out, if_pos h2])
      have HE : Hid (rAE gl R = 60) := Lib.hid (by unfold rAE; rw [if_neg H1.out, ← Hm.out, if_pos h2])
      have HG : Hid (rAG gl R = gl) := Lib.hid (by unfold rAG; rw [if_neg H1.out, ← Hm.out, if_pos h2])
      clear h2 hF
      go_wp2
      go_ret2
      exact ⟨by rw [HN.out, HE.out]; rfl, by rw [HG.out]; exact hT1, hx1.mono fun _ _ h => h.elim⟩

end Go.Proofs.Ytjphmbflggeciaa
