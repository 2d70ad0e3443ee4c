/- Proved: Rows.LetterHeadsCardSaid: for every input LetterHeads returns true and leaves its arguments as they read; no condition beyond the row's (the two listed tables of unicode/utf8, tied to the program's text). -/
import Derived.Test.YtocjidlbjmghdaaDoorLawHeads
import Derived.Test.YtocjidlbjmghdaaDoorOpen
namespace Go.Proofs.YtocjidlbjmghdaaDoor
open Go.ChangeShapes Go.WideShapes Go.ChangeAt Go.RowKit Go.Cw Go.ChangeMaps

theorem heads_reads (os : Os) {H : Type} (enc : TypeId × Value → H) : ∃ places, DataW.whole enc Tryd.prog ((laidWorld os).forCall (fun _ _ => 0) ⟨#[], #[.slice none 0 0, .slice none 0 0, .slice none 0 0], []⟩).memory Tryd.f11.params.toList Rows.letterHeadsSpec.vars false #[Value.slice none 0 0, Value.slice none 0 0, Value.slice none 0 0].toList 8 = some ([.nil, .nil, .nil], [], places) :=
  ⟨[], by kernel_rfl⟩

set_option maxRecDepth 100000 in
theorem heads_lifted (os : Os) (started : os.Started) (H : Type) (enc : TypeId × Value → H) (F : Stop.Interp) :
    ReturnsInHanded {} Tryd.checked os 11 .any ((OpenSpec.ofChange Rows.letterHeadsSpec).preRow enc Tryd.prog Tryd.f11 Rows.letterHeadsRow.domain false Rows.letterHeadsRow.laid) (((OpenSpec.ofChange Rows.letterHeadsSpec).at F).post enc Tryd.prog Tryd.f11 false true false false) := by
  obtain ⟨places, hx⟩ := heads_reads os enc
  refine returnsInHanded_of_row (C := Tryd.checked) (s := OpenSpec.ofChange Rows.letterHeadsSpec) Tryd.own started (by kernel_rfl) Tryd.func11
    (witness_row_at (enc := enc) (C := Tryd.checked) false (laidWorld os) #[.slice none 0 0, .slice none 0 0, .slice none 0 0] rfl (by kernel_rfl) (by kernel_rfl) (by kernel_rfl)
      (OpenSpec.preRow_of_cond 8 hx (by kernel_rfl) (fun k hk => by cases hk) (by kernel_rfl) (laid_met os _))) ?_
  intro W base args ds gs before hval0 hW _ _ _ hL _ _
  have hval : ∀ (j : Nat) t v, Tryd.f11.params[j]? = some t → args[j]? = some v → Value.okWide Tryd.prog W .any base t v := hval0
  have hT := tabs_of hL
  have hW' := hW
  obtain ⟨p, q, hA0, hV, rfl, hfz, hnd⟩ := hW
  have hA : DataW.TrodAll enc Tryd.prog W 0 (fun _ => true) true Tryd.f11.params.toList args.toList ds p := hA0
  rw [Tryd.params11] at hA hval
  obtain ⟨v0, v1, v2, d0, d1, d2, p0, p1, p2, rfl, rfl, rfl, h0, h1, h2⟩ := trodAll_three hA
  obtain ⟨rfl, rfl⟩ := trodVars_none hV
  clear hA0 hval0
  simp only [List.append_nil] at hW'
  have hlt : ∀ x ∈ p0 ++ p1 ++ p2, x.block < W.heap.size := fun x hx => by simpa using hW'.lt x hx
  obtain ⟨a0, zs0, c0, b0, off0, rfl, hr0, hw0⟩ := runes_of (hval 0 30 v0 rfl rfl) h0
  obtain ⟨a1, zs1, c1, b1, off1, rfl, hr1, hw1⟩ := runes_of (hval 1 30 v1 rfl rfl) h1
  obtain ⟨a2, zs2, c2, b2, off2, rfl, hr2, hw2⟩ := runes_of (hval 2 30 v2 rfl rfl) h2
  refine (heads_all W hT a0 zs0 b0 off0 c0 hr0 hw0 a1 zs1 b1 off1 c1 hr1 hw1 a2 zs2 b2 off2 c2 hr2 hw2).mono fun e W' ⟨he, hx⟩ => ?_
  subst he
  have hB := hx.toBelow
  exact ⟨_, rfl, _, _, _, [], _, [], hW', trodAll_mk1 (shut_bool Tryd.underlying4 true),
    trodAll_mk3 (Below.trod Tryd.laidOut (by kernel_rfl) (of_decide_eq_true (by kernel_rfl)) h0 hB (fun x hx => hlt x (by simp [hx]))) (Below.trod Tryd.laidOut (by kernel_rfl) (of_decide_eq_true (by kernel_rfl)) h1 hB (fun x hx => hlt x (by simp [hx]))) (Below.trod Tryd.laidOut (by kernel_rfl) (of_decide_eq_true (by kernel_rfl)) h2 hB (fun x hx => hlt x (by simp [hx]))),
    rfl, hB.frame _, fun h => by cases h⟩

theorem heads_said : Rows.LetterHeadsSaid :=
  OpenClaim.holds_of_cond 11 Tryd.f11 rfl rfl rfl rfl rfl rfl rfl ⟨rfl, rfl, rfl, rfl, rfl⟩ rfl rfl rfl rfl rfl (by kernel_rfl) Tryd.func11 (by kernel_rfl)
    (of_decide_eq_true (by kernel_rfl)) (by unfold Func.isWrapper; first | (rw [if_pos (by decide +kernel)]; kernel_rfl) | (rw [if_neg (by decide +kernel)]; exact ⟨rfl, rfl⟩))
    (fun os started H enc _ F => by rw [OpenClaim.pre_eq_preRow]; exact heads_lifted os started H enc F)

theorem heads_plain (f : FuncId) (fn : Func) (hf : Tryd.pinned.checked.prog.funcNamed "cobweb/cobweblaw01.LetterHeads" = some f) (hfn : Tryd.pinned.checked.prog.funcs[f]? = some fn) :
    true = Tryd.pinned.checked.prog.looks [] ∧ ∀ (j : Nat) t, fn.params[j]? = some t → Tryd.pinned.checked.prog.wantsStandIn t = false := by
  obtain rfl : f = 11 := Option.some.inj ((show Tryd.prog.funcNamed "cobweb/cobweblaw01.LetterHeads" = some 11 by kernel_rfl).symm.trans hf) |>.symm
  obtain rfl : fn = Tryd.f11 := (Option.some.inj (Tryd.func11.symm.trans hfn)).symm
  refine ⟨by kernel_rfl, fun j t ht => ?_⟩
  rw [Tryd.params11] at ht
  obtain rfl : t = 30 := by simpa using Array.mem_of_getElem? ht
  exact (show Tryd.prog.wantsStandIn 30 = false by kernel_rfl)

theorem heads_card : Rows.LetterHeadsCardSaid :=
  Claim7.holds_tied_plain_at .later [] _ _ _ _ heads_said (fun _ h => by cases h) (by kernel_rfl) (fun _ h => by cases h) letterHeads_row_tie rfl ⟨rfl, rfl⟩ (by kernel_rfl) rfl heads_plain (by kernel_rfl)

end Go.Proofs.YtocjidlbjmghdaaDoor
