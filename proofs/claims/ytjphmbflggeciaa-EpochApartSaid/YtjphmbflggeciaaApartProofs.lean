/- Proved: Rows.EpochApartSaid: for every input EpochApart returns true and leaves its arguments as they read; no condition beyond the row's. -/
import Derived.Test.YtjphmbflggeciaaOpenActs
import Derived.ProofKit
import Derived.Test.YtjphmbflggeciaaRows
namespace Go.Proofs.Ytjphmbflggeciaa
open Go.ChangeShapes Go.WideShapes Go.ChangeAt Go.RowKit Go.Cw

theorem Try.own : ownKnob Try.prog.godebug = none := by kernel_rfl
theorem Try.laidOut : laidOutB Try.prog = true := by kernel_rfl

theorem apart_all (w : World) (a : Option Addr) (xs : List A) (b off c : Nat) (z : Int) (hA : AR w a xs b off) :
    Calls Try.prog 4 #[.slice a xs.length c, .int .i64 z] w fun e w' => e = .returned (.bool true) ∧ Ext none_ w w' := by
  by_cases h : 100 < xs.length
  · exact apart_long w a _ c z h
  · exact apart_any w a xs b off c z hA (by omega)

set_option maxRecDepth 100000 in
theorem apart_lifted (os : Os) (started : os.Started) (H : Type) (enc : TypeId × Value → H) :
    ReturnsInHanded {} Try.checked os 4 .any (Rows.epochApartSpec.pre6 enc Try.prog Try.f4 Rows.epochApartRow.domain false) (Rows.epochApartSpec.post enc Try.prog Try.f4 false true false false) := by
  refine returnsInHanded_of_change (C := Try.checked) Try.own started (by kernel_rfl) Try.func4
    (ChangeSpec.witness6 (enc := enc) (C := Try.checked) false ⟨#[], #[.slice none 0 0, .int .i64 0], []⟩ 8 (by kernel_rfl) (by kernel_rfl) (by kernel_rfl) (by kernel_rfl)) ?_
  intro W base args ds gs before hval0 hW hcnd _
  have hval : ∀ (j : Nat) t v, Try.f4.params[j]? = some t → args[j]? = some v → Value.okWide Try.prog W .any base t v := hval0
  have hW' := hW
  obtain ⟨p, q, hA0, hV, rfl, hfz, hnd⟩ := hW
  have hA : DataW.TrodAll enc Try.prog W 0 (fun _ => true) true Try.f4.params.toList args.toList ds p := hA0
  rw [Try.params4] at hA hval
  obtain ⟨v0, v1, d0, d1, p0, p1, rfl, rfl, rfl, h0, h1⟩ := trodAll_two hA
  obtain ⟨rfl, rfl⟩ := trodVars_none hV
  clear hA0 hval0
  simp only [List.append_nil] at hW'
  have hlt : ∀ x ∈ p0 ++ p1, x.block < W.heap.size := fun x hx => by simpa using hW'.lt x hx
  obtain ⟨a, xs, c, b, off, rfl, hAR⟩ := acts_of (hval 0 33 v0 rfl rfl) h0
  obtain ⟨y, rfl, rfl, rfl, wy⟩ := open_int Try.underlying3 (hval 1 3 v1 rfl rfl) h1
  refine (apart_all W a xs b off c y hAR).mono fun e W' ⟨he, hx⟩ => ?_
  subst he
  have hB := hx.toBelow
  exact ⟨_, rfl, _, _, _, [], _, [], hW', trodAll_mk1 (shut_bool (by kernel_rfl) true),
    trodAll_mk2 (Below.trod Try.laidOut (by kernel_rfl) (of_decide_eq_true (by kernel_rfl)) h0 hB (fun x hx => hlt x (by simp [hx]))) (shut_int Try.underlying3 wy),
    rfl, hB.frame _, fun h => by cases h⟩

theorem apart_holds : Rows.EpochApartSaid :=
  OpenClaim.holds_of_wide 4 Try.f4 rfl rfl rfl rfl rfl rfl rfl ⟨rfl, rfl, rfl, rfl, rfl⟩ rfl rfl rfl rfl rfl (by kernel_rfl) Try.func4 (by kernel_rfl)
    (of_decide_eq_true (by kernel_rfl)) (by unfold Func.isWrapper; first | (rw [if_pos (by decide +kernel)]; kernel_rfl) | (rw [if_neg (by decide +kernel)]; exact ⟨rfl, rfl⟩))
    (fun os started H enc _ => apart_lifted os started H enc)

end Go.Proofs.Ytjphmbflggeciaa
