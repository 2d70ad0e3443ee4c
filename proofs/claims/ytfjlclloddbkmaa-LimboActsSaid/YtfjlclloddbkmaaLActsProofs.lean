/- Proved: Rows.LimboActsSaid: for every input LimboActs returns true and leaves its arguments as they read; no condition beyond the row's. -/
import Derived.Test.YtfjlclloddbkmaaLActs
import Derived.Test.YtfjlclloddbkmaaOpenActs
import Derived.Test.YtfjlclloddbkmaaRows
namespace Go.Proofs.Ytfjlclloddbkmaa
open Go.ChangeShapes Go.WideShapes Go.ChangeAt Go.RowKit Go.Cw

set_option maxRecDepth 100000 in
set_option maxHeartbeats 1000000 in
theorem acts_long (w : World) (a : Option Addr) (n c : Nat) (h : 80 < n) :
    Calls Try.prog 5 #[.slice a n c] w fun e w' => e = .returned (.bool true) ∧ Ext none_ w w' := by
  have hd : decide ((80 : Int) < (n : Int)) = true := by simp; omega
  clear h
  go_enter Try.func5, Try.ntmps5
  go_wp2_with fail
  refine (awake_any w).mono ?_
  rintro e w1 ⟨rfl, hx1⟩
  go_wp2_with fail
  refine (awake_any w1).mono ?_
  rintro e w2 ⟨rfl, hx2⟩
  go_wp2
  go_ret
  exact ⟨rfl, hx1.grow hx2⟩

theorem acts_all (w : World) (a : Option Addr) (xs : List A) (b off c : Nat) (hA : AR w a xs b off) :
    Calls Try.prog 5 #[.slice a xs.length c] w fun e w' => e = .returned (.bool true) ∧ Ext none_ w w' := by
  by_cases h : 80 < xs.length
  · exact acts_long w a _ c h
  · exact acts_any w a xs b off c hA (by omega)

set_option maxRecDepth 100000 in
theorem lacts_lifted (os : Os) (started : os.Started) (H : Type) (enc : TypeId × Value → H) :
    ReturnsInHanded {} Try.checked os 5 .any (Rows.limboActsSpec.pre6 enc Try.prog Try.f5 Rows.limboActsRow.domain false) (Rows.limboActsSpec.post enc Try.prog Try.f5 false true false false) := by
  refine returnsInHanded_of_change (C := Try.checked) Try.own started (by kernel_rfl) Try.func5
    (ChangeSpec.witness6 (enc := enc) (C := Try.checked) false ⟨#[], #[.slice none 0 0], []⟩ 8 (by kernel_rfl) (by kernel_rfl) (by kernel_rfl) (by kernel_rfl)) ?_
  intro W base args ds gs before hval0 hW hcnd _
  have hval : ∀ (j : Nat) t v, Try.f5.params[j]? = some t → args[j]? = some v → Value.okWide Try.prog W .any base t v := hval0
  have hW' := hW
  obtain ⟨p, q, hA0, hV, rfl, hfz, hnd⟩ := hW
  have hA : DataW.TrodAll enc Try.prog W 0 (fun _ => true) true Try.f5.params.toList args.toList ds p := hA0
  rw [Try.params5] at hA hval
  obtain ⟨v2, d2, rfl, rfl, h2⟩ := trodAll_one hA
  obtain ⟨rfl, rfl⟩ := trodVars_none hV
  clear hA0 hval0
  simp only [List.append_nil] at hW'
  have hlt : ∀ x ∈ p, x.block < W.heap.size := fun x hx => by simpa using hW'.lt x (by simpa using hx)
  obtain ⟨a, xs, c, b, off, rfl, hAR⟩ := acts_of (hval 0 36 v2 rfl rfl) h2
  refine (acts_all W a xs b off c hAR).mono fun e W' ⟨he, hx⟩ => ?_
  subst he
  have hB := hx.toBelow
  exact ⟨_, rfl, _, _, _, [], _, [], hW', trodAll_mk1 (shut_bool (by kernel_rfl) true),
    trodAll_mk1 (Below.trod Try.laidOut (by kernel_rfl) (of_decide_eq_true (by kernel_rfl)) h2 hB (fun x hx => hlt x hx)),
    rfl, hB.frame _, fun h => by cases h⟩

theorem lacts_holds : Rows.LimboActsSaid :=
  OpenClaim.holds_of_wide 5 Try.f5 rfl rfl rfl rfl rfl rfl rfl ⟨rfl, rfl, rfl, rfl, rfl⟩ rfl rfl rfl rfl rfl (by kernel_rfl) Try.func5 (by kernel_rfl)
    (of_decide_eq_true (by kernel_rfl)) (by unfold Func.isWrapper; first | (rw [if_pos (by decide +kernel)]; kernel_rfl) | (rw [if_neg (by decide +kernel)]; exact ⟨rfl, rfl⟩))
    (fun os started H enc _ => lacts_lifted os started H enc)

end Go.Proofs.Ytfjlclloddbkmaa
