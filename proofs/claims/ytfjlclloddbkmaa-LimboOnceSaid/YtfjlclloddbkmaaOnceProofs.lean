/- Proved: Rows.LimboOnceSaid: for every input LimboOnce returns true and leaves its arguments as they read; no condition beyond the row's. -/
import Derived.Test.YtfjlclloddbkmaaOpen
import Derived.Test.YtfjlclloddbkmaaRows
namespace Go.Proofs.Ytfjlclloddbkmaa
open Go.ChangeShapes Go.WideShapes Go.ChangeAt Go.RowKit Go.Cw

theorem once_all (w : World) (a1 a2 : Option Addr) (ks : List K) (zs : List Int) (b1 o1 b2 o2 c1 c2 : Nat) (hk : KR w a1 ks b1 o1) (hz : IR w a2 zs b2 o2) :
    Calls Try.prog 3 #[.slice a1 ks.length c1, .slice a2 zs.length c2] w fun e w' => e = .returned (.bool true) ∧ Ext none_ w w' := by
  by_cases h : 30 < ks.length ∨ 30 < zs.length
  · exact once_long w a1 a2 _ _ c1 c2 h
  · exact once_any w a1 a2 ks zs b1 o1 b2 o2 c1 c2 hk hz (by omega) (by omega)

set_option maxRecDepth 100000 in
theorem once_lifted (os : Os) (started : os.Started) (H : Type) (enc : TypeId × Value → H) :
    ReturnsInHanded {} Try.checked os 3 .any (Rows.limboOnceSpec.pre6 enc Try.prog Try.f3 Rows.limboOnceRow.domain false) (Rows.limboOnceSpec.post enc Try.prog Try.f3 false true false false) := by
  refine returnsInHanded_of_change (C := Try.checked) Try.own started (by kernel_rfl) Try.func3
    (ChangeSpec.witness6 (enc := enc) (C := Try.checked) false ⟨#[], #[.slice none 0 0, .slice none 0 0], []⟩ 8 (by kernel_rfl) (by kernel_rfl) (by kernel_rfl) (by kernel_rfl)) ?_
  intro W base args ds gs before hval0 hW hcnd _
  have hval : ∀ (j : Nat) t v, Try.f3.params[j]? = some t → args[j]? = some v → Value.okWide Try.prog W .any base t v := hval0
  have hW' := hW
  obtain ⟨p, q, hA0, hV, rfl, hfz, hnd⟩ := hW
  have hA : DataW.TrodAll enc Try.prog W 0 (fun _ => true) true Try.f3.params.toList args.toList ds p := hA0
  rw [Try.params3] at hA hval
  obtain ⟨v0, v1, d0, d1, p0, p1, rfl, rfl, rfl, h0, h1⟩ := trodAll_two hA
  obtain ⟨rfl, rfl⟩ := trodVars_none hV
  clear hA0 hval0
  simp only [List.append_nil] at hW'
  have hlt : ∀ x ∈ p0 ++ p1, x.block < W.heap.size := fun x hx => by simpa using hW'.lt x hx
  obtain ⟨a1, ks, c1, b1, o1, rfl, hk⟩ := keys_of (hval 0 22 v0 rfl rfl) h0
  obtain ⟨a2, zs, c2, b2, o2, rfl, hz⟩ := zs_of (hval 1 23 v1 rfl rfl) h1
  refine (once_all W a1 a2 ks zs b1 o1 b2 o2 c1 c2 hk hz).mono fun e W' ⟨he, hx⟩ => ?_
  subst he
  have hB := hx.toBelow
  exact ⟨_, rfl, _, _, _, [], _, [], hW', trodAll_mk1 (shut_bool (by kernel_rfl) true),
    trodAll_mk2 (Below.trod Try.laidOut (by kernel_rfl) (of_decide_eq_true (by kernel_rfl)) h0 hB (fun x hx => hlt x (by simp [hx]))) (Below.trod Try.laidOut (by kernel_rfl) (of_decide_eq_true (by kernel_rfl)) h1 hB (fun x hx => hlt x (by simp [hx]))),
    rfl, hB.frame _, fun h => by cases h⟩

theorem once_holds : Rows.LimboOnceSaid :=
  OpenClaim.holds_of_wide 3 Try.f3 rfl rfl rfl rfl rfl rfl rfl ⟨rfl, rfl, rfl, rfl, rfl⟩ rfl rfl rfl rfl rfl (by kernel_rfl) Try.func3 (by kernel_rfl)
    (of_decide_eq_true (by kernel_rfl)) (by unfold Func.isWrapper; first | (rw [if_pos (by decide +kernel)]; kernel_rfl) | (rw [if_neg (by decide +kernel)]; exact ⟨rfl, rfl⟩))
    (fun os started H enc _ => once_lifted os started H enc)

end Go.Proofs.Ytfjlclloddbkmaa
