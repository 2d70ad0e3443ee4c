/- The walk of awake: the document's examples of texts. -/
import Derived.Test.YtocjidlbjmghdaaDoorFold
namespace Go.Proofs.YtocjidlbjmghdaaDoor
open Go.RowKit Go.Cw

theorem SR.one (w : World) (s : ByteArray) : SR (w.alloc (.cells #[.string s] 9)) (some ⟨w.heap.size, 0, none⟩) [s] w.heap.size 0 :=
  ⟨fun _ => rfl, fun j t hj => by
    match j, hj with
    | 0, hj =>
      simp only [List.getElem?_cons_zero, Option.some.injEq] at hj
      subst hj
      exact cells1 (blk_new _ _)⟩
theorem rights1 (s : ByteArray) : rightsP [s] = rightP (runesF s s.size 0) := by
  unfold rightsP; rw [List.all_cons, List.all_nil, Bool.and_true, runes_F]
theorem right_one (w : World) (s : ByteArray) (hs : s.size ≤ 100000) (v : Bool) (hv : rightP (runesF s s.size 0) = v) :
    Calls Tryd.prog 21 #[.slice (some ⟨w.heap.size, 0, none⟩) 1 1] (w.alloc (.cells #[.string s] 9)) fun e w' => e = .returned (.bool v) ∧ Ext none_ w w' := by
  have h := right_any (w.alloc (.cells #[.string s] 9)) _ _ _ _ 1 (SR.one w s) (by simp) (by simpa using hs)
  rw [rights1, hv] at h
  exact h.mono fun e w' ⟨h1, h2⟩ => ⟨h1, (Ext.alloc _ _).grow h2⟩

theorem like_lit (w : World) (s p : ByteArray) (hs : s.size ≤ 200) (hp : p.size ≤ 200) (v : Bool) (hv : likeP (zs (runesF s s.size 0)) (zs (runesF p p.size 0)) = v) :
    Calls Tryd.prog 22 #[.string s, .string p] w fun e w' => e = .returned (.tuple #[.bool v, .int .i64 0]) ∧ Ext none_ w w' := by
  have h := like_any w s p (by omega) (by omega) (by have := runes_len s; omega) (by have := runes_len p; omega)
  rw [runes_F, runes_F, hv] at h
  exact h
theorem fold_lit (w : World) (s t : ByteArray) (hs : s.size ≤ 200) (hT : Lib.Utf8Tabs 1 2 w) (hv : foldP (runesF s s.size 0) = t.data.toList) :
    Calls Tryd.prog 25 #[.string s] w fun e w' => e = .returned (.string t) ∧ Ext none_ w w' := by
  have h := fold_any w s (by omega) hT
  rw [runes_F, hv] at h
  exact h
theorem quote_lit (w : World) (s t : ByteArray) (hs : s.size ≤ 200) (hv : quoteP (runesF s s.size 0) = t.data.toList) :
    Calls Tryd.prog 32 #[.string s] w fun e w' => e = .returned (.string t) ∧ Ext none_ w w' := by
  have h := quote_any w s (by omega)
  rw [runes_F, hv] at h
  exact h
theorem Tabs.ext0 {w w' : World} (h : Lib.Utf8Tabs 1 2 w) (hx : Ext none_ w w') : Lib.Utf8Tabs 1 2 w' := Utf8Tabs_below h hx.toBelow

set_option maxHeartbeats 4000000 in
set_option maxRecDepth 100000 in
theorem awake_any (w : World) (hT : Lib.Utf8Tabs 1 2 w) : Calls Tryd.prog 19 #[] w fun e w' => e = .returned (.bool true) ∧ Ext none_ w w' := by
  go_enter Tryd.func19, Tryd.ntmps19
  go_wp2_with fail
  refine (like_lit w _ _ (by decide) (by decide) true (by kernel_rfl)).mono ?_
  rintro e w1 ⟨rfl, hx1⟩
  go_wp2_with fail
  refine (like_lit w1 _ _ (by decide) (by decide) true (by kernel_rfl)).mono ?_
  rintro e w2 ⟨rfl, hx2⟩
  have hx2' := hx1.grow hx2
  clear hx1 hx2
  go_wp2_with fail
  refine (right_one w2 _ (by decide) true (by kernel_rfl)).mono ?_
  rintro e w3 ⟨rfl, hx3⟩
  have hx3' := hx2'.grow hx3
  clear hx2' hx3
  go_wp2_with fail
  refine (right_one w3 _ (by decide) false (by kernel_rfl)).mono ?_
  rintro e w4 ⟨rfl, hx4⟩
  have hx4' := hx3'.grow hx4
  clear hx3' hx4
  go_wp2_with fail
  refine (right_one w4 _ (by decide) false (by kernel_rfl)).mono ?_
  rintro e w5 ⟨rfl, hx5⟩
  have hx5' := hx4'.grow hx5
  clear hx4' hx5
  go_wp2_with fail
  refine (right_one w5 _ (by decide) false (by kernel_rfl)).mono ?_
  rintro e w6 ⟨rfl, hx6⟩
  have hx6' := hx5'.grow hx6
  clear hx5' hx6
  go_wp2_with fail
  refine (fold_lit w6 _ ⟨#[195, 164, 98, 99, 195, 151]⟩ (by decide) (Tabs.ext0 hT hx6') (by kernel_rfl)).mono ?_
  rintro e w7 ⟨rfl, hx7⟩
  have hx7' := hx6'.grow hx7
  clear hx6' hx7
  go_wp2_with fail
  refine (quote_lit w7 _ ⟨#[34, 115, 97, 121, 32, 92, 34, 104, 105, 92, 34, 34]⟩ (by decide) (by kernel_rfl)).mono ?_
  rintro e w8 ⟨rfl, hx8⟩
  have hx8' := hx7'.grow hx8
  clear hx7' hx8
  go_wp2
  go_ret
  exact ⟨rfl, hx8'⟩

end Go.Proofs.YtocjidlbjmghdaaDoor
