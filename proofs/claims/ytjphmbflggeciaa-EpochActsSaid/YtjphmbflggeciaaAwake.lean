/- The walk of the law package's own awake: it returns true. -/
import Derived.Test.YtjphmbflggeciaaFns
namespace Go.Proofs.Ytjphmbflggeciaa
open Go.RowKit Go.Cw

abbrev z0 : Z := ⟨0, by decide⟩
abbrev z1 : Z := ⟨1, by decide⟩

theorem aw1 : enterN 2 5 [] z0 = 5 ∧ isE 2 [] z0 false 31 = 0 ∧ enterM 2 5 [] z0 = [(z0, 5)] := by decide
theorem aw2 : refN 2 6 [(z0, 5)] z0 = 6 ∧ refE 2 [(z0, 5)] z0 = 0 ∧ refM 2 6 [(z0, 5)] z0 = [(z0, 6)] := by decide
theorem aw3 : advN 5 5 = 6 ∧ advE 5 5 = 0 ∧ advG 5 5 = 6 := by decide
theorem aw4 : advN 6 5 = 0 ∧ advE 6 5 = 60 ∧ advG 6 5 = 6 := by decide
theorem aw5 : advN 6 6 = 7 ∧ advE 6 6 = 0 ∧ advG 6 6 = 7 := by decide

set_option maxHeartbeats 2000000 in
theorem awake_any (w : World) : Calls Try.prog 6 #[] w fun e w' => e = .returned (.bool true) ∧ Ext none_ w w' := by
  go_enter Try.func6, Try.ntmps6
  go_wp2_with fail
  refine (new_any w w.heap.size 2 5 (Nat.le_refl _) (by omega) (by omega)).mono ?_
  rintro e w1 ⟨g, mb, rfl, hT1, hx1⟩
  go_wp2_with fail
  refine (enter_any w1 _ _ _ _ _ _ z0 hT1).mono ?_
  rw [aw1.1, aw1.2.1, aw1.2.2]
  rintro e w2 ⟨rfl, hT2, hx2⟩
  have hx2' := hT1.since hx1 hx2
  clear hT1 hx1 hx2
  go_wp2_with fail
  refine (advance_any w2 _ _ _ _ _ _ hT2 (by omega) (by simp)).mono ?_
  rintro e w3 ⟨m, hm, rfl, hT3, hx3⟩
  obtain rfl : m = 5 := hm.unique ⟨by decide, by simp, by simp⟩
  rw [aw3.2.2] at hT3
  rw [aw3.1, aw3.2.1]
  have hx3' := hT2.since hx2' hx3
  clear hT2 hx2' hx3 hm
  go_wp2_with fail
  refine (advance_any w3 _ _ _ _ _ _ hT3 (by omega) (by simp)).mono ?_
  rintro e w4 ⟨m, hm, rfl, hT4, hx4⟩
  obtain rfl : m = 5 := hm.unique ⟨by decide, by simp, by simp⟩
  rw [aw4.2.2] at hT4
  rw [aw4.1, aw4.2.1]
  have hx4' := hT3.since hx3' hx4
  clear hT3 hx3' hx4 hm
  go_wp2_with fail
  refine (refresh_any w4 _ _ _ _ _ _ z0 hT4).mono ?_
  rw [aw2.1, aw2.2.1, aw2.2.2]
  rintro e w5 ⟨rfl, hT5, hx5⟩
  have hx5' := hT4.since hx4' hx5
  clear hT4 hx4' hx5
  go_wp2_with fail
  refine (advance_any w5 _ _ _ _ _ _ hT5 (by omega) (by simp)).mono ?_
  rintro e w6 ⟨m, hm, rfl, hT6, hx6⟩
  obtain rfl : m = 6 := hm.unique ⟨by decide, by simp, by simp⟩
  rw [aw5.1, aw5.2.1]
  have hx6' := hT5.since hx5' hx6
  clear hT5 hx5' hx6 hm hT6
  go_wp2
  go_ret
  exact ⟨rfl, hx6'⟩

end Go.Proofs.Ytjphmbflggeciaa
