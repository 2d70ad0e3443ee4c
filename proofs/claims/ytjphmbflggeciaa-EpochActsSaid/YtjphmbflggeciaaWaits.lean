/- The walk of EpochWaits. -/
import Derived.Test.YtjphmbflggeciaaAwake
namespace Go.Proofs.Ytjphmbflggeciaa
open Go.RowKit Go.Cw

def fe (z : Int) : Int := (z.tmod 1000000 + 1000000) % 1000000
def ke (z : Int) : Int := (z.tmod 50 + 50) % 50
theorem fe_bd (z : Int) : 0 ≤ fe z ∧ fe z ≤ 999999 := by unfold fe; omega
theorem ke_bd (z : Int) : 0 ≤ ke z ∧ ke z ≤ 49 := by unfold ke; omega
theorem tmodk (z k : Int) (hk : 0 < k) : -k < z.tmod k ∧ z.tmod k < k := by
  have h1 := Int.tmod_lt_of_pos z hk
  have h2 := Int.tmod_lt_of_pos (-z) hk
  rw [Int.neg_tmod] at h2
  omega

theorem z01 : z0 ≠ z1 := by decide
theorem ew1 (G : Int) : enterN 3 G [] z1 = G ∧ isE 3 [] z1 false 31 = 0 ∧ enterM 3 G [] z1 = [(z1, G)] := by
  simp [enterN, enterM, isE, mget, mput]
theorem ew2 (G : Int) : isE 3 [(z1, G)] z0 false 31 = 0 ∧ enterM 3 (G + 1) [(z1, G)] z0 = [(z1, G), (z0, G + 1)] ∧ leaveM 3 [(z1, G), (z0, G + 1)] z0 = [(z1, G)] := by
  simp [enterM, leaveM, isE, mget, mput, mdel]
theorem ew3 (G : Int) : isE 3 [(z1, G)] z1 true 51 = 0 ∧ leaveM 3 [(z1, G)] z1 = [] := by
  simp [leaveM, isE, mget, mdel]
theorem adv_same {gl : Int} (h : gl < 2147483647) : advN gl gl = gl + 1 ∧ advE gl gl = 0 ∧ advG gl gl = gl + 1 := by
  have : gl ≠ 2147483647 := by omega
  simp [advN, advE, advG, this]
theorem adv_less {gl m : Int} (h : gl < 2147483647) (hm : m < gl) : advN gl m = 0 ∧ advE gl m = 60 ∧ advG gl m = gl := by
  have : gl ≠ 2147483647 := by omega
  simp [advN, advE, advG, this, hm]

set_option maxHeartbeats 4000000 in
theorem waits_any (w : World) (z1' z2' : Int) : Calls Try.prog 3 #[.int .i64 z1', .int .i64 z2'] w fun e w' => e = .returned (.bool true) ∧ Ext none_ w w' := by
  obtain ⟨a1, a2⟩ := tmodk z1' 1000000 (by decide)
  obtain ⟨b1, b2⟩ := tmodk z2' 50 (by decide)
  go_enter Try.func3, Try.ntmps3
  go_wp2_with fail
  refine (awake_any w).mono ?_
  rintro e w1 ⟨rfl, hx1⟩
  go_wp2_with fail
  have e1 : (z1'.tmod 1000000 + 1000000) % 1000000 = fe z1' := rfl
  have e2 : (z2'.tmod 50 + 50) % 50 = ke z2' := rfl
  have e3 : z1'.tmod 1000000 % 1000000 = fe z1' := by unfold fe; omega
  rw [e3]
  simp only [e1, e2]
  have hf := fe_bd z1'
  have hk := ke_bd z2'
  generalize fe z1' = f at *
  generalize ke z2' = kk at *
  obtain ⟨k, rfl⟩ := Int.eq_ofNat_of_zero_le hk.1
  clear e1 e2 e3 a1 a2 b1 b2
  refine (new_any w1 w.heap.size 3 f hx1.size (by omega) (by omega)).mono ?_
  rintro e w2 ⟨g, mb, rfl, hT2, hx2⟩
  have hx2' := hx1.grow hx2
  clear hx1 hx2
  have hxa := hx2'
  go_wp2_with fail
  clear hxa
  go_loopw [9] (fun i wr => ∃ (n : Nat), n ≤ k ∧ i = .int .i64 n ∧ TableIs wr w.heap.size g mb 3 (f + n) [] ∧ Ext none_ w wr) (fun i _ => k - (RowKit.intOf i).toNat)
  case atStart => exact ⟨0, Nat.zero_le _, rfl, by simpa using hT2, hx2'⟩
  case round =>
    obtain ⟨n, hn, rfl, hTr, hx⟩ := hrel
    clear hT2 hx2'
    by_cases hlt : n < k
    · go_wp2_with fail
      refine (advance_any wr _ _ _ _ _ _ hTr (by omega) (by simp)).mono ?_
      rintro e w3 ⟨m, hm, rfl, hT3, hx3⟩
      obtain rfl : m = f + n := hm.unique ⟨by omega, by simp, by simp⟩
      obtain ⟨q1, q2, q3⟩ := adv_same (show f + (n : Int) < 2147483647 by omega)
      rw [q3] at hT3
      rw [q1, q2]
      have hx3' := hTr.since hx hx3
      clear hTr hx hx3 hm q1 q2 q3
      go_wp2
      refine ⟨⟨n + 1, by omega, by simp, ?_, hx3'⟩, by simp [RowKit.intOf]; omega⟩
      rw [show f + ((n + 1 : Nat) : Int) = f + n + 1 by omega]; exact hT3
    · have hnk : n = k := by omega
      subst hnk
      have hG : 0 ≤ f + n ∧ f + n ≤ 1000100 := by omega
      go_wp2_with fail
      refine (enter_any wr _ _ _ _ _ _ z1 hTr).mono ?_
      rw [(ew1 (f + n)).1, (ew1 (f + n)).2.1, (ew1 (f + n)).2.2]
      rintro e w3 ⟨rfl, hT3, hx3⟩
      have hx3' := hTr.since hx hx3
      generalize hGe : f + (n : Int) = G at *
      clear hTr hx hx3
      obtain ⟨q1, q2, q3⟩ := adv_same (show G < 2147483647 by omega)
      obtain ⟨p1, p2, p3⟩ := adv_less (show G + 1 < 2147483647 by omega) (show G < G + 1 by omega)
      obtain ⟨r1, r2, r3⟩ := adv_same (show G + 1 < 2147483647 by omega)
      have Hp1 := Lib.hid p1
      have Hp2 := Lib.hid p2
      have Hp3 := Lib.hid p3
      have Hr1 := Lib.hid r1
      have Hr2 := Lib.hid r2
      clear p1 p2 p3 r1 r2 r3
      go_wp2_with fail
      refine (advance_any w3 _ _ _ _ _ _ hT3 (by omega) (by simp)).mono ?_
      rintro e w4 ⟨m, hm, rfl, hT4, hx4⟩
      obtain rfl : m = G := hm.unique ⟨by omega, by simp, by simp⟩
      rw [q3] at hT4
      rw [q1, q2]
      have hx4' := hT3.since hx3' hx4
      clear hT3 hx3' hx4 hm q1 q2 q3
      go_wp2_with fail
      clear hGe
      go_loopw [16] (fun i wr => ∃ (j : Nat), j ≤ n ∧ i = .int .i64 j ∧ TableIs wr w.heap.size g mb 3 (m + 1) [(z1, m)] ∧ Ext none_ w wr) (fun i _ => n - (RowKit.intOf i).toNat)
      case atStart => exact ⟨0, Nat.zero_le _, rfl, hT4, hx4'⟩
      case round =>
        obtain ⟨j, hj, rfl, hTr, hx⟩ := hrel
        clear hT4 hx4'
        by_cases hlt2 : j < n
        · go_wp2_with fail
          refine (enter_any wr _ _ _ _ _ _ z0 hTr).mono ?_
          rw [(ew2 m).1, (ew2 m).2.1]
          rintro e w5 ⟨rfl, hT5, hx5⟩
          have hx5' := hTr.since hx hx5
          clear hTr hx hx5
          go_wp2_with fail
          refine (advance_any w5 _ _ _ _ _ _ hT5 (by omega) (by simp)).mono ?_
          rintro e w6 ⟨m', hm, rfl, hT6, hx6⟩
          obtain rfl : m' = m := hm.unique ⟨by omega, by simp; omega, by simp⟩
          rw [Hp3.out] at hT6
          rw [Hp1.out, Hp2.out]
          have hx6' := hT5.since hx5' hx6
          clear hT5 hx5' hx6 hm
          go_wp2_with fail
          refine (global_any w6 _ _ _ _ _ _ hT6).mono ?_
          rintro e w7 ⟨rfl, rfl⟩
          go_wp2_with fail
          refine (least_any w6 _ _ _ _ _ _ hT6 (by simp)).mono ?_
          rintro e w7 ⟨m2, rfl, hm, hx7⟩
          obtain rfl : m2 = m' := hm.unique ⟨by omega, by simp; omega, by simp⟩
          have hT7 := hT6.ext0 hx7
          have hx7' := hx6'.grow hx7
          clear hT6 hx6' hx7 hm
          go_wp2_with fail
          refine (leave_any w7 _ _ _ _ _ _ z0 hT7).mono ?_
          rw [(ew2 m2).2.2]
          rintro e w8 ⟨rfl, hT8, hx8⟩
          have hx8' := hT7.since hx7' hx8
          clear hT7 hx7' hx8
          generalize isE 3 [(z1, m2), (z0, m2 + 1)] z0 true 51 = dd at *
          go_wp2
          exact ⟨⟨j + 1, by omega, by simp, hT8, hx8'⟩, by simp [RowKit.intOf]; omega⟩
        · go_wp2_with fail
          refine (leave_any wr _ _ _ _ _ _ z1 hTr).mono ?_
          rw [(ew3 m).1, (ew3 m).2]
          rintro e w5 ⟨rfl, hT5, hx5⟩
          have hx5' := hTr.since hx hx5
          clear hTr hx hx5
          go_wp2_with fail
          refine (least_any w5 _ _ _ _ _ _ hT5 (by simp)).mono ?_
          rintro e w6 ⟨m2, rfl, hm, hx6⟩
          obtain rfl : m2 = m + 1 := hm.unique ⟨by omega, by simp, by simp⟩
          have hT6 := hT5.ext0 hx6
          have hx6' := hx5'.grow hx6
          clear hT5 hx5' hx6 hm
          go_wp2_with fail
          refine (advance_any w6 _ _ _ _ _ _ hT6 (by omega) (by simp)).mono ?_
          rintro e w7 ⟨m2, hm, rfl, hT7, hx7⟩
          obtain rfl : m2 = m + 1 := hm.unique ⟨by omega, by simp, by simp⟩
          rw [Hr1.out, Hr2.out]
          have hx7' := hT6.since hx6' hx7
          have hl : m + 1 + 1 = m + 2 := by omega
          rw [hl]
          clear hT6 hx6' hx7 hm hl hT7
          go_wp2
          go_ret
          exact ⟨rfl, hx7'⟩

end Go.Proofs.Ytjphmbflggeciaa
