/- The walk of the reference's Least. -/
import Derived.Test.YtjphmbflggeciaaERef
namespace Go.Proofs.Ytjphmbflggeciaa
open Go.RowKit Go.Cw

def lstep (x m : Int) : Int := if 0 ≤ x ∧ x < m then x else m
theorem rleast_take {R : List Int} {k : Nat} {x gl : Int} (h : R[k]? = some x) : rleast gl (R.take (k + 1)) = lstep x (rleast gl (R.take k)) := by
  obtain ⟨hl, rfl⟩ := List.getElem?_eq_some_iff.1 h
  unfold rleast
  rw [List.take_succ_eq_append_getElem hl, List.foldl_append]
  rfl

set_option maxHeartbeats 2000000 in
theorem rleast_walk (w : World) (base g i c : Nat) (gl : Int) (R : List Int) (hT : RTab w base g i c gl R) (hn : R.length ≤ 64) :
    Calls Try.prog 24 #[.pointer (some ⟨g, 0, none⟩)] w fun e w' => e = .returned (.int .i64 (rleast gl R)) ∧ w = w' := by
  obtain ⟨c0, c1⟩ := cells2 hT.blk
  go_enter Try.func24, Try.ntmps24
  go_wp2_with fail
  go_loopw [3, 4] (fun m j wr => ∃ k : Nat, k ≤ R.length ∧ m = .int .i64 (rleast gl (R.take k)) ∧ j = .int .i64 k ∧ w = wr) (fun _ j _ => R.length - (RowKit.intOf j).toNat)
  case atStart => exact ⟨0, by omega, rfl, rfl, rfl⟩
  case round =>
    obtain ⟨k, hk, rfl, rfl, rfl⟩ := hrel
    by_cases hlt : k < R.length
    · have hd : decide ((k : Int) < (R.length : Int)) = true := decide_eq_true (by omega)
      obtain ⟨x, hx⟩ : ∃ x, R[k]? = some x := ⟨_, List.getElem?_eq_getElem hlt⟩
      have hcx := hT.cell hx
      have Hl := Lib.hid (rleast_take (gl := gl) hx)
      generalize rleast gl (R.take k) = m at *
      by_cases h1 : 0 ≤ x
      · have hd1 : decide (0 ≤ x) = true := decide_eq_true h1
        by_cases h2 : x < m
        · have hd2 : decide (x < m) = true := decide_eq_true h2
          have Hs : Hid (lstep x m = x) := Lib.hid (by unfold lstep; rw [if_pos ⟨h1, h2⟩])
          clear h1 h2
          go_wp2
          exact ⟨⟨k + 1, by omega, by rw [Hl.out, Hs.out], by simp, trivial⟩, by simp [RowKit.intOf]; omega⟩
        · have hd2 : decide (x < m) = false := decide_eq_false h2
          have Hs : Hid (lstep x m = m) := Lib.hid (by unfold lstep; rw [if_neg (by omega)])
          clear h1 h2
          go_wp2
          exact ⟨⟨k + 1, by omega, by rw [Hl.out, Hs.out], by simp, trivial⟩, by simp [RowKit.intOf]; omega⟩
      · have hd1 : decide (0 ≤ x) = false := decide_eq_false h1
        have Hs : Hid (lstep x m = m) := Lib.hid (by unfold lstep; rw [if_neg (by omega)])
        clear h1
        go_wp2
        exact ⟨⟨k + 1, by omega, by rw [Hl.out, Hs.out], by simp, trivial⟩, by simp [RowKit.intOf]; omega⟩
    · have hd : decide ((k : Int) < (R.length : Int)) = false := decide_eq_false (by omega)
      have hkn : k = R.length := by omega
      rw [hkn, List.take_length]
      clear hkn
      go_wp2
      go_ret
      exact ⟨rfl, rfl⟩

end Go.Proofs.Ytjphmbflggeciaa
