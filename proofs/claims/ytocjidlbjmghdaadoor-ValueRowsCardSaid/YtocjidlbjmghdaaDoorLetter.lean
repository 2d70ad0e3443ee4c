/- The walks of the letter package's tests of runes and names. -/
import Derived.Test.YtocjidlbjmghdaaDoorStr
import Derived.Test.YtocjidlbjmghdaaDoorProg
namespace Go.Proofs.YtocjidlbjmghdaaDoor
open Go.RowKit Go.Cw

/-- is a rune a letter? -/
def letterP (r : Int) : Bool := decide ((97 ≤ r ∧ r ≤ 122) ∨ (65 ≤ r ∧ r ≤ 90) ∨ r = 95 ∨ (192 ≤ r ∧ r ≤ 591 ∧ r ≠ 215 ∧ r ≠ 247))

theorem ret_bool {a b : Bool} (h : a = b) : Ending.returned (.bool a) = Ending.returned (.bool b) := by rw [h]

set_option maxHeartbeats 1000000 in
theorem letter_any (w : World) (r : Int) : Calls Tryd.prog 86 #[.int .i32 r] w fun e w' => e = .returned (.bool (letterP r)) ∧ w' = w := by
  go_enter Tryd.func86, Tryd.ntmps86
  go_wp2
  all_goals
    go_ret
    refine ⟨ret_bool ?_, rfl⟩
    rw [Bool.eq_iff_iff]
    simp [letterP]
    try simp only [beq_iff_eq, beq_eq_false_iff_ne, ne_eq] at *
    try omega

set_option maxHeartbeats 1000000 in
theorem rletter_any (w : World) (r : Int) : Calls Tryd.prog 57 #[.int .i32 r] w fun e w' => e = .returned (.bool (letterP r)) ∧ w' = w := by
  go_enter Tryd.func57, Tryd.ntmps57
  go_wp2
  all_goals
    go_ret
    refine ⟨ret_bool ?_, rfl⟩
    rw [Bool.eq_iff_iff]
    simp [letterP]
    try simp only [beq_iff_eq, beq_eq_false_iff_ne, ne_eq] at *
    try omega

end Go.Proofs.YtocjidlbjmghdaaDoor
