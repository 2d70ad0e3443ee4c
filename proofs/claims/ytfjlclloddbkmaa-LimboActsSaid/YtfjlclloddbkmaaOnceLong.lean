/- The walk of LimboOnce where a row holds more than 30. -/
import Derived.Test.YtfjlclloddbkmaaOnce
namespace Go.Proofs.Ytfjlclloddbkmaa
open Go.RowKit Go.Cw

set_option maxHeartbeats 1000000 in
theorem once_long (w : World) (a1 a2 : Option Addr) (n m c1 c2 : Nat) (h : 30 < n ∨ 30 < m) :
    Calls Try.prog 3 #[.slice a1 n c1, .slice a2 m c2] w fun e w' => e = .returned (.bool true) ∧ Ext none_ w w' := by
  by_cases hn : 30 < n
  · have hd : decide ((30 : Int) < (n : Int)) = true := by simp; omega
    clear h hn
    go_enter Try.func3, Try.ntmps3
    go_wp2_with fail
    refine (awake_any w).mono ?_
    rintro e w1 ⟨rfl, hx1⟩
    go_wp2_with fail
    refine (awake_any w1).mono ?_
    rintro e w2 ⟨rfl, hx2⟩
    go_wp2
    go_ret
    exact ⟨rfl, hx1.grow hx2⟩
  · have hd : decide ((30 : Int) < (n : Int)) = false := by simp; omega
    have hm : decide ((30 : Int) < (m : Int)) = true := by simp; omega
    clear h hn
    go_enter Try.func3, Try.ntmps3
    go_wp2_with fail
    refine (awake_any w).mono ?_
    rintro e w1 ⟨rfl, hx1⟩
    go_wp2_with fail
    refine (awake_any w1).mono ?_
    rintro e w2 ⟨rfl, hx2⟩
    go_wp2
    go_ret
    exact ⟨rfl, hx1.grow hx2⟩

end Go.Proofs.Ytfjlclloddbkmaa
