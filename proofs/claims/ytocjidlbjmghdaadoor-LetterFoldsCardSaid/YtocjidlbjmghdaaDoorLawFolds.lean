/- The walk of LetterFolds. -/
import Derived.Test.YtocjidlbjmghdaaDoorAwake
import Derived.Test.YtocjidlbjmghdaaDoorText
namespace Go.Proofs.YtocjidlbjmghdaaDoor
open Go.RowKit Go.Cw

set_option maxHeartbeats 4000000 in
set_option maxRecDepth 100000 in
theorem folds_all (w : World) (hT : Lib.Utf8Tabs 1 2 w) (s : ByteArray) (n : Int) (hn : -9223372036854775808 ≤ n ∧ n ≤ 9223372036854775807) :
    Calls Tryd.prog 5 #[.string s, .int .i64 n] w fun e w' => e = .returned (.bool true) ∧ Ext none_ w w' := by
  go_enter Tryd.func5, Tryd.ntmps5
  go_wp2_with fail
  refine (awake_any w hT).mono ?_
  rintro e w1 ⟨rfl, hx1⟩
  have hT1 := Tabs.ext0 hT hx1
  by_cases h1 : 2000 < s.size
  · have hd : decide (2000 < (s.size : Int)) = true := by simp; omega
    go_wp2_with fail
    refine (awake_any w1 hT1).mono ?_
    rintro e w2 ⟨rfl, hx2⟩
    go_wp2
    go_ret
    exact ⟨rfl, hx1.grow hx2⟩
  · have hd : decide (2000 < (s.size : Int)) = false := by simp; omega
    have hs : s.size ≤ 100000 := by omega
    go_wp2_with fail
    refine (fold_any w1 s hs hT1).mono ?_
    rintro e w2 ⟨rfl, hx2⟩
    clear hT hT1
    go_wp2_with fail
    refine (rfold_any w2 s hs).mono ?_
    rintro e w3 ⟨rfl, hx3⟩
    generalize (⟨(foldP (runes s)).toArray⟩ : ByteArray) = f
    go_wp2_with fail
    refine (count_any w3 s hs).mono ?_
    rintro e w4 ⟨rfl, hx4⟩
    go_wp2_with fail
    refine (runes_any w4 s hs).mono ?_
    rintro e w5 ⟨v5, rfl, hown5, hx5⟩
    obtain ⟨a5, c5, b5, rfl, _⟩ := hown5.read
    rw [zs_len]
    clear hown5
    go_wp2_with fail
    refine (cut_any w5 s n hs hn).mono ?_
    rintro e w6 ⟨rfl, hx6⟩
    go_wp2_with fail
    refine (rcut_any w6 s n hs hn).mono ?_
    rintro e w7 ⟨rfl, hx7⟩
    generalize cutB s n.toNat = g
    go_wp2
    go_ret
    exact ⟨rfl, (((((hx1.grow hx2).grow hx3).grow hx4).grow hx5).grow hx6).grow hx7⟩

end Go.Proofs.YtocjidlbjmghdaaDoor
