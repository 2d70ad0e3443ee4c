/- The walk of LetterCuts. -/
import Derived.Test.YtocjidlbjmghdaaDoorAwake
import Derived.Test.YtocjidlbjmghdaaDoorCutPlain
namespace Go.Proofs.YtocjidlbjmghdaaDoor
open Go.RowKit Go.Cw

set_option maxHeartbeats 4000000 in
set_option maxRecDepth 100000 in
theorem cuts_all (w : World) (hT : Lib.Utf8Tabs 1 2 w) (s : ByteArray) (n : Int) (hn : -9223372036854775808 ≤ n ∧ n ≤ 9223372036854775807) (m : Int) (hm : -9223372036854775808 ≤ m ∧ m ≤ 9223372036854775807) :
    Calls Tryd.prog 6 #[.string s, .int .i64 n, .int .i64 m] w fun e w' => e = .returned (.bool true) ∧ Ext none_ w w' := by
  go_enter Tryd.func6, Tryd.ntmps6
  go_wp2_with fail
  refine (awake_any w hT).mono ?_
  rintro e w1 ⟨rfl, hx1⟩
  have hT1 := Tabs.ext0 hT hx1
  by_cases h1 : 2000 < s.size
  · have hd : decide (2000 < (s.size : Int)) = true := by simp; omega
    go_wp2_with fail
    refine (awake_any w1 hT1).mono ?_
    rintro e w2 ⟨rfl, hx2⟩
    go_wp2
    go_ret
    exact ⟨rfl, hx1.grow hx2⟩
  · have hd : decide (2000 < (s.size : Int)) = false := by simp; omega
    have hs : s.size ≤ 100000 := by omega
    clear hT hT1
    have hlen := runes_len s
    have ha := cutB_size s n.toNat
    have hal := endL_le n.toNat s.data.toList
    rw [show s.data.toList.length = s.size from Array.length_toList] at hal
    have hca : (runes (cutB s n.toNat)).length = min n.toNat (runes s).length := by rw [cut_runes, List.length_take]
    have hch := cut_head s n.toNat
    have hcr : (runes (s.extract (cutB s n.toNat).size s.size)).length = (runes s).length - n.toNat := by rw [cut_rest, List.length_drop]
    have hcc : cutB (cutB s n.toNat) m.toNat = cutB s (min n m).toNat := by
      rw [cut_cut]; congr 1; omega
    go_wp2_with fail
    refine (cut_any w1 s n hs hn).mono ?_
    rintro e w2 ⟨rfl, hx2⟩
    rw [← ha] at hal
    clear ha
    generalize cutB s n.toNat = A at *
    go_wp2_with fail
    refine (count_any w2 s hs).mono ?_
    rintro e w3 ⟨rfl, hx3⟩
    generalize (runes s).length = K at *
    obtain ⟨W, hW⟩ : ∃ W, W = min n.toNat K := ⟨_, rfl⟩
    have hWK : W ≤ K := by omega
    have hwant : max (min n (K : Int)) 0 = (W : Int) := by omega
    have hsub : ((K - W : Nat) : Int) = (K : Int) - (W : Int) := by omega
    have hKn : K - n.toNat = K - W := by omega
    rw [hKn] at hcr
    rw [← hW] at hca
    have Hcc := Lib.hid hcc
    have Hca := Lib.hid hca
    have Hcr := Lib.hid hcr
    clear hcc hca hcr hKn hW
    have hmn : -9223372036854775808 ≤ min n m ∧ min n m ≤ 9223372036854775807 := by omega
    go_wp2_with fail
    refine (count_any w3 A (by omega)).mono ?_
    rintro e w4 ⟨rfl, hx4⟩
    rw [Hca.out]
    go_wp2_with fail
    refine (count_any w4 (s.extract A.size s.size) (by rw [ByteArray.size_extract]; omega)).mono ?_
    rintro e w5 ⟨rfl, hx5⟩
    rw [Hcr.out]
    go_wp2_with fail
    refine (cut_any w5 A m (by omega) hm).mono ?_
    rintro e w6 ⟨rfl, hx6⟩
    rw [Hcc.out]
    go_wp2_with fail
    refine (cut_any w6 s (min n m) hs hmn).mono ?_
    rintro e w7 ⟨rfl, hx7⟩
    generalize cutB s (min n m).toNat = B
    go_wp2
    go_ret
    exact ⟨rfl, (((((hx1.grow hx2).grow hx3).grow hx4).grow hx5).grow hx6).grow hx7⟩

end Go.Proofs.YtocjidlbjmghdaaDoor
