/- The walk of LetterFits. -/
import Derived.Test.YtocjidlbjmghdaaDoorAwake
import Derived.Test.YtocjidlbjmghdaaDoorRefLike
namespace Go.Proofs.YtocjidlbjmghdaaDoor
open Go.RowKit Go.Cw

set_option maxHeartbeats 4000000 in
set_option maxRecDepth 100000 in
theorem fits_long (w : World) (hT : Lib.Utf8Tabs 1 2 w) (s p : ByteArray) (h : 900 < s.size ∨ 900 < p.size) :
    Calls Tryd.prog 4 #[.string s, .string p] w fun e w' => e = .returned (.bool true) ∧ Ext none_ w w' := by
  go_enter Tryd.func4, Tryd.ntmps4
  go_wp2_with fail
  refine (awake_any w hT).mono ?_
  rintro e w1 ⟨rfl, hx1⟩
  have hT1 := Tabs.ext0 hT hx1
  by_cases h1 : 900 < s.size
  · have hd : decide (900 < (s.size : Int)) = true := by simp; omega
    go_wp2_with fail
    refine (awake_any w1 hT1).mono ?_
    rintro e w2 ⟨rfl, hx2⟩
    go_wp2
    go_ret
    exact ⟨rfl, hx1.grow hx2⟩
  · have hd : decide (900 < (s.size : Int)) = false := by simp; omega
    have hd2 : decide (900 < (p.size : Int)) = true := by simp; omega
    go_wp2_with fail
    refine (awake_any w1 hT1).mono ?_
    rintro e w2 ⟨rfl, hx2⟩
    go_wp2
    go_ret
    exact ⟨rfl, hx1.grow hx2⟩

set_option maxHeartbeats 4000000 in
set_option maxRecDepth 100000 in
theorem fits_any (w : World) (hT : Lib.Utf8Tabs 1 2 w) (s p : ByteArray) (hs : s.size ≤ 900) (hp : p.size ≤ 900) :
    Calls Tryd.prog 4 #[.string s, .string p] w fun e w' => e = .returned (.bool true) ∧ Ext none_ w w' := by
  have hd : decide (900 < (s.size : Int)) = false := by simp; omega
  have hd2 : decide (900 < (p.size : Int)) = false := by simp; omega
  go_enter Tryd.func4, Tryd.ntmps4
  go_wp2_with fail
  refine (awake_any w hT).mono ?_
  rintro e w1 ⟨rfl, hx1⟩
  clear hT
  by_cases hm : 200 < (runes s).length ∨ 200 < (runes p).length
  · go_wp2_with fail
    refine (like_many w1 s p (by omega) (by omega) hm).mono ?_
    rintro e w2 ⟨rfl, hx2⟩
    go_wp2_with fail
    refine (runes_any w2 s (by omega)).mono ?_
    rintro e w3 ⟨v3, rfl, hown3, hx3⟩
    obtain ⟨a3, c3, b3, rfl, _⟩ := hown3.read
    rw [zs_len]
    by_cases h1 : 200 < (runes s).length
    · have hd3 : decide (200 < ((runes s).length : Int)) = true := by simp; omega
      clear hown3 hm
      go_wp2
      go_ret
      exact ⟨rfl, (hx1.grow hx2).grow hx3⟩
    · have hd3 : decide (200 < ((runes s).length : Int)) = false := by simp; omega
      have hd4 : decide (200 < ((runes p).length : Int)) = true := by simp; omega
      clear hown3 hm
      go_wp2_with fail
      refine (runes_any w3 p (by omega)).mono ?_
      rintro e w4 ⟨v4, rfl, hown4, hx4⟩
      obtain ⟨a4, c4, b4, rfl, _⟩ := hown4.read
      rw [zs_len]
      clear hown4
      go_wp2
      go_ret
      exact ⟨rfl, ((hx1.grow hx2).grow hx3).grow hx4⟩
  · have hd3 : decide (200 < ((runes s).length : Int)) = false := by simp; omega
    have hd4 : decide (200 < ((runes p).length : Int)) = false := by simp; omega
    go_wp2_with fail
    refine (like_any w1 s p (by omega) (by omega) (by omega) (by omega)).mono ?_
    rintro e w2 ⟨rfl, hx2⟩
    clear hm
    go_wp2_with fail
    refine (runes_any w2 s (by omega)).mono ?_
    rintro e w3 ⟨v3, rfl, hown3, hx3⟩
    obtain ⟨a3, c3, b3, rfl, _⟩ := hown3.read
    rw [zs_len]
    clear hown3
    go_wp2_with fail
    refine (runes_any w3 p (by omega)).mono ?_
    rintro e w4 ⟨v4, rfl, hown4, hx4⟩
    obtain ⟨a4, c4, b4, rfl, _⟩ := hown4.read
    rw [zs_len]
    clear hown4
    go_wp2_with fail
    refine (rlike_any w4 s p (by omega) (by omega)).mono ?_
    rintro e w5 ⟨rfl, hx5⟩
    generalize likeP (zs (runes s)) (zs (runes p)) = q
    have hqq : (q == q) = true := by cases q <;> rfl
    go_wp2
    go_ret
    exact ⟨rfl, (((hx1.grow hx2).grow hx3).grow hx4).grow hx5⟩

theorem fits_all (w : World) (hT : Lib.Utf8Tabs 1 2 w) (s p : ByteArray) :
    Calls Tryd.prog 4 #[.string s, .string p] w fun e w' => e = .returned (.bool true) ∧ Ext none_ w w' := by
  by_cases h : 900 < s.size ∨ 900 < p.size
  · exact fits_long w hT s p h
  · exact fits_any w hT s p (by omega) (by omega)

end Go.Proofs.YtocjidlbjmghdaaDoor
