/- The walk of LetterHeads. -/
import Derived.Test.YtocjidlbjmghdaaDoorAwake
import Derived.Test.YtocjidlbjmghdaaDoorLikeLaws
namespace Go.Proofs.YtocjidlbjmghdaaDoor
open Go.RowKit Go.Cw

theorem zs_append2 (a b : List Nat) : zs (a ++ b) = zs a ++ zs b := by simp [zs]
/-- runes as a text -/
def tB (rs : List Int) : ByteArray := ⟨(text rs).toArray⟩
theorem runes_tB (rs : List Int) : runes (tB rs) = rs.map fixr := by
  rw [runes_L]; exact runesL_text0 rs
theorem tB_app (a b : List Int) : tB a ++ tB b = tB (a ++ b) := by
  unfold tB; rw [app_B, text_append]
theorem tB_size (a : List Int) : (tB a).size ≤ 4 * a.length := by
  have := text_len a
  show (text a).toArray.size ≤ _
  simpa using this
theorem heads_behind (a b : List Int) : cmpT (tB a) (tB a ++ tB b) = if b = [] then 0 else -1 := by
  unfold cmpT
  rw [tB_app, runes_tB, runes_tB, List.map_append, zs_append2, cmp_behind]
  cases b <;> rfl
theorem heads_ahead (h a b : List Int) : cmpT (tB h ++ tB a) (tB h ++ tB b) = cmpT (tB a) (tB b) := by
  unfold cmpT
  rw [tB_app, tB_app, runes_tB, runes_tB, runes_tB, runes_tB, List.map_append, List.map_append, zs_append2, zs_append2, cmp_ahead]
theorem text3_any (w : World) (a : Option Addr) (rs : List Int) (b off c : Nat) (h : RR w a rs b off) (hn : rs.length ≤ 100000) :
    Calls Tryd.prog 34 #[.slice a rs.length c] w fun e w' => e = .returned (.string (tB rs)) ∧ w' = w := text_any w a rs b off c h hn
theorem RR.extw {w w' : World} {a : Option Addr} {rs : List Int} {b off : Nat} (h : RR w a rs b off) (hx : Ext none_ w w') : RR w' a rs b off := h.ext0 hx

set_option maxHeartbeats 4000000 in
set_option maxRecDepth 100000 in
theorem heads_long (w : World) (hT : Lib.Utf8Tabs 1 2 w) (a1 a2 a3 : Option Addr) (n1 n2 n3 c1 c2 c3 : Nat) (h : 100 < n1 ∨ 100 < n2 ∨ 100 < n3) :
    Calls Tryd.prog 11 #[.slice a1 n1 c1, .slice a2 n2 c2, .slice a3 n3 c3] w fun e w' => e = .returned (.bool true) ∧ Ext none_ w w' := by
  go_enter Tryd.func11, Tryd.ntmps11
  go_wp2_with fail
  refine (awake_any w hT).mono ?_
  rintro e w1 ⟨rfl, hx1⟩
  have hT1 := Tabs.ext0 hT hx1
  by_cases h1 : 100 < n1
  · have hd : decide (100 < (n1 : Int)) = true := by simp; omega
    go_wp2_with fail
    refine (awake_any w1 hT1).mono ?_
    rintro e w2 ⟨rfl, hx2⟩
    go_wp2
    go_ret
    exact ⟨rfl, hx1.grow hx2⟩
  · have hd : decide (100 < (n1 : Int)) = false := by simp; omega
    by_cases h2 : 100 < n2
    · have hd2 : decide (100 < (n2 : Int)) = true := by simp; omega
      go_wp2_with fail
      refine (awake_any w1 hT1).mono ?_
      rintro e w2 ⟨rfl, hx2⟩
      go_wp2
      go_ret
      exact ⟨rfl, hx1.grow hx2⟩
    · have hd2 : decide (100 < (n2 : Int)) = false := by simp; omega
      have hd3 : decide (100 < (n3 : Int)) = true := by simp; omega
      go_wp2_with fail
      refine (awake_any w1 hT1).mono ?_
      rintro e w2 ⟨rfl, hx2⟩
      go_wp2
      go_ret
      exact ⟨rfl, hx1.grow hx2⟩

set_option maxHeartbeats 4000000 in
set_option maxRecDepth 100000 in
theorem heads_any (w : World) (hT : Lib.Utf8Tabs 1 2 w) (a1 a2 a3 : Option Addr) (xs ys hs : List Int) (b1 o1 b2 o2 b3 o3 c1 c2 c3 : Nat) (h1 : RR w a1 xs b1 o1) (h2 : RR w a2 ys b2 o2) (h3 : RR w a3 hs b3 o3)
    (hl1 : xs.length ≤ 100) (hl2 : ys.length ≤ 100) (hl3 : hs.length ≤ 100) :
    Calls Tryd.prog 11 #[.slice a1 xs.length c1, .slice a2 ys.length c2, .slice a3 hs.length c3] w fun e w' => e = .returned (.bool true) ∧ Ext none_ w w' := by
  have hd : decide (100 < (xs.length : Int)) = false := by simp; omega
  have hd2 : decide (100 < (ys.length : Int)) = false := by simp; omega
  have hd3 : decide (100 < (hs.length : Int)) = false := by simp; omega
  have hcb := heads_behind xs ys
  have hca := heads_ahead hs xs ys
  have hs1 := tB_size xs
  have hs2 := tB_size ys
  have hs3 := tB_size hs
  have Hcb := Lib.hid hcb
  have Hca := Lib.hid hca
  clear hcb hca
  go_enter Tryd.func11, Tryd.ntmps11
  go_wp2_with fail
  refine (awake_any w hT).mono ?_
  rintro e w1 ⟨rfl, hx1⟩
  clear hT
  have h1' := h1.extw hx1
  have h2' := h2.extw hx1
  have h3' := h3.extw hx1
  clear h1 h2 h3
  go_wp2_with fail
  refine (text3_any w1 a1 xs b1 o1 c1 h1' (by omega)).mono ?_
  rintro e w2 ⟨rfl, rfl⟩
  go_wp2_with fail
  refine (text3_any _ a2 ys b2 o2 c2 h2' (by omega)).mono ?_
  rintro e w2 ⟨rfl, rfl⟩
  go_wp2_with fail
  refine (text3_any _ a3 hs b3 o3 c3 h3' (by omega)).mono ?_
  rintro e w2 ⟨rfl, rfl⟩
  have Hy : Hid (ys.length = 0 ↔ ys = []) := Lib.hid List.length_eq_zero_iff
  generalize tB xs = X at *
  generalize tB ys = Y at *
  generalize tB hs = Z at *
  by_cases h0 : ys = []
  · have hb : ((ys.length : Int) == 0) = true := by rw [h0]; rfl
    have Hcb2 : Hid (cmpT X (X ++ Y) = 0) := Lib.hid (by rw [Hcb.out, if_pos h0])
    clear h0 hd2
    go_wp2_with fail
    refine (compare_any w2 X (X ++ Y) (by omega) (by rw [ByteArray.size_append]; omega)).mono ?_
    rintro e w3 ⟨rfl, hx3⟩
    rw [Hcb2.out]
    go_wp2_with fail
    refine (compare_any w3 (Z ++ X) (Z ++ Y) (by rw [ByteArray.size_append]; omega) (by rw [ByteArray.size_append]; omega)).mono ?_
    rintro e w4 ⟨rfl, hx4⟩
    rw [Hca.out]
    go_wp2_with fail
    refine (compare_any w4 X Y (by omega) (by omega)).mono ?_
    rintro e w5 ⟨rfl, hx5⟩
    generalize cmpT X Y = q
    go_wp2
    go_ret
    exact ⟨rfl, ((hx1.grow hx3).grow hx4).grow hx5⟩
  · have hb : ((ys.length : Int) == 0) = false := by
      have : ys.length ≠ 0 := fun e => h0 (Hy.out.1 e)
      simp; omega
    have Hcb2 : Hid (cmpT X (X ++ Y) = -1) := Lib.hid (by rw [Hcb.out, if_neg h0])
    clear h0
    go_wp2_with fail
    refine (compare_any w2 X (X ++ Y) (by omega) (by rw [ByteArray.size_append]; omega)).mono ?_
    rintro e w3 ⟨rfl, hx3⟩
    rw [Hcb2.out]
    go_wp2_with fail
    refine (compare_any w3 (Z ++ X) (Z ++ Y) (by rw [ByteArray.size_append]; omega) (by rw [ByteArray.size_append]; omega)).mono ?_
    rintro e w4 ⟨rfl, hx4⟩
    rw [Hca.out]
    go_wp2_with fail
    refine (compare_any w4 X Y (by omega) (by omega)).mono ?_
    rintro e w5 ⟨rfl, hx5⟩
    generalize cmpT X Y = q
    go_wp2
    go_ret
    exact ⟨rfl, ((hx1.grow hx3).grow hx4).grow hx5⟩

theorem heads_all (w : World) (hT : Lib.Utf8Tabs 1 2 w) (a1 : Option Addr) (xs : List Int) (b1 o1 c1 : Nat) (h1 : RR w a1 xs b1 o1) (_ : ∀ z ∈ xs, -2147483648 ≤ z ∧ z ≤ 2147483647)
    (a2 : Option Addr) (ys : List Int) (b2 o2 c2 : Nat) (h2 : RR w a2 ys b2 o2) (_ : ∀ z ∈ ys, -2147483648 ≤ z ∧ z ≤ 2147483647)
    (a3 : Option Addr) (hs : List Int) (b3 o3 c3 : Nat) (h3 : RR w a3 hs b3 o3) (_ : ∀ z ∈ hs, -2147483648 ≤ z ∧ z ≤ 2147483647) :
    Calls Tryd.prog 11 #[.slice a1 xs.length c1, .slice a2 ys.length c2, .slice a3 hs.length c3] w fun e w' => e = .returned (.bool true) ∧ Ext none_ w w' := by
  by_cases h : 100 < xs.length ∨ 100 < ys.length ∨ 100 < hs.length
  · exact heads_long w hT a1 a2 a3 _ _ _ c1 c2 c3 h
  · exact heads_any w hT a1 a2 a3 xs ys hs b1 o1 b2 o2 b3 o3 c1 c2 c3 h1 h2 h3 (by omega) (by omega) (by omega)

end Go.Proofs.YtocjidlbjmghdaaDoor
