/- The walks of Compare and of the reference's Compare; the plain law of the order of texts. -/
import Derived.Test.YtocjidlbjmghdaaDoorText
namespace Go.Proofs.YtocjidlbjmghdaaDoor
open Go.RowKit Go.Cw

/-- rows of runes against each other -/
def cmpP : List Int → List Int → Int
  | [], [] => 0
  | [], _ :: _ => -1
  | _ :: _, [] => 1
  | x :: xs, y :: ys => if x < y then -1 else if y < x then 1 else cmpP xs ys
theorem cmpP_flip : ∀ xs ys, cmpP ys xs = - cmpP xs ys
  | [], [] => rfl
  | [], _ :: _ => rfl
  | _ :: _, [] => rfl
  | x :: xs, y :: ys => by
    unfold cmpP
    by_cases h : x < y
    · rw [if_neg (by omega), if_pos h, if_pos h]; rfl
    · by_cases h2 : y < x
      · rw [if_pos h2, if_neg h, if_pos h2]
      · rw [if_neg h2, if_neg h, if_neg h, if_neg h2]; exact cmpP_flip xs ys
theorem cmpP_refl : ∀ xs, cmpP xs xs = 0
  | [] => rfl
  | x :: xs => by unfold cmpP; rw [if_neg (by omega), if_neg (by omega)]; exact cmpP_refl xs
theorem cmpP_range : ∀ xs ys, cmpP xs ys = -1 ∨ cmpP xs ys = 0 ∨ cmpP xs ys = 1
  | [], [] => .inr (.inl rfl)
  | [], _ :: _ => .inl rfl
  | _ :: _, [] => .inr (.inr rfl)
  | x :: xs, y :: ys => by
    unfold cmpP
    by_cases h : x < y
    · rw [if_pos h]; exact .inl rfl
    · by_cases h2 : y < x
      · rw [if_neg h, if_pos h2]; exact .inr (.inr rfl)
      · rw [if_neg h, if_neg h2]; exact cmpP_range xs ys
theorem cmpP_trans : ∀ xs ys zs, cmpP xs ys ≤ 0 → cmpP ys zs ≤ 0 → cmpP xs zs ≤ 0
  | [], [], zs, _, h => h
  | [], _ :: _, [], _, _ => by show (0 : Int) ≤ 0; decide
  | [], _ :: _, _ :: _, _, _ => by show (-1 : Int) ≤ 0; decide
  | _ :: _, [], _, h, _ => by exact absurd h (by show ¬ ((1 : Int) ≤ 0); decide)
  | _ :: _, _ :: _, [], _, h => by exact absurd h (by show ¬ ((1 : Int) ≤ 0); decide)
  | x :: xs, y :: ys, z :: zs, h1, h2 => by
    unfold cmpP at h1 h2 ⊢
    by_cases a : x < y
    · by_cases b : y < z
      · rw [if_pos (by omega)]; decide
      · rw [if_neg b] at h2
        by_cases b2 : z < y
        · rw [if_pos b2] at h2; exact absurd h2 (by decide)
        · rw [if_pos (by omega)]; decide
    · rw [if_neg a] at h1
      by_cases a2 : y < x
      · rw [if_pos a2] at h1; exact absurd h1 (by decide)
      · rw [if_neg a2] at h1
        by_cases b : y < z
        · rw [if_pos (by omega)]; decide
        · rw [if_neg b] at h2
          by_cases b2 : z < y
          · rw [if_pos b2] at h2; exact absurd h2 (by decide)
          · rw [if_neg b2] at h2
            rw [if_neg (by omega), if_neg (by omega)]
            exact cmpP_trans xs ys zs h1 h2
theorem cmpP_eq : ∀ xs ys, cmpP xs ys = 0 ↔ xs = ys
  | [], [] => ⟨fun _ => rfl, fun _ => rfl⟩
  | [], _ :: _ => ⟨fun h => by exact absurd h (by show ¬ ((-1 : Int) = 0); decide), fun h => by cases h⟩
  | _ :: _, [] => ⟨fun h => by exact absurd h (by show ¬ ((1 : Int) = 0); decide), fun h => by cases h⟩
  | x :: xs, y :: ys => by
    unfold cmpP
    by_cases h : x < y
    · rw [if_pos h]; exact ⟨fun h => by exact absurd h (by decide), fun e => by cases e; omega⟩
    · by_cases h2 : y < x
      · rw [if_neg h, if_pos h2]; exact ⟨fun h => by exact absurd h (by decide), fun e => by cases e; omega⟩
      · rw [if_neg h, if_neg h2, cmpP_eq xs ys, show x = y by omega]; simp
theorem cmp_step {xs ys : List Int} {k : Nat} {x y : Int} (h1 : xs[k]? = some x) (h2 : ys[k]? = some y) : cmpP (xs.drop k) (ys.drop k) = if x < y then -1 else if y < x then 1 else cmpP (xs.drop (k + 1)) (ys.drop (k + 1)) := by
  obtain ⟨a, rfl⟩ := List.getElem?_eq_some_iff.1 h1
  obtain ⟨b, rfl⟩ := List.getElem?_eq_some_iff.1 h2
  rw [List.drop_eq_getElem_cons a, List.drop_eq_getElem_cons b, cmpP]
theorem cmp_more {xs ys : List Int} {k : Nat} (h1 : k < xs.length) (h2 : ys.length ≤ k) : cmpP (xs.drop k) (ys.drop k) = 1 := by
  rw [List.drop_eq_getElem_cons h1, List.drop_eq_nil_iff.2 h2]; rfl
theorem cmp_less {xs ys : List Int} {k : Nat} (h1 : xs.length ≤ k) (h2 : k < ys.length) : cmpP (xs.drop k) (ys.drop k) = -1 := by
  rw [List.drop_eq_getElem_cons h2, List.drop_eq_nil_iff.2 h1]; rfl
theorem cmp_none {xs ys : List Int} {k : Nat} (h1 : xs.length ≤ k) (h2 : ys.length ≤ k) : cmpP (xs.drop k) (ys.drop k) = 0 := by
  rw [List.drop_eq_nil_iff.2 h1, List.drop_eq_nil_iff.2 h2]; rfl

theorem ret_i64 {a b : Int} (h : a = b) : Ending.returned (.int .i64 a) = Ending.returned (.int .i64 b) := by rw [h]
theorem nan_any (w : World) (x : Int) : Calls Tryd.prog 117 #[.int .i32 x] w fun e w' => e = .returned (.bool false) ∧ w' = w := by
  go_enter Tryd.func117, Tryd.ntmps117
  go_wp2
  go_ret
  exact ⟨by simp, rfl⟩
def cmp3 (x y : Int) : Int := if x < y then -1 else if y < x then 1 else 0
set_option maxHeartbeats 2000000 in
theorem cmp1_any (w : World) (x y : Int) : Calls Tryd.prog 93 #[.int .i32 x, .int .i32 y] w fun e w' => e = .returned (.int .i64 (cmp3 x y)) ∧ w' = w := by
  go_enter Tryd.func93, Tryd.ntmps93
  go_wp2_with fail
  refine (nan_any w x).mono ?_
  rintro e w1 ⟨rfl, rfl⟩
  go_wp2_with fail
  refine (nan_any _ y).mono ?_
  rintro e w2 ⟨rfl, rfl⟩
  by_cases h : x < y
  · have hd : decide (x < y) = true := decide_eq_true h
    have Hc : Hid (cmp3 x y = -1) := Lib.hid (by unfold cmp3; rw [if_pos h])
    clear h
    go_wp2
    go_ret
    exact ⟨ret_i64 Hc.out.symm, rfl⟩
  · have hd : decide (x < y) = false := decide_eq_false h
    by_cases h2 : y < x
    · have hd2 : decide (y < x) = true := decide_eq_true h2
      have Hc : Hid (cmp3 x y = 1) := Lib.hid (by unfold cmp3; rw [if_neg h, if_pos h2])
      clear h h2
      go_wp2
      go_ret
      exact ⟨ret_i64 Hc.out.symm, rfl⟩
    · have hd2 : decide (y < x) = false := decide_eq_false h2
      have Hc : Hid (cmp3 x y = 0) := Lib.hid (by unfold cmp3; rw [if_neg h, if_neg h2])
      clear h h2
      go_wp2
      go_ret
      exact ⟨ret_i64 Hc.out.symm, rfl⟩

set_option maxHeartbeats 4000000 in
theorem cmprows_any (w : World) (a1 a2 : Option Addr) (xs ys : List Int) (b1 o1 b2 o2 c1 c2 : Nat) (h1 : RR w a1 xs b1 o1) (h2 : RR w a2 ys b2 o2) (hx : xs.length ≤ 100000) (hy : ys.length ≤ 100000) :
    Calls Tryd.prog 66 #[.slice a1 xs.length c1, .slice a2 ys.length c2] w fun e w' => e = .returned (.int .i64 (cmpP xs ys)) ∧ w' = w := by
  go_enter Tryd.func66, Tryd.ntmps66
  go_wp2_with fail
  go_loopw [11] (fun i wr => ∃ k : Nat, k ≤ xs.length ∧ k ≤ ys.length ∧ i = .int .i64 k ∧ wr = w ∧ Hid (cmpP (xs.drop k) (ys.drop k) = cmpP xs ys)) (fun i _ => xs.length - (RowKit.intOf i).toNat)
  case atStart => exact ⟨0, by omega, by omega, rfl, rfl, Lib.hid rfl⟩
  case round =>
    obtain ⟨k, hkx, hky, rfl, e, Hk⟩ := hrel
    subst e
    by_cases hlt : k < xs.length
    · obtain ⟨x, hxk⟩ : ∃ x, xs[k]? = some x := ⟨_, List.getElem?_eq_getElem hlt⟩
      have hcx := h1.cell k x hxk
      have ha1 := h1.addr (by omega)
      subst ha1
      by_cases hle : ys.length ≤ k
      · have hd : decide ((ys.length : Int) ≤ (k : Int)) = true := decide_eq_true (by omega)
        have Hc : Hid (cmpP xs ys = 1) := Lib.hid (by rw [← Hk.out]; exact cmp_more hlt hle)
        clear hxk
        go_wp2
        go_ret
        exact ⟨ret_i64 Hc.out.symm, rfl⟩
      · have hd : decide ((ys.length : Int) ≤ (k : Int)) = false := decide_eq_false (by omega)
        obtain ⟨y, hyk⟩ : ∃ y, ys[k]? = some y := ⟨_, List.getElem?_eq_getElem (by omega)⟩
        have hcy := h2.cell k y hyk
        have ha2 := h2.addr (by omega)
        subst ha2
        have Hst := Lib.hid (cmp_step hxk hyk)
        clear hxk hyk
        go_wp2_with fail
        refine (cmp1_any wr x y).mono ?_
        rintro e w2 ⟨rfl, rfl⟩
        by_cases h : x < y
        · have hc : cmp3 x y = -1 := by unfold cmp3; rw [if_pos h]
          have Hc : Hid (cmpP xs ys = -1) := Lib.hid (by rw [← Hk.out, Hst.out, if_pos h])
          rw [hc]
          clear h hc
          go_wp2
          go_ret
          exact ⟨ret_i64 Hc.out.symm, rfl⟩
        · by_cases h2' : y < x
          · have hc : cmp3 x y = 1 := by unfold cmp3; rw [if_neg h, if_pos h2']
            have Hc : Hid (cmpP xs ys = 1) := Lib.hid (by rw [← Hk.out, Hst.out, if_neg h, if_pos h2'])
            rw [hc]
            clear h h2' hc
            go_wp2
            go_ret
            exact ⟨ret_i64 Hc.out.symm, rfl⟩
          · have hc : cmp3 x y = 0 := by unfold cmp3; rw [if_neg h, if_neg h2']
            have Hc : Hid (cmpP (xs.drop (k + 1)) (ys.drop (k + 1)) = cmpP xs ys) := Lib.hid (by rw [← Hk.out, Hst.out, if_neg h, if_neg h2'])
            rw [hc]
            clear h h2' hc
            go_wp2
            exact ⟨⟨k + 1, by omega, by omega, by simp, trivial, Hc⟩, by simp [RowKit.intOf]; omega⟩
    · by_cases hly : k < ys.length
      · have hd : decide ((xs.length : Int) < (ys.length : Int)) = true := decide_eq_true (by omega)
        have Hc : Hid (cmpP xs ys = -1) := Lib.hid (by rw [← Hk.out]; exact cmp_less (by omega) hly)
        go_wp2
        go_ret
        exact ⟨ret_i64 Hc.out.symm, rfl⟩
      · have hd : decide ((xs.length : Int) < (ys.length : Int)) = false := decide_eq_false (by omega)
        have Hc : Hid (cmpP xs ys = 0) := Lib.hid (by rw [← Hk.out]; exact cmp_none (by omega) (by omega))
        go_wp2
        go_ret
        exact ⟨ret_i64 Hc.out.symm, rfl⟩

/-- texts against each other -/
def cmpT (a b : ByteArray) : Int := cmpP (zs (runes a)) (zs (runes b))

set_option maxHeartbeats 4000000 in
theorem compare_any (w : World) (s t : ByteArray) (hs : s.size ≤ 100000) (ht : t.size ≤ 100000) :
    Calls Tryd.prog 35 #[.string s, .string t] w fun e w' => e = .returned (.int .i64 (cmpT s t)) ∧ Ext none_ w w' := by
  have hsl := runes_len s
  have htl := runes_len t
  obtain ⟨c1, w1, hr1, hR1, hx1⟩ := conv_runes w s hs
  obtain ⟨c2, w2, hr2, hR2, hx2⟩ := conv_runes w1 t ht
  have hR1' := hR1.ext0 hx2
  have hx := hx1.grow hx2
  have hc := cmprows_any w2 _ _ _ _ _ 0 _ 0 c1 c2 hR1' hR2 (by rw [zs_len]; omega) (by rw [zs_len]; omega)
  rw [zs_len, zs_len] at hc
  clear hR1 hR1' hR2 hx1 hx2
  go_enter Tryd.func35, Tryd.ntmps35
  go_wp2_with fail
  refine hc.mono ?_
  rintro e w3 ⟨rfl, rfl⟩
  go_wp2
  go_ret
  exact ⟨rfl, hx⟩

set_option maxHeartbeats 4000000 in
theorem rcompare_any (w : World) (s t : ByteArray) (hs : s.size ≤ 100000) (ht : t.size ≤ 100000) :
    Calls Tryd.prog 36 #[.string s, .string t] w fun e w' => e = .returned (.int .i64 (cmpT s t)) ∧ Ext none_ w w' := by
  have hsl := runes_len s
  have htl := runes_len t
  go_enter Tryd.func36, Tryd.ntmps36
  go_wp2_with fail
  refine (runes_any w s hs).mono ?_
  rintro e w1 ⟨v1, rfl, hown1, hx1⟩
  obtain ⟨a1, c1, b1, rfl, hR1⟩ := hown1.read
  go_wp2_with fail
  refine (runes_any w1 t ht).mono ?_
  rintro e w2 ⟨v2, rfl, hown2, hx2⟩
  obtain ⟨a2, c2, b2, rfl, hR2⟩ := hown2.read
  have hR1' := hR1.ext0 hx2
  have hx := hx1.grow hx2
  clear hown1 hown2 hR1 hx1 hx2
  have hxl : (zs (runes s)).length ≤ 100000 := by rw [zs_len]; omega
  have hyl : (zs (runes t)).length ≤ 100000 := by rw [zs_len]; omega
  have hT : cmpT s t = cmpP (zs (runes s)) (zs (runes t)) := rfl
  generalize zs (runes s) = xs at *
  generalize zs (runes t) = ys at *
  have HT := Lib.hid hT
  clear hT
  clear hsl htl hs ht
  go_wp2_with fail
  go_loopw [7] (fun i wr => ∃ k : Nat, k ≤ xs.length ∧ k ≤ ys.length ∧ i = .int .i64 k ∧ Ext none_ w2 wr ∧ Hid (cmpP (xs.drop k) (ys.drop k) = cmpP xs ys)) (fun i _ => xs.length - (RowKit.intOf i).toNat)
  case atStart => exact ⟨0, by omega, by omega, rfl, Ext.refl _ _, Lib.hid rfl⟩
  case round =>
    obtain ⟨k, hkx, hky, rfl, hxr, Hk⟩ := hrel
    by_cases hlt : k < xs.length ∧ k < ys.length
    · obtain ⟨hl1, hl2⟩ := hlt
      have hd1 : decide ((k : Int) < (xs.length : Int)) = true := decide_eq_true (by omega)
      have hd2 : decide ((k : Int) < (ys.length : Int)) = true := decide_eq_true (by omega)
      obtain ⟨x, hxk⟩ : ∃ x, xs[k]? = some x := ⟨_, List.getElem?_eq_getElem hl1⟩
      obtain ⟨y, hyk⟩ : ∃ y, ys[k]? = some y := ⟨_, List.getElem?_eq_getElem hl2⟩
      have hcx := cell_ext0 hxr (hR1'.cell k x hxk)
      have hcy := cell_ext0 hxr (hR2.cell k y hyk)
      have ha1 := hR1'.addr (by omega)
      have ha2 := hR2.addr (by omega)
      subst ha1 ha2
      simp only [Nat.zero_add] at hcx hcy
      have Hst := Lib.hid (cmp_step hxk hyk)
      clear hxk hyk
      by_cases h : x < y
      · have hd : decide (x < y) = true := decide_eq_true h
        have Hc : Hid (cmpP xs ys = -1) := Lib.hid (by rw [← Hk.out, Hst.out, if_pos h])
        go_wp2_with fail
        go_quiet (fail)
        have hxq := Ext.drewN wr nq
        have hcx2 := cell_ext0 hxq hcx
        have hcy2 := cell_ext0 hxq hcy
        have hxr2 := hxr.grow hxq
        clear hcx hcy hxr hxq
        generalize wr.drewN nq = w5 at *
        go_wp2
        go_ret
        exact ⟨ret_i64 (HT.out.trans Hc.out).symm, hx.grow hxr2⟩
      · have hd : decide (x < y) = false := decide_eq_false h
        have Hn := Lib.hid h
        go_wp2_with fail
        go_quiet (fail)
        have hxq := Ext.drewN wr nq
        have hcx2 := cell_ext0 hxq hcx
        have hcy2 := cell_ext0 hxq hcy
        have hxr2 := hxr.grow hxq
        clear hcx hcy hxr hxq
        generalize wr.drewN nq = w5 at *
        by_cases h2 : y < x
        · have hd2 : decide (y < x) = true := decide_eq_true h2
          have Hc : Hid (cmpP xs ys = 1) := Lib.hid (by rw [← Hk.out, Hst.out, if_neg (show ¬ x < y by have := Hn.out; omega), if_pos h2])
          go_wp2_with fail
          go_quiet (fail)
          have hxr3 := hxr2.grow (Ext.drewN w5 nq)
          clear hcx2 hcy2 hxr2
          generalize w5.drewN nq = w6 at *
          go_wp2
          go_ret
          exact ⟨ret_i64 (HT.out.trans Hc.out).symm, hx.grow hxr3⟩
        · have hd2 : decide (y < x) = false := decide_eq_false h2
          have Hc : Hid (cmpP (xs.drop (k + 1)) (ys.drop (k + 1)) = cmpP xs ys) := Lib.hid (by rw [← Hk.out, Hst.out, if_neg (show ¬ x < y by have := Hn.out; omega), if_neg h2])
          go_wp2_with fail
          go_quiet (fail)
          have hxr3 := hxr2.grow (Ext.drewN w5 nq)
          clear hcx2 hcy2 hxr2
          generalize w5.drewN nq = w6 at *
          go_wp2
          exact ⟨⟨k + 1, by omega, by omega, by simp, hxr3, Hc⟩, by simp [RowKit.intOf]; omega⟩
    · by_cases hl1 : k < xs.length
      · have hd1 : decide ((k : Int) < (xs.length : Int)) = true := decide_eq_true (by omega)
        have hd2 : decide ((k : Int) < (ys.length : Int)) = false := decide_eq_false (by omega)
        have hl2 : ¬ k < ys.length := by omega
        have hd3 : decide ((xs.length : Int) < (ys.length : Int)) = false := decide_eq_false (by omega)
        have hl3 : ¬ xs.length < ys.length := by omega
        have hd4 : decide ((ys.length : Int) < (xs.length : Int)) = true := decide_eq_true (by omega)
        have hl4 : ys.length < xs.length := by omega
        have Hc : Hid (cmpP xs ys = 1) := Lib.hid (by rw [← Hk.out]; exact cmp_more hl1 (by omega))
        clear hlt
        go_wp2
        go_ret
        exact ⟨ret_i64 (HT.out.trans Hc.out).symm, hx.grow hxr⟩
      · have hd1 : decide ((k : Int) < (xs.length : Int)) = false := decide_eq_false (by omega)
        have hl4 : ¬ ys.length < xs.length := by omega
        have hd4 : decide ((ys.length : Int) < (xs.length : Int)) = false := decide_eq_false (by omega)
        by_cases hly : xs.length < ys.length
        · have hd3 : decide ((xs.length : Int) < (ys.length : Int)) = true := decide_eq_true (by omega)
          have Hc : Hid (cmpP xs ys = -1) := Lib.hid (by rw [← Hk.out]; exact cmp_less (by omega) (by omega))
          clear hlt
          go_wp2
          go_ret
          exact ⟨ret_i64 (HT.out.trans Hc.out).symm, hx.grow hxr⟩
        · have hd3 : decide ((xs.length : Int) < (ys.length : Int)) = false := decide_eq_false (by omega)
          have Hc : Hid (cmpP xs ys = 0) := Lib.hid (by rw [← Hk.out]; exact cmp_none (by omega) (by omega))
          clear hlt
          go_wp2
          go_ret
          exact ⟨ret_i64 (HT.out.trans Hc.out).symm, hx.grow hxr⟩

end Go.Proofs.YtocjidlbjmghdaaDoor
