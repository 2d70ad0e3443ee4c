/- The walk of the reference's Right. -/
import Derived.Test.YtocjidlbjmghdaaDoorRunes
namespace Go.Proofs.YtocjidlbjmghdaaDoor
open Go.RowKit Go.Cw

theorem zs_len (rs : List Nat) : (zs rs).length = rs.length := by simp [zs]
theorem zs_get {rs : List Nat} {j r : Nat} (h : rs[j]? = some r) : (zs rs)[j]? = some (r : Int) := by simp [zs, h]
theorem ok_drop {rs : List Nat} {k r : Nat} (h : rs[k]? = some r) : okFrom k (rs.drop k) = (!badP k r && okFrom (k + 1) (rs.drop (k + 1))) := by
  obtain ⟨hl, rfl⟩ := List.getElem?_eq_some_iff.1 h
  rw [List.drop_eq_getElem_cons hl]; rfl

set_option maxHeartbeats 2000000 in
set_option maxRecDepth 100000 in
theorem rright_any (w : World) (s : ByteArray) (hs : s.size ≤ 100000) : Calls Tryd.prog 20 #[.string s] w fun e w' => e = .returned (.bool (rightP (runes s))) ∧ Ext none_ w w' := by
  have hlen := runes_len s
  go_enter Tryd.func20, Tryd.ntmps20
  go_wp2_with fail
  refine (runes_any w s hs).mono ?_
  rintro e w1 ⟨v, rfl, hown, hx1⟩
  obtain ⟨a, c, b, rfl, hR⟩ := hown.read
  rw [zs_len]
  generalize hrs : runes s = rs at *
  have Hrs := Lib.hid hrs
  clear hrs
  have hl2 : rs.length ≤ 100000 := by omega
  clear hown hlen
  by_cases h0 : rs.length < 1
  · have hd : decide ((rs.length : Int) < 1) = true := by simp; omega
    have hf : rightP rs = false := by simp [rightP]; omega
    have Hf := Lib.hid hf
    clear h0 hf
    go_wp2
    go_ret
    exact ⟨ret_bool (by rw [Hrs.out, Hf.out]), hx1⟩
  · have hd : decide ((rs.length : Int) < 1) = false := by simp; omega
    by_cases h32 : 32 < rs.length
    · have hd2 : decide (32 < (rs.length : Int)) = true := by simp; omega
      have hf : rightP rs = false := by simp [rightP]; omega
      have Hf := Lib.hid hf
      clear h0 hf h32
      go_wp2
      go_ret
      exact ⟨ret_bool (by rw [Hrs.out, Hf.out]), hx1⟩
    · have hd2 : decide (32 < (rs.length : Int)) = false := by simp; omega
      have hr1 : rightP rs = okFrom 0 (rs.drop 0) := by
        unfold rightP
        rw [decide_eq_true (show 1 ≤ rs.length by omega), decide_eq_true (show rs.length ≤ 32 by omega), List.drop_zero]; simp
      have Hr1 := Lib.hid hr1
      obtain ⟨r0, hr0⟩ : ∃ r, rs[0]? = some r := ⟨_, List.getElem?_eq_getElem (by omega)⟩
      have H0 := Lib.hid (ok_drop hr0)
      have ha := hR.addr (by rw [zs_len]; omega)
      subst ha
      have hc0 := hR.cell 0 r0 (zs_get hr0)
      simp only [Nat.add_zero] at hc0
      clear hr1
      go_wp2_with fail
      refine (rletter_any w1 r0).mono ?_
      rintro e w2 ⟨rfl, rfl⟩
      cases hL : letterP (r0 : Int)
      · have hf : rightP rs = false := by rw [Hr1.out, H0.out]; simp [badP, hL]
        have Hf := Lib.hid hf
        clear hL hf
        go_wp2
        go_ret
        exact ⟨ret_bool (by rw [Hrs.out, Hf.out]), hx1⟩
      · have H1 : Hid (rightP rs = okFrom 1 (rs.drop 1)) := Lib.hid (by rw [Hr1.out, H0.out]; simp [badP, hL])
        clear hL hc0
        go_wp2_with fail
        go_loopw [4] (fun i wr => ∃ k : Nat, 1 ≤ k ∧ k ≤ rs.length ∧ i = .int .i64 k ∧ wr = w2 ∧ Hid (rightP rs = okFrom k (rs.drop k))) (fun i _ => rs.length - (RowKit.intOf i).toNat)
        case atStart => exact ⟨1, by omega, by omega, rfl, rfl, H1⟩
        case round =>
          obtain ⟨k, hk1, hk, rfl, rfl, Hk⟩ := hrel
          by_cases hlt : k < rs.length
          · obtain ⟨r, hrk⟩ : ∃ r, rs[k]? = some r := ⟨_, List.getElem?_eq_getElem hlt⟩
            have Hd := Lib.hid (ok_drop hrk)
            have hc := hR.cell k r (zs_get hrk)
            simp only [Nat.zero_add] at hc
            go_wp2_with fail
            refine (rletter_any _ r).mono ?_
            rintro e w3 ⟨rfl, rfl⟩
            cases hL : letterP (r : Int)
            · have HL := Lib.hid hL
              clear hL
              have hk0 : k ≠ 0 := by omega
              by_cases h1 : (r : Int) < 48
              · have hd1 : decide ((r : Int) < 48) = true := decide_eq_true h1
                have hf : rightP rs = false := by rw [Hk.out, Hd.out]; simp [badP, HL.out, h1]
                have Hf := Lib.hid hf
                clear h1 hf
                go_wp2
                go_ret
                exact ⟨ret_bool (by rw [Hrs.out, Hf.out]), hx1⟩
              · have hd1 : decide ((r : Int) < 48) = false := decide_eq_false h1
                by_cases h2 : 57 < (r : Int)
                · have hd2 : decide (57 < (r : Int)) = true := decide_eq_true h2
                  have hf : rightP rs = false := by rw [Hk.out, Hd.out]; simp [badP, HL.out, h2]
                  have Hf := Lib.hid hf
                  clear h1 h2 hf
                  go_wp2
                  go_ret
                  exact ⟨ret_bool (by rw [Hrs.out, Hf.out]), hx1⟩
                · have hd2 : decide (57 < (r : Int)) = false := decide_eq_false h2
                  have hb : badP k r = false := by simp [badP, hk0]; omega
                  have Hb := Lib.hid hb
                  clear h1 h2 hb
                  go_wp2
                  exact ⟨⟨k + 1, by omega, by omega, by simp, trivial, Lib.hid (by rw [Hk.out, Hd.out, Hb.out]; rfl)⟩, by simp [RowKit.intOf]; omega⟩
            · have hb : badP k r = false := by simp [badP, hL]
              have Hb := Lib.hid hb
              clear hL hb
              go_wp2
              exact ⟨⟨k + 1, by omega, by omega, by simp, trivial, Lib.hid (by rw [Hk.out, Hd.out, Hb.out]; rfl)⟩, by simp [RowKit.intOf]; omega⟩
          · have hkn : k = rs.length := by omega
            have hf : rightP rs = true := by rw [Hk.out, hkn, List.drop_length]; rfl
            have Hf := Lib.hid hf
            clear hf
            subst hkn
            go_wp2
            go_ret
            exact ⟨ret_bool (by rw [Hrs.out, Hf.out]), hx1⟩

end Go.Proofs.YtocjidlbjmghdaaDoor
