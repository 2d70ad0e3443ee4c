/- The walk of LetterStars. -/
import Derived.Test.YtocjidlbjmghdaaDoorLawHeads
import Derived.Test.YtocjidlbjmghdaaDoorHoistT
import Derived.Test.YtocjidlbjmghdaaDoorUnqPlain
namespace Go.Proofs.YtocjidlbjmghdaaDoor
open Go.RowKit Go.Cw

theorem elem30 : Tryd.prog.elem 30 = 21 := by kernel_rfl
theorem und30 : Tryd.prog.underlying 30 = some (.slice (Tryd.prog.elem 30)) := by kernel_rfl
theorem sl_head (a : Option Addr) (n c K : Nat) (hK : K ≤ c) :
    ∃ a1 c1, (∀ w, (Instr.slice 30 (.slice a n c) none (some (.int .i64 (K : Int))) none).run Tryd.prog w = .ok (.slice a1 K c1) w) ∧ (∀ b off, a = some ⟨b, off, none⟩ → a1 = some ⟨b, off, none⟩) := by
  refine ⟨if c = 0 then a else a.map (·.add (0 * 1)), c - 0, fun w => ?_, fun b off h => ?_⟩
  · rw [run_slice_h w 30 a n c und30 .i64 K (by omega) (by omega), elem30, Tryd.sizeOf21]
    rfl
  · subst h
    split
    · rfl
    · simp [Addr.add]
theorem sl_tail (a : Option Addr) (n c K : Nat) (hK : K ≤ n) :
    ∃ a1 c1, (∀ w, (Instr.slice 30 (.slice a n c) (some (.int .i64 (K : Int))) none none).run Tryd.prog w = .ok (.slice a1 (n - K) c1) w) ∧ (∀ b off, a = some ⟨b, off, none⟩ → K < n → n ≤ c → a1 = some ⟨b, off + K, none⟩) := by
  refine ⟨if c = K then a else a.map (·.add (K * 1)), c - K, fun w => ?_, fun b off h h1 h2 => ?_⟩
  · rw [run_slice_l w 30 a n c und30 .i64 K (by omega) (by omega), elem30, Tryd.sizeOf21]
    rfl
  · subst h
    rw [if_neg (by omega)]
    cases K with
    | zero => simp [Addr.add]
    | succ K => simp [Addr.add]
theorem rem_at (n : Int) (len : Nat) (hl : len ≤ 100000) : ∃ K : Nat, K ≤ len ∧ (wrap64 (wrap64 (n.tmod ((len : Int) + 1) + len) + 1)).tmod ((len : Int) + 1) = K := by
  have h1 : (n.tmod ((len : Int) + 1)).natAbs < len + 1 := by
    rw [Int.natAbs_tmod]
    have : ((len : Int) + 1).natAbs = len + 1 := by omega
    rw [this]
    exact Nat.mod_lt _ (by omega)
  generalize n.tmod ((len : Int) + 1) = t at *
  have h2 : wrap64 (t + len) = t + len := by unfold wrap64; omega
  have h3 : wrap64 (t + len + 1) = t + len + 1 := by unfold wrap64; omega
  rw [h2, h3]
  obtain ⟨u, hu⟩ : ∃ u : Nat, t + len + 1 = u := ⟨(t + len + 1).toNat, by omega⟩
  rw [hu]
  refine ⟨u % (len + 1), by have := Nat.mod_lt u (show 0 < len + 1 by omega); omega, ?_⟩
  rw [Int.tmod_eq_emod_of_nonneg (by omega)]
  rfl

theorem ROwn.read_cap {w : World} {base : Nat} {v : Value} {rs : List Int} (h : ROwn w base v rs) : ∃ a c b, v = .slice a rs.length c ∧ RR w a rs b 0 ∧ rs.length ≤ c := by
  rcases h.2 with ⟨rfl, h0⟩ | ⟨g, cap, cur, rfl, hb, hg, hc1, hc2, hc3, hc4⟩
  · rw [h0]
    exact ⟨none, 0, 0, rfl, ⟨fun h => by omega, fun j r hj => by
      have := (List.getElem?_eq_some_iff.1 hj).1; omega⟩, Nat.le_refl _⟩
  · refine ⟨_, cap, g, rfl, ⟨fun _ => rfl, fun j z hj => ?_⟩, by omega⟩
    rw [cell_of hg, Nat.zero_add]
    have hj' : (rs.map (Value.int .i32))[j]? = some (.int .i32 z) := by simp [hj]
    rw [← hc4, List.getElem?_take] at hj'
    split at hj'
    · simpa using hj'
    · cases hj'
theorem RR.head {w : World} {a a1 : Option Addr} {rs : List Int} {b off K : Nat} (h : RR w a rs b off) (ha : ∀ b off, a = some ⟨b, off, none⟩ → a1 = some ⟨b, off, none⟩) : RR w a1 (rs.take K) b off :=
  ⟨fun hl => ha b off (h.addr (by rw [List.length_take] at hl; omega)), fun j r hj => by
    rw [List.getElem?_take] at hj
    split at hj
    · exact h.cell j r hj
    · cases hj⟩
theorem RR.tail {w : World} {a a1 : Option Addr} {rs : List Int} {b off K c : Nat} (h : RR w a rs b off) (hc : rs.length ≤ c) (ha : ∀ b off, a = some ⟨b, off, none⟩ → K < rs.length → rs.length ≤ c → a1 = some ⟨b, off + K, none⟩) : RR w a1 (rs.drop K) b (off + K) :=
  ⟨fun hl => by
    rw [List.length_drop] at hl
    exact ha b off (h.addr (by omega)) (by omega) hc, fun j r hj => by
    rw [List.getElem?_drop] at hj
    have := h.cell (K + j) r hj
    rwa [← Nat.add_assoc] at this⟩
theorem bytes42 : (⟨#[42]⟩ : ByteArray) = tB [42] := rfl
theorem star_runes {rs : List Nat} (hv : ∀ r ∈ rs, Utf8.valid (r : Int) = true) (K : Nat) : zs (runes (tB ((zs rs).take K) ++ ⟨#[42]⟩ ++ tB ((zs rs).drop K))) = (zs rs).take K ++ [42] ++ (zs rs).drop K := by
  rw [bytes42, tB_app, tB_app, runes_tB, List.map_append, List.map_append, zs_append2, zs_append2]
  have h1 : ∀ l : List Nat, (∀ r ∈ l, Utf8.valid (r : Int) = true) → zs ((zs l).map fixr) = zs l := fun l hl => by rw [zs_fix hl]
  have h2 : (zs rs).take K = zs (rs.take K) := by unfold zs; rw [List.map_take]
  have h3 : (zs rs).drop K = zs (rs.drop K) := by unfold zs; rw [List.map_drop]
  rw [h2, h3, h1 _ fun r hr => hv r (List.mem_of_mem_take hr), h1 _ fun r hr => hv r (List.mem_of_mem_drop hr)]
  rfl

theorem mixed : Tryd.prog.follows .mixedOrders = true := by kernel_rfl
set_option maxHeartbeats 4000000 in
set_option maxRecDepth 100000 in
theorem stars_long (w : World) (hT : Lib.Utf8Tabs 1 2 w) (s p : ByteArray) (n : Int) (h : 150 < s.size ∨ 150 < p.size) :
    Calls Tryd.prog 10 #[.string s, .string p, .int .i64 n] w fun e w' => e = .returned (.bool true) ∧ Ext none_ w w' := by
  go_enter Tryd.func10, Tryd.ntmps10
  go_wp2_with fail
  refine (awake_any w hT).mono ?_
  rintro e w1 ⟨rfl, hx1⟩
  have hT1 := Tabs.ext0 hT hx1
  by_cases h1 : 150 < s.size
  · have hd : decide (150 < (s.size : Int)) = true := by simp; omega
    go_wp2_with fail
    refine (awake_any w1 hT1).mono ?_
    rintro e w2 ⟨rfl, hx2⟩
    go_wp2
    go_ret
    exact ⟨rfl, hx1.grow hx2⟩
  · have hd : decide (150 < (s.size : Int)) = false := by simp; omega
    have hd2 : decide (150 < (p.size : Int)) = true := by simp; omega
    go_wp2_with fail
    refine (awake_any w1 hT1).mono ?_
    rintro e w2 ⟨rfl, hx2⟩
    go_wp2
    go_ret
    exact ⟨rfl, hx1.grow hx2⟩

/-- no star, no question mark -/
def plainP (rs : List Int) : Bool := rs.all fun r => !decide (r = 42) && !decide (r = 63)
theorem plain_take {rs : List Int} {k : Nat} {r : Int} (h : rs[k]? = some r) : plainP (rs.take (k + 1)) = (plainP (rs.take k) && (!decide (r = 42) && !decide (r = 63))) := by
  obtain ⟨hl, rfl⟩ := List.getElem?_eq_some_iff.1 h
  unfold plainP
  rw [List.take_succ_eq_append_getElem hl, List.all_append]
  simp

set_option maxHeartbeats 8000000 in
set_option maxRecDepth 100000 in
theorem stars_any (w : World) (hT : Lib.Utf8Tabs 1 2 w) (s p : ByteArray) (n : Int) (hn : -9223372036854775808 ≤ n ∧ n ≤ 9223372036854775807) (hs : s.size ≤ 150) (hp : p.size ≤ 150) :
    Calls Tryd.prog 10 #[.string s, .string p, .int .i64 n] w fun e w' => e = .returned (.bool true) ∧ Ext none_ w w' := by
  have hd : decide (150 < (s.size : Int)) = false := by simp; omega
  have hd2 : decide (150 < (p.size : Int)) = false := by simp; omega
  have hsl := runes_len s
  have hpl := runes_len p
  go_enter Tryd.func10, Tryd.ntmps10
  go_wp2_with fail
  refine (awake_any w hT).mono ?_
  rintro e w1 ⟨rfl, hx1⟩
  clear hT
  go_wp2_with fail
  refine (runes_any w1 p (by omega)).mono ?_
  rintro e w2 ⟨v2, rfl, hown, hx2⟩
  obtain ⟨a, c, b, rfl, hR, hcap⟩ := hown.read_cap
  rw [zs_len] at hcap
  have hx2' := hx1.grow hx2
  rw [zs_len]
  have hval := runes_valid p
  generalize hrs : runes p = rs at *
  have Hrs := Lib.hid hrs
  clear hrs hown hx1 hx2 hd hd2
  go_wp2_with fail
  go_loopw [8, 9] (fun q i wr => ∃ k : Nat, k ≤ rs.length ∧ i = .int .i64 k ∧ q = .bool (plainP ((zs rs).take k)) ∧ wr = w2) (fun _ i _ => rs.length - (RowKit.intOf i).toNat)
  case atStart => exact ⟨0, by omega, rfl, rfl, rfl⟩
  case round =>
    obtain ⟨k, hk, rfl, rfl, e⟩ := hrel
    subst e
    by_cases hlt : k < rs.length
    · obtain ⟨r, hrk⟩ : ∃ x, rs[k]? = some x := ⟨_, List.getElem?_eq_getElem hlt⟩
      have hc := hR.cell k r (zs_get hrk)
      have ha := hR.addr (by rw [zs_len]; omega)
      subst ha
      simp only [Nat.zero_add] at hc
      have Htk := Lib.hid (plain_take (zs_get hrk))
      clear hrk hval
      generalize plainP ((zs rs).take k) = q at *
      cases q
      · have Hq : Hid (plainP ((zs rs).take (k + 1)) = false) := Lib.hid (by rw [Htk.out]; rfl)
        go_wp2
        exact ⟨⟨k + 1, by omega, by simp, by rw [Hq.out], trivial⟩, by simp [RowKit.intOf]; omega⟩
      · by_cases h42 : r = 42
        · have e42 : ((r : Int) != 42) = false := by simp [h42]
          have Hq : Hid (plainP ((zs rs).take (k + 1)) = false) := Lib.hid (by rw [Htk.out, decide_eq_true (show (r : Int) = 42 by omega)]; rfl)
          clear h42
          go_wp2
          exact ⟨⟨k + 1, by omega, by simp, by rw [Hq.out], trivial⟩, by simp [RowKit.intOf]; omega⟩
        · have e42 : ((r : Int) != 42) = true := by simp; omega
          by_cases h63 : r = 63
          · have e63 : ((r : Int) != 63) = false := by simp [h63]
            have Hq : Hid (plainP ((zs rs).take (k + 1)) = false) := Lib.hid (by rw [Htk.out, decide_eq_true (show (r : Int) = 63 by omega), decide_eq_false (show ¬ (r : Int) = 42 by omega)]; rfl)
            clear h42 h63
            go_wp2
            exact ⟨⟨k + 1, by omega, by simp, by rw [Hq.out], trivial⟩, by simp [RowKit.intOf]; omega⟩
          · have e63 : ((r : Int) != 63) = true := by simp; omega
            have Hq : Hid (plainP ((zs rs).take (k + 1)) = true) := Lib.hid (by rw [Htk.out, decide_eq_false (show ¬ (r : Int) = 63 by omega), decide_eq_false (show ¬ (r : Int) = 42 by omega)]; rfl)
            clear h42 h63
            go_wp2
            exact ⟨⟨k + 1, by omega, by simp, by rw [Hq.out], trivial⟩, by simp [RowKit.intOf]; omega⟩
    · have hkn : k = rs.length := by omega
      rw [show (zs rs).take k = zs rs by rw [hkn, List.take_of_length_le (by rw [zs_len]; exact Nat.le_refl _)]]
      have hkl : decide ((k : Int) < (rs.length : Int)) = false := decide_eq_false (by omega)
      clear hkn hk
      go_wp2_with fail
      refine (like_any wr s p (by omega) (by omega) (by omega) (by rw [Hrs.out]; omega)).mono ?_
      rintro e w3 ⟨rfl, hx3⟩
      rw [Hrs.out]
      obtain ⟨K, hK, hKe⟩ := rem_at n rs.length (by omega)
      go_wp2_with fail
      have hx3' := hx2'.grow hx3
      have hR3 := hR.ext0 hx3
      clear hKe hx2' hx3 hkl hn
      obtain ⟨a1, c1, hsl1, ha1⟩ := sl_head a rs.length c K (by omega)
      obtain ⟨a2, c2, hsl2, ha2⟩ := sl_tail a rs.length c K hK
      have hR1 : RR w3 a1 ((zs rs).take K) b 0 := hR3.head ha1
      have hR2 : RR w3 a2 ((zs rs).drop K) b (0 + K) := hR3.tail (c := c) (by rw [zs_len]; exact hcap) (by rw [zs_len]; exact ha2)
      have hl1 : ((zs rs).take K).length = K := by rw [List.length_take, zs_len]; omega
      have hl2 : ((zs rs).drop K).length = rs.length - K := by rw [List.length_drop, zs_len]
      have ht1 := fun (w : World) (h : RR w a1 ((zs rs).take K) b 0) => text3_any w a1 _ b 0 c1 h (by omega)
      have ht2 := fun (w : World) (h : RR w a2 ((zs rs).drop K) b (0 + K)) => text3_any w a2 _ b (0 + K) c2 h (by omega)
      rw [hl1] at ht1
      rw [hl2] at ht2
      have hz1 := tB_size ((zs rs).take K)
      have hz2 := tB_size ((zs rs).drop K)
      rw [hl1] at hz1
      rw [hl2] at hz2
      have hsr := star_runes (rs := rs) (fun r hr => (hval r hr).1) K
      have hlr : (runes (tB ((zs rs).take K) ++ ⟨#[42]⟩ ++ tB ((zs rs).drop K))).length = rs.length + 1 := by
        have := congrArg List.length hsr
        rw [zs_len, List.length_append, List.length_append, hl1, hl2] at this
        rw [this]; simp; omega
      have hst : likeP (zs (runes s)) (zs rs) = true → likeP (zs (runes s)) ((zs rs).take K ++ [42] ++ (zs rs).drop K) = true := fun h => like_star _ _ _ (by rw [List.take_append_drop]; exact h)
      rw [← hsr] at hst
      have hpl2 : plainP (zs rs) = true → likeP (zs (runes s)) (zs rs) = decide (cmpT s p = 0) := fun h => by
        unfold cmpT
        rw [Hrs.out]
        refine like_plain _ _ fun q hq => ?_
        have := List.all_eq_true.1 h q hq
        simpa using this
      have Hpl2 := Lib.hid hpl2
      have Hst := Lib.hid hst
      clear hsr hl1 hl2 hpl2 hst hR hR3 ha1 ha2 hval
      generalize tB ((zs rs).take K) = X1 at *
      generalize tB ((zs rs).drop K) = X2 at *
      generalize (zs rs).take K = r1 at *
      generalize (zs rs).drop K = r2 at *
      have hno1 : ¬ 9223372036854775807 < X1.size + 1 := by omega
      have hno2 : ¬ 9223372036854775807 < X1.size + 1 + X2.size := by omega
      have hsz : (X1 ++ ⟨#[42]⟩ ++ X2 : ByteArray).size = X1.size + 1 + X2.size := by rw [ByteArray.size_append, ByteArray.size_append]; rfl
      have hlk := fun w : World => like_any w s (X1 ++ ⟨#[42]⟩ ++ X2) (by omega) (by omega) (by omega) (by rw [hlr]; omega)
      clear hsz
      have hF := Ext.drew w3
      refine wp_region_hoistT (fun w' => Ext none_ w3 w') 17 [0, 1, 2, 3, 6, 7, 8] 10 mixed (by kernel_rfl) hF ?_
      simp only [List.filterMap_cons, List.filterMap_nil, List.getElem?_cons_zero, List.getElem?_cons_succ]
      have hnn := Fam.ne hF
      generalize w3.drew = w4 at *
      repeat (refine wpV_step (fun K hK => ?_); go_simp; refine hK _ ?_; clear hK K)
      refine wpV_nil ?_
      refine wpAnyC_step [4] (by kernel_rfl) (by simp) ?_
      intro j hj
      simp only [List.mem_cons, List.not_mem_nil, or_false] at hj
      subst hj
      refine ⟨_, rfl, ?_⟩
      go_wp2_with fail
      refine (ht1 _ (hR1.ext0 hF)).mono ?_
      rintro e w5 ⟨rfl, rfl⟩
      go_wp2_with fail
      refine ⟨.inr hF, ?_⟩
      refine wpAnyC_again [5] 8 (by kernel_rfl) hF ?_
      simp only [List.filterMap_cons, List.filterMap_nil, List.getElem?_toArray, List.getElem?_cons_zero, List.getElem?_cons_succ]
      repeat (refine wpV_step (fun K hK => ?_); go_simp; refine hK _ ?_; clear hK K)
      refine wpV_nil ?_
      refine wpAnyC_step [9] (by kernel_rfl) (by simp) ?_
      intro j hj
      simp only [List.mem_cons, List.not_mem_nil, or_false] at hj
      subst hj
      refine ⟨_, rfl, ?_⟩
      go_wp2_with fail
      refine (ht2 _ (hR2.ext0 hF)).mono ?_
      rintro e w5 ⟨rfl, rfl⟩
      go_wp2_with fail
      refine ⟨.inr hF, ?_⟩
      refine wpAnyC_again [10] 6 (by kernel_rfl) hF ?_
      simp only [List.filterMap_cons, List.filterMap_nil, List.getElem?_toArray, List.getElem?_cons_zero, List.getElem?_cons_succ]
      repeat (refine wpV_step (fun K hK => ?_); go_simp; refine hK _ ?_; clear hK K)
      refine wpV_nil ?_
      refine wpAnyC_step [11] (by kernel_rfl) (by simp) ?_
      intro j hj
      simp only [List.mem_cons, List.not_mem_nil, or_false] at hj
      subst hj
      refine ⟨_, rfl, ?_⟩
      go_wp2_with fail
      refine (hlk _).mono ?_
      rintro e w6 ⟨rfl, hx6⟩
      have hF6 := hF.grow hx6
      clear hF hx6 ht1 ht2 hsl1 hsl2 hR1 hR2
      go_wp2_with fail
      refine ⟨.inr hF6, ?_⟩
      refine wpAnyC_again [12, 13, 14, 15, 16] 0 (by kernel_rfl) hF6 ?_
      simp only [List.filterMap_cons, List.filterMap_nil, List.getElem?_toArray, List.getElem?_cons_zero, List.getElem?_cons_succ]
      repeat (refine wpV_step (fun K hK => ?_); go_simp; refine hK _ ?_; clear hK K)
      refine wpV_nil ?_
      refine wpAnyC_end (by kernel_rfl) ?_
      clear hnn
      generalize likeP (zs (runes s)) (zs (runes (X1 ++ ⟨#[42]⟩ ++ X2))) = q2 at *
      generalize likeP (zs (runes s)) (zs rs) = q1 at *
      generalize plainP (zs rs) = pl at *
      cases pl
      · cases q1
        · go_wp2
          go_ret
          exact ⟨rfl, hx3'.grow hF6⟩
        · have hq2 : q2 = true := Hst.out rfl
          subst hq2
          go_wp2
          go_ret
          exact ⟨rfl, hx3'.grow hF6⟩
      · have Hq1 := Lib.hid (Hpl2.out rfl)
        go_wp2_with fail
        refine (compare_any w6 s p (by omega) (by omega)).mono ?_
        rintro e w7 ⟨rfl, hx7⟩
        have hxe := (hx3'.grow hF6).grow hx7
        by_cases hc0 : cmpT s p = 0
        · have hqt : q1 = true := by rw [Hq1.out]; exact decide_eq_true hc0
          have hq2 : q2 = true := Hst.out hqt
          subst hq2 hqt
          rw [hc0]
          clear hc0 Hq1
          go_wp2
          go_ret
          exact ⟨rfl, hxe⟩
        · have hqt : q1 = false := by rw [Hq1.out]; exact decide_eq_false hc0
          have hcb : (cmpT s p == 0) = false := by simpa using hc0
          subst hqt
          clear hc0 Hq1
          generalize cmpT s p = cc at *
          go_wp2
          go_ret
          exact ⟨rfl, hxe⟩

theorem stars_all (w : World) (hT : Lib.Utf8Tabs 1 2 w) (s p : ByteArray) (n : Int) (hn : -9223372036854775808 ≤ n ∧ n ≤ 9223372036854775807) :
    Calls Tryd.prog 10 #[.string s, .string p, .int .i64 n] w fun e w' => e = .returned (.bool true) ∧ Ext none_ w w' := by
  by_cases h : 150 < s.size ∨ 150 < p.size
  · exact stars_long w hT s p n h
  · exact stars_any w hT s p n hn (by omega) (by omega)

end Go.Proofs.YtocjidlbjmghdaaDoor
