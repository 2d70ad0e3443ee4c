/- The walk of EpochActs. -/
import Derived.Test.YtjphmbflggeciaaETold
import Derived.Test.YtjphmbflggeciaaOpenActs
namespace Go.Proofs.Ytjphmbflggeciaa
open Go.RowKit Go.Cw

theorem lvN_false (gl : Int) (R : List Int) (s : Int) : lvN false gl R s = 0 := by unfold lvN; simp
theorem lvR_false (gl : Int) (R : List Int) (s : Int) : lvR false gl R s = if rL R s = 0 then R.set s.toNat (-1) else R := by unfold lvR; simp
theorem lvN_true (gl : Int) (R : List Int) (s : Int) : lvN true gl R s = if rL R s = 0 then gl else 0 := by unfold lvN; simp
theorem lvR_true (gl : Int) (R : List Int) (s : Int) : lvR true gl R s = if rL R s = 0 then (R.set s.toNat (-1)).set s.toNat gl else R := by unfold lvR; simp
theorem Sim.enterN {n : Nat} {gl : Int} {M : List (Z × Int)} {R : List Int} (h : Sim n gl M R) (s : Z) : enterN n gl M s = enN gl R s.1 := by
  unfold Ytjphmbflggeciaa.enterN enN
  rw [h.enterE s]

theorem new_bad (w : World) (ss gl : Int) (h : ss < 1 ∨ 64 < ss ∨ gl < 0 ∨ 2147483647 < gl) :
    Calls Try.prog 7 #[.int .i64 ss, .int .i64 gl] w fun e w' => e = .returned (.tuple #[.pointer none, .int .i64 2]) ∧ w = w' := by
  by_cases h1 : ss < 1
  · have d1 : decide (ss < 1) = true := decide_eq_true h1
    clear h h1
    go_enter Try.func7, Try.ntmps7
    go_wp2
    go_ret2
    exact ⟨rfl, rfl⟩
  · have d1 : decide (ss < 1) = false := decide_eq_false h1
    by_cases h2 : 64 < ss
    · have d2 : decide (64 < ss) = true := decide_eq_true h2
      clear h h1 h2
      go_enter Try.func7, Try.ntmps7
      go_wp2
      go_ret2
      exact ⟨rfl, rfl⟩
    · have d2 : decide (64 < ss) = false := decide_eq_false h2
      by_cases h3 : gl < 0
      · have d3 : decide (gl < 0) = true := decide_eq_true h3
        clear h h1 h2 h3
        go_enter Try.func7, Try.ntmps7
        go_wp2
        go_ret2
        exact ⟨rfl, rfl⟩
      · have d3 : decide (gl < 0) = false := decide_eq_false h3
        have d4 : decide (2147483647 < gl) = true := decide_eq_true (by omega)
        clear h h1 h2 h3
        go_enter Try.func7, Try.ntmps7
        go_wp2
        go_ret2
        exact ⟨rfl, rfl⟩

set_option maxHeartbeats 2000000 in
theorem acts_long (w : World) (ss gl : Int) (a : Option Addr) (n c : Nat) (h : 200 < n) :
    Calls Try.prog 5 #[.int .i64 ss, .int .i64 gl, .slice a n c] w fun e w' => e = .returned (.bool true) ∧ Ext none_ w w' := by
  have hd : decide ((200 : Int) < (n : Int)) = true := decide_eq_true (by omega)
  clear h
  go_enter Try.func5, Try.ntmps5
  go_wp2_with fail
  refine (awake_any w).mono ?_
  rintro e w1 ⟨rfl, hx1⟩
  go_wp2_with fail
  refine (awake_any w1).mono ?_
  rintro e w2 ⟨rfl, hx2⟩
  go_wp2
  go_ret
  exact ⟨rfl, hx1.grow hx2⟩

set_option maxHeartbeats 2000000 in
theorem acts_bad (w : World) (ss gl : Int) (a : Option Addr) (n c : Nat) (hn : n ≤ 200) (h : ss < 1 ∨ 64 < ss ∨ gl < 0 ∨ 2147483647 < gl) :
    Calls Try.prog 5 #[.int .i64 ss, .int .i64 gl, .slice a n c] w fun e w' => e = .returned (.bool true) ∧ Ext none_ w w' := by
  have hd : decide ((200 : Int) < (n : Int)) = false := decide_eq_false (by omega)
  have cN := fun w => new_bad w ss gl h
  by_cases h1 : ss < 1
  · have d1 : decide (ss < 1) = true := decide_eq_true h1
    clear h h1
    go_enter Try.func5, Try.ntmps5
    go_wp2_with fail
    refine (awake_any w).mono ?_
    rintro e w1 ⟨rfl, hx1⟩
    go_wp2_with fail
    refine (cN w1).mono ?_
    rintro e w2 ⟨rfl, rfl⟩
    go_wp2
    go_ret
    exact ⟨rfl, hx1⟩
  · have d1 : decide (ss < 1) = false := decide_eq_false h1
    by_cases h2 : 64 < ss
    · have d2 : decide (64 < ss) = true := decide_eq_true h2
      clear h h1 h2
      go_enter Try.func5, Try.ntmps5
      go_wp2_with fail
      refine (awake_any w).mono ?_
      rintro e w1 ⟨rfl, hx1⟩
      go_wp2_with fail
      refine (cN w1).mono ?_
      rintro e w2 ⟨rfl, rfl⟩
      go_wp2
      go_ret
      exact ⟨rfl, hx1⟩
    · have d2 : decide (64 < ss) = false := decide_eq_false h2
      by_cases h3 : gl < 0
      · have d3 : decide (gl < 0) = true := decide_eq_true h3
        clear h h1 h2 h3
        go_enter Try.func5, Try.ntmps5
        go_wp2_with fail
        refine (awake_any w).mono ?_
        rintro e w1 ⟨rfl, hx1⟩
        go_wp2_with fail
        refine (cN w1).mono ?_
        rintro e w2 ⟨rfl, rfl⟩
        go_wp2
        go_ret
        exact ⟨rfl, hx1⟩
      · have d3 : decide (gl < 0) = false := decide_eq_false h3
        have d4 : decide (2147483647 < gl) = true := decide_eq_true (by omega)
        clear h h1 h2 h3
        go_enter Try.func5, Try.ntmps5
        go_wp2_with fail
        refine (awake_any w).mono ?_
        rintro e w1 ⟨rfl, hx1⟩
        go_wp2_with fail
        refine (cN w1).mono ?_
        rintro e w2 ⟨rfl, rfl⟩
        go_wp2
        go_ret
        exact ⟨rfl, hx1⟩

theorem RTab.rebase {w : World} {base base' g i c : Nat} {gl : Int} {R : List Int} (h : RTab w base g i c gl R) (hb : base' ≤ base) : RTab w base' g i c gl R :=
  ⟨h.blk, h.row, Nat.le_trans hb h.gb, Nat.le_trans hb h.ib, h.ne⟩
theorem Sim.start (n : Nat) (gl : Int) (h1 : 1 ≤ n) (h2 : n ≤ 64) (h3 : 0 ≤ gl) (h4 : gl ≤ 2147483647) : Sim n gl [] (List.replicate n (-1)) := by
  refine ⟨List.nodup_nil, List.length_replicate, h1, h2, h3, h4, fun x e h => (by cases h), fun i e h => ?_⟩
  rw [List.getElem?_replicate] at h
  split at h
  · exact .inl (Option.some.inj h).symm
  · cases h

set_option maxHeartbeats 8000000 in
set_option maxRecDepth 100000 in
theorem acts_any (w : World) (n : Nat) (first : Int) (a : Option Addr) (xs : List A) (b off c : Nat) (hA : AR w a xs b off) (hn : xs.length ≤ 200) (h1 : 1 ≤ n) (h2 : n ≤ 64) (h3 : 0 ≤ first) (h4 : first ≤ 2147483647) :
    Calls Try.prog 5 #[.int .i64 n, .int .i64 first, .slice a xs.length c] w fun e w' => e = .returned (.bool true) ∧ Ext none_ w w' := by
  have hd : decide ((200 : Int) < (xs.length : Int)) = false := decide_eq_false (by omega)
  have d1 : decide ((n : Int) < 1) = false := decide_eq_false (by omega)
  have d2 : decide (64 < (n : Int)) = false := decide_eq_false (by omega)
  have d3 : decide (first < 0) = false := decide_eq_false (by omega)
  have d4 : decide (2147483647 < first) = false := decide_eq_false (by omega)
  have n1 : ¬ n < 1 := by omega
  have n2 : ¬ 64 < n := by omega
  have hS0 := Sim.start n first h1 h2 h3 h4
  go_enter Try.func5, Try.ntmps5
  go_wp2_with fail
  refine (awake_any w).mono ?_
  rintro e w1 ⟨rfl, hx1⟩
  go_wp2_with fail
  refine (new_any w1 w.heap.size n first hx1.size (by omega) (by omega)).mono ?_
  rintro e w2 ⟨g, mb, rfl, hT2, hx2⟩
  have hx2' := hx1.grow hx2
  clear hx1 hx2
  go_wp2_with fail
  refine (rnew_any w2 n first h1 h2).mono ?_
  rintro e w3 ⟨g2, ib, c2, rfl, hR3, hx3⟩
  have hgl := Cw.blk_lt hT2.blk
  have hml := hT2.map.lt
  have hT3 := hT2.ext0 hx3
  have hx3' := hx2'.grow hx3
  have hwl := hx2'.size
  have hfg : ∀ j, Foot g mb j → ¬ (w2.heap.size ≤ j) := by rintro j (e | e) <;> omega
  clear hd d1 d2 d3 d4 n1 n2 hT2 hx2' hx3
  go_wp2_with fail
  go_loopw [10] (fun i wr => ∃ (k : Nat) (gl : Int) (M : List (Z × Int)) (R : List Int), k ≤ xs.length ∧ i = .int .i64 k ∧ TableIs wr w.heap.size g mb n gl M ∧ RTab wr w2.heap.size g2 ib c2 gl R ∧ Sim n gl M R ∧ Ext none_ w wr) (fun i _ => xs.length - (RowKit.intOf i).toNat)
  case atStart => exact ⟨0, first, [], _, Nat.zero_le _, rfl, hT3, hR3, hS0, hx3'⟩
  case round =>
    obtain ⟨k, gl, M, R, hk, rfl, hT, hR, hS, hx⟩ := hrel
    clear hT3 hR3 hS0 hx3'
    have hf2 : ∀ j, Foot g2 ib j → w2.heap.size ≤ j := by
      have h5 := hR.gb
      have h6 := hR.ib
      rintro j (e | e) <;> omega
    by_cases hlt : k < xs.length
    · have hdk : decide ((k : Int) < (xs.length : Int)) = true := decide_eq_true (by omega)
      obtain ⟨act, hak⟩ : ∃ x, xs[k]? = some x := ⟨_, List.getElem?_eq_getElem hlt⟩
      have ha := hA.addr (by omega)
      subst ha
      obtain ⟨e0, e1⟩ := (hA.ext0 hx).cell k act hak
      obtain ⟨kind, s⟩ := act
      simp only at e0 e1
      have hnn : ∀ z : Int, (z != z) = false := fun z => bne_self_eq_false z
      clear hak
      by_cases k0 : kind = 0
      · subst k0
        have cA := enter_any wr _ g mb n gl M s hT
        have cB := fun w h => renter_any w w2.heap.size g2 ib c2 gl s.1 R h
        rw [hS.enterN s, hS.enterE s] at cA
        have hS' : Sim n gl (enterM n gl M s) (enR gl R s.1) := hS.enter s
        have h9 := hnn (enN gl R s.1)
        have h8 := hnn (rE R s.1)
        generalize enN gl R s.1 = N at *
        generalize rE R s.1 = E at *
        go_wp2_with fail
        refine cA.mono ?_
        rintro e w5 ⟨rfl, hT5, hy5⟩
        have hx5 := hT.since hx hy5
        have hR5 := hR.ext hy5 (fun e => hfg _ e hR.gb) (fun e => hfg _ e hR.ib)
        clear cA hy5 hT hR hx e0 e1
        go_wp2_with fail
        refine (cB w5 hR5).mono ?_
        rintro e w6 ⟨rfl, hRf, hy6⟩
        have hTf := hT5.ext hy6 (fun e => by have := hf2 _ e; omega) (fun e => by have := hf2 _ e; omega)
        have hxf := hx5.trans hy6 fun j hj e => by have := hf2 _ e; omega
        clear cB hy6 hT5 hR5 hx5
        have cT := told_any w6 _ g mb n g2 ib c2 gl (enterM n gl M s) (enR gl R s.1) hTf (hRf.rebase hwl) hS'
        have HS := Lib.hid hS'
        generalize (enterM n gl M s) = Mf at *
        generalize (enR gl R s.1) = Rf at *
        go_wp2_with fail
        refine cT.mono ?_
        rintro e wz ⟨rfl, hz⟩
        have hTz := hTf.ext0 hz
        have hRz := hRf.ext0 hz
        have hxz := hxf.grow hz
        clear hz cT hTf hRf hxf
        go_wp2_with fail
        exact ⟨⟨k + 1, gl, Mf, Rf, by omega, by simp, hTz, hRz, HS.out, hxz⟩, by simp [RowKit.intOf]; omega⟩
      · have k0b : (kind == 0) = false := beq_eq_false_iff_ne.2 k0
        by_cases k1 : kind = 1
        · subst k1
          have cA := leave_any wr _ g mb n gl M s hT
          have cB := fun w h => rleave_any w w2.heap.size g2 ib c2 gl s.1 R false h
          rw [hS.leaveE s] at cA
          have hS' : Sim n gl (leaveM n M s) (lvR false gl R s.1) := by rw [lvR_false]; exact hS.leave s
          have h9 := hnn 0
          have h8 := hnn (rL R s.1)
          rw [lvN_false] at cB
          generalize rL R s.1 = E at *
          go_wp2_with fail
          refine cA.mono ?_
          rintro e w5 ⟨rfl, hT5, hy5⟩
          have hx5 := hT.since hx hy5
          have hR5 := hR.ext hy5 (fun e => hfg _ e hR.gb) (fun e => hfg _ e hR.ib)
          clear cA hy5 hT hR hx e0 e1
          go_wp2_with fail
          refine (cB w5 hR5).mono ?_
          rintro e w6 ⟨rfl, hRf, hy6⟩
          have hTf := hT5.ext hy6 (fun e => by have := hf2 _ e; omega) (fun e => by have := hf2 _ e; omega)
          have hxf := hx5.trans hy6 fun j hj e => by have := hf2 _ e; omega
          clear cB hy6 hT5 hR5 hx5
          have cT := told_any w6 _ g mb n g2 ib c2 gl (leaveM n M s) (lvR false gl R s.1) hTf (hRf.rebase hwl) hS'
          have HS := Lib.hid hS'
          generalize (leaveM n M s) = Mf at *
          generalize (lvR false gl R s.1) = Rf at *
          go_wp2_with fail
          refine cT.mono ?_
          rintro e wz ⟨rfl, hz⟩
          have hTz := hTf.ext0 hz
          have hRz := hRf.ext0 hz
          have hxz := hxf.grow hz
          clear hz cT hTf hRf hxf
          go_wp2_with fail
          exact ⟨⟨k + 1, gl, Mf, Rf, by omega, by simp, hTz, hRz, HS.out, hxz⟩, by simp [RowKit.intOf]; omega⟩
        · have k1b : (kind == 1) = false := beq_eq_false_iff_ne.2 k1
          by_cases k2 : kind = 2
          · subst k2
            have cA := refresh_any wr _ g mb n gl M s hT
            have cB := fun w h => rleave_any w w2.heap.size g2 ib c2 gl s.1 R true h
            obtain ⟨r1, r2, r3⟩ := hS.ref s
            rw [r1, r2, ← lvN_true] at cA
            have hS' : Sim n gl (refM n gl M s) (lvR true gl R s.1) := by rw [lvR_true]; exact r3
            have h9 := hnn (lvN true gl R s.1)
            have h8 := hnn (rL R s.1)
            clear r1 r2 r3
            generalize lvN true gl R s.1 = N at *
            generalize rL R s.1 = E at *
            go_wp2_with fail
            refine cA.mono ?_
            rintro e w5 ⟨rfl, hT5, hy5⟩
            have hx5 := hT.since hx hy5
            have hR5 := hR.ext hy5 (fun e => hfg _ e hR.gb) (fun e => hfg _ e hR.ib)
            clear cA hy5 hT hR hx e0 e1
            go_wp2_with fail
            refine (cB w5 hR5).mono ?_
            rintro e w6 ⟨rfl, hRf, hy6⟩
            have hTf := hT5.ext hy6 (fun e => by have := hf2 _ e; omega) (fun e => by have := hf2 _ e; omega)
            have hxf := hx5.trans hy6 fun j hj e => by have := hf2 _ e; omega
            clear cB hy6 hT5 hR5 hx5
            have cT := told_any w6 _ g mb n g2 ib c2 gl (refM n gl M s) (lvR true gl R s.1) hTf (hRf.rebase hwl) hS'
            have HS := Lib.hid hS'
            generalize (refM n gl M s) = Mf at *
            generalize (lvR true gl R s.1) = Rf at *
            go_wp2_with fail
            refine cT.mono ?_
            rintro e wz ⟨rfl, hz⟩
            have hTz := hTf.ext0 hz
            have hRz := hRf.ext0 hz
            have hxz := hxf.grow hz
            clear hz cT hTf hRf hxf
            go_wp2_with fail
            exact ⟨⟨k + 1, gl, Mf, Rf, by omega, by simp, hTz, hRz, HS.out, hxz⟩, by simp [RowKit.intOf]; omega⟩
          · have k2b : (kind == 2) = false := beq_eq_false_iff_ne.2 k2
            by_cases k3 : kind = 3
            · subst k3
              have cA := advance_any wr _ g mb n gl M hT ⟨hS.g0, hS.g1⟩ (by have := hS.size; omega)
              have cB := fun w h => radv_any w w2.heap.size g2 ib c2 gl R h ⟨hS.g0, hS.g1⟩ (by have := hS.len; have := hS.n64; omega)
              go_wp2_with fail
              refine cA.mono ?_
              rintro e w5 ⟨m, hm, rfl, hT5, hy5⟩
              obtain ⟨r1, r2, r3, hS'⟩ := hS.adv hm
              have hx5 := hT.since hx hy5
              have hR5 := hR.ext hy5 (fun e => hfg _ e hR.gb) (fun e => hfg _ e hR.ib)
              rw [r1, r2]
              rw [r3] at hT5 hS'
              have h9 := hnn (rAN gl R)
              have h8 := hnn (rAE gl R)
              clear cA hy5 hT hR hx e0 e1 r1 r2 r3 hm
              generalize rAN gl R = N at *
              generalize rAE gl R = E at *
              generalize rAG gl R = gl' at *
              go_wp2_with fail
              refine (cB w5 hR5).mono ?_
              rintro e w6 ⟨rfl, hRf, hy6⟩
              have hTf := hT5.ext hy6 (fun e => by have := hf2 _ e; omega) (fun e => by have := hf2 _ e; omega)
              have hxf := hx5.trans hy6 fun j hj e => by have := hf2 _ e; omega
              clear cB hy6 hT5 hR5 hx5
              have cT := told_any w6 _ g mb n g2 ib c2 gl' M R hTf (hRf.rebase hwl) hS'
              have HS := Lib.hid hS'
              generalize M = Mf at *
              generalize R = Rf at *
              go_wp2_with fail
              refine cT.mono ?_
              rintro e wz ⟨rfl, hz⟩
              have hTz := hTf.ext0 hz
              have hRz := hRf.ext0 hz
              have hxz := hxf.grow hz
              clear hz cT hTf hRf hxf
              go_wp2_with fail
              exact ⟨⟨k + 1, gl', Mf, Rf, by omega, by simp, hTz, hRz, HS.out, hxz⟩, by simp [RowKit.intOf]; omega⟩
            · have k3b : (kind == 3) = false := beq_eq_false_iff_ne.2 k3
              have hTf := hT
              have hRf := hR
              have hxf := hx
              clear hT hR hx k0 k1 k2 k3
              have cT := told_any wr _ g mb n g2 ib c2 gl M R hTf (hRf.rebase hwl) hS
              have HS := Lib.hid hS
              generalize M = Mf at *
              generalize R = Rf at *
              go_wp2_with fail
              refine cT.mono ?_
              rintro e wz ⟨rfl, hz⟩
              have hTz := hTf.ext0 hz
              have hRz := hRf.ext0 hz
              have hxz := hxf.grow hz
              clear hz cT hTf hRf hxf
              go_wp2_with fail
              exact ⟨⟨k + 1, gl, Mf, Rf, by omega, by simp, hTz, hRz, HS.out, hxz⟩, by simp [RowKit.intOf]; omega⟩
    · have hdk : decide ((k : Int) < (xs.length : Int)) = false := decide_eq_false (by omega)
      go_wp2
      go_ret
      exact ⟨rfl, hx⟩

theorem acts_all (w : World) (ss gl : Int) (a : Option Addr) (xs : List A) (b off c : Nat) (hA : AR w a xs b off) :
    Calls Try.prog 5 #[.int .i64 ss, .int .i64 gl, .slice a xs.length c] w fun e w' => e = .returned (.bool true) ∧ Ext none_ w w' := by
  by_cases h : 200 < xs.length
  · exact acts_long w ss gl a _ c h
  · by_cases hb : ss < 1 ∨ 64 < ss ∨ gl < 0 ∨ 2147483647 < gl
    · exact acts_bad w ss gl a _ c (by omega) hb
    · obtain ⟨n, rfl⟩ : ∃ n : Nat, ss = n := ⟨ss.toNat, by omega⟩
      exact acts_any w n gl a xs b off c hA (by omega) (by omega) (by omega) (by omega) (by omega)

end Go.Proofs.Ytjphmbflggeciaa
