/- The walks of a table's functions. -/
import Derived.Test.YtjphmbflggeciaaLeast
namespace Go.Proofs.Ytjphmbflggeciaa
open Go.RowKit Go.Cw

/-- what a table's calls may turn -/
def Foot (g mb : Nat) (b : Nat) : Prop := b = g ∨ b = mb

/-- what 'is' answers -/
def isE (ss : Int) (M : List (Z × Int)) (s : Z) (inside : Bool) (other : Int) : Int := if s.1 < 0 ∨ ss ≤ s.1 then 2 else if (mget M s).isSome = inside then 0 else other

theorem look_ok {w : World} {mb : Nat} {M : List (Z × Int)} (h : MapIs Z.val (Value.int .i64) w mb M) (x : Z) :
    (Instr.lookup 49 (.map (some mb)) (.int .i64 x.1) true).run Try.prog w = .ok (.tuple #[.int .i64 ((mget M x).getD 0), .bool (mget M x).isSome]) w := by
  have := MapIs.look true kt3 Try.underlying49 (zero3 w) h x
  simp only [Z.val, if_true] at this
  rw [this]
  cases mget M x <;> rfl

theorem in_any (w : World) (base g mb : Nat) (ss gl : Int) (M : List (Z × Int)) (s : Z) (hT : TableIs w base g mb ss gl M) :
    Calls Try.prog 13 #[.pointer (some ⟨g, 0, none⟩), .int .i64 s.1] w fun e w' => e = .returned (.tuple #[.int .i64 ((mget M s).getD 0), .bool (mget M s).isSome]) ∧ w = w' := by
  obtain ⟨g0, g1, g2⟩ := cells3 hT.blk
  have hl := look_ok hT.map s
  go_enter Try.func13, Try.ntmps13
  go_wp2
  go_ret2
  exact ⟨rfl, rfl⟩

theorem global_any (w : World) (base g mb : Nat) (ss gl : Int) (M : List (Z × Int)) (hT : TableIs w base g mb ss gl M) :
    Calls Try.prog 10 #[.pointer (some ⟨g, 0, none⟩)] w fun e w' => e = .returned (.int .i64 gl) ∧ w = w' := by
  obtain ⟨g0, g1, g2⟩ := cells3 hT.blk
  go_enter Try.func10, Try.ntmps10
  go_wp2
  go_ret
  exact ⟨rfl, rfl⟩

set_option maxHeartbeats 1000000 in
theorem is_any (w : World) (base g mb : Nat) (ss gl : Int) (M : List (Z × Int)) (s : Z) (inside : Bool) (other : Int) (hT : TableIs w base g mb ss gl M) :
    Calls Try.prog 20 #[.pointer (some ⟨g, 0, none⟩), .int .i64 s.1, .bool inside, .int .i64 other] w fun e w' => e = .returned (.int .i64 (isE ss M s inside other)) ∧ w = w' := by
  obtain ⟨g0, g1, g2⟩ := cells3 hT.blk
  have hl := look_ok hT.map s
  clear hT
  by_cases h1 : s.1 < 0
  · have hr : isE ss M s inside other = 2 := by unfold isE; rw [if_pos (.inl h1)]
    have hd : decide (s.1 < 0) = true := decide_eq_true h1
    have Hr := Lib.hid hr
    clear hr h1
    go_enter Try.func20, Try.ntmps20
    go_wp2
    go_ret
    exact ⟨by rw [Hr.out]; rfl, rfl⟩
  · have hd : decide (s.1 < 0) = false := decide_eq_false h1
    by_cases h2 : ss ≤ s.1
    · have hr : isE ss M s inside other = 2 := by unfold isE; rw [if_pos (.inr h2)]
      have hd2 : decide (ss ≤ s.1) = true := decide_eq_true h2
      have Hr := Lib.hid hr
      clear hr h1 h2
      go_enter Try.func20, Try.ntmps20
      go_wp2
      go_ret
      exact ⟨by rw [Hr.out]; rfl, rfl⟩
    · have hd2 : decide (ss ≤ s.1) = false := decide_eq_false h2
      have hr : isE ss M s inside other = if (mget M s).isSome = inside then 0 else other := by unfold isE; rw [if_neg (by omega)]
      clear h1 h2
      have Hr := Lib.hid hr
      clear hr
      generalize (mget M s).isSome = q at *
      generalize (mget M s).getD 0 = q2 at *
      cases q <;> cases inside
      all_goals
        go_enter Try.func20, Try.ntmps20
        go_wp2
        go_ret
        exact ⟨by rw [Hr.out]; rfl, rfl⟩

theorem TableIs.put {w w' : World} {base g mb : Nat} {ss gl : Int} {M M' : List (Z × Int)} (h : TableIs w base g mb ss gl M) (hm : MapIs Z.val (Value.int .i64) w' mb M') (hx : Ext (· = mb) w w') : TableIs w' base g mb ss gl M' :=
  ⟨hx.blk h.blk (fun e => h.map.ne_cells h.blk e.symm), hm, h.gb, h.mb⟩

def enterM (ss gl : Int) (M : List (Z × Int)) (s : Z) : List (Z × Int) := if isE ss M s false 31 = 0 then mput M s gl else M
def enterN (ss gl : Int) (M : List (Z × Int)) (s : Z) : Int := if isE ss M s false 31 = 0 then gl else 0
def leaveM (ss : Int) (M : List (Z × Int)) (s : Z) : List (Z × Int) := if isE ss M s true 51 = 0 then mdel M s else M

set_option maxHeartbeats 1000000 in
theorem enter_any (w : World) (base g mb : Nat) (ss gl : Int) (M : List (Z × Int)) (s : Z) (hT : TableIs w base g mb ss gl M) :
    Calls Try.prog 9 #[.pointer (some ⟨g, 0, none⟩), .int .i64 s.1] w fun e w' => e = .returned (.tuple #[.int .i64 (enterN ss gl M s), .int .i64 (isE ss M s false 31)]) ∧ TableIs w' base g mb ss gl (enterM ss gl M s) ∧ Ext (Foot g mb) w w' := by
  have hN : enterN ss gl M s = if isE ss M s false 31 = 0 then gl else 0 := rfl
  have hM : enterM ss gl M s = if isE ss M s false 31 = 0 then mput M s gl else M := rfl
  have HN := Lib.hid hN
  have HM := Lib.hid hM
  clear hN hM
  go_enter Try.func9, Try.ntmps9
  go_wp2_with fail
  refine (is_any w base g mb ss gl M s false 31 hT).mono ?_
  rintro e w1 ⟨rfl, rfl⟩
  generalize hEE : isE ss M s false 31 = E at *
  have HE := Lib.hid hEE
  clear hEE
  by_cases hE : E = 0
  · subst hE
    have hT1 := hT.ext0 (Ext.drew w)
    go_wp2_with fail
    refine wp_region_hoist (Still w.drew) 9 [0, 1, 2, 3, 4, 5, 6, 7, 8] [9] mixed (by kernel_rfl) rfl ?_
    simp only [List.filterMap_cons, List.filterMap_nil, List.getElem?_cons_zero, List.getElem?_cons_succ]
    have hx1 := Ext.drew w
    generalize w.drew = w2 at *
    have hF := fun i => Still.fam (w := w2) i
    have hnn := Still.ne w2
    obtain ⟨g0, g1, g2⟩ := cells3 hT1.blk
    repeat (refine wpV_step (fun K hK => ?_); go_simp; refine hK _ ?_; clear hK K)
    refine wpV_nil (wpCh_last ?_)
    clear hF hnn
    refine wpList_mapUp rfl _ _ _ rfl kt3 Try.underlying49 hT1.map s gl rfl rfl rfl ?_
    intro w3 hM3 hx3
    have hT3 := hT1.put hM3 hx3
    clear g0 g1 g2
    obtain ⟨g0, g1, g2⟩ := cells3 hT3.blk
    go_wp2
    go_ret2
    exact ⟨by rw [HN.out, HE.out]; rfl, by rw [HM.out]; exact hT3, (hx1.mono fun _ _ h => h.elim).trans hx3 fun _ _ h => .inr h⟩
  · have hb : (E != 0) = true := by simp [hE]
    have hE2 := Lib.hid hE
    go_wp2
    go_ret2
    exact ⟨by rw [HN.out, HE.out, if_neg hE2.out]; rfl, by rw [HM.out, if_neg hE2.out]; exact hT, Ext.refl _ _⟩

set_option maxHeartbeats 1000000 in
theorem leave_any (w : World) (base g mb : Nat) (ss gl : Int) (M : List (Z × Int)) (s : Z) (hT : TableIs w base g mb ss gl M) :
    Calls Try.prog 12 #[.pointer (some ⟨g, 0, none⟩), .int .i64 s.1] w fun e w' => e = .returned (.int .i64 (isE ss M s true 51)) ∧ TableIs w' base g mb ss gl (leaveM ss M s) ∧ Ext (Foot g mb) w w' := by
  have hM : leaveM ss M s = if isE ss M s true 51 = 0 then mdel M s else M := rfl
  have HM := Lib.hid hM
  clear hM
  go_enter Try.func12, Try.ntmps12
  go_wp2_with fail
  refine (is_any w base g mb ss gl M s true 51 hT).mono ?_
  rintro e w1 ⟨rfl, rfl⟩
  generalize hEE : isE ss M s true 51 = E at *
  have HE := Lib.hid hEE
  clear hEE
  by_cases hE : E = 0
  · subst hE
    obtain ⟨g0, g1, g2⟩ := cells3 hT.blk
    obtain ⟨w3, hrun, hM3, hx3⟩ := MapIs.delete (ty := 0) kt3 Try.underlying49 hT.map s
    unfold Z.val at hrun
    have hT3 := hT.put hM3 hx3
    go_wp2
    go_ret
    exact ⟨by rw [HE.out]; rfl, by rw [HM.out]; exact hT3, hx3.mono fun _ _ h => .inr h⟩
  · have hb : (E == 0) = false := by simp [hE]
    have hE2 := Lib.hid hE
    go_wp2
    go_ret
    exact ⟨by rw [HE.out]; rfl, by rw [HM.out, if_neg hE2.out]; exact hT, Ext.refl _ _⟩

theorem TableIs.foot {w : World} {base g mb : Nat} {ss gl : Int} {M : List (Z × Int)} (h : TableIs w base g mb ss gl M) {b : Nat} (hb : b < base) : ¬ Foot g mb b := by
  rintro (rfl | rfl)
  · have := h.gb; omega
  · have := h.mb; omega
theorem TableIs.since {W w w' : World} {g mb : Nat} {ss gl : Int} {M : List (Z × Int)} (h : TableIs w W.heap.size g mb ss gl M) (hW : Ext none_ W w) (hx : Ext (Foot g mb) w w') : Ext none_ W w' :=
  hW.trans hx fun _ hi hf => (h.foot hi hf).elim

def refE (ss : Int) (M : List (Z × Int)) (s : Z) : Int := if isE ss M s true 51 = 0 then isE ss (leaveM ss M s) s false 31 else isE ss M s true 51
def refN (ss gl : Int) (M : List (Z × Int)) (s : Z) : Int := if isE ss M s true 51 = 0 then enterN ss gl (leaveM ss M s) s else 0
def refM (ss gl : Int) (M : List (Z × Int)) (s : Z) : List (Z × Int) := if isE ss M s true 51 = 0 then enterM ss gl (leaveM ss M s) s else leaveM ss M s

set_option maxHeartbeats 1000000 in
theorem refresh_any (w : World) (base g mb : Nat) (ss gl : Int) (M : List (Z × Int)) (s : Z) (hT : TableIs w base g mb ss gl M) :
    Calls Try.prog 14 #[.pointer (some ⟨g, 0, none⟩), .int .i64 s.1] w fun e w' => e = .returned (.tuple #[.int .i64 (refN ss gl M s), .int .i64 (refE ss M s)]) ∧ TableIs w' base g mb ss gl (refM ss gl M s) ∧ Ext (Foot g mb) w w' := by
  have HE1 := Lib.hid (show refE ss M s = if isE ss M s true 51 = 0 then isE ss (leaveM ss M s) s false 31 else isE ss M s true 51 from rfl)
  have HN := Lib.hid (show refN ss gl M s = if isE ss M s true 51 = 0 then enterN ss gl (leaveM ss M s) s else 0 from rfl)
  have HM := Lib.hid (show refM ss gl M s = if isE ss M s true 51 = 0 then enterM ss gl (leaveM ss M s) s else leaveM ss M s from rfl)
  go_enter Try.func14, Try.ntmps14
  go_wp2_with fail
  refine (leave_any w base g mb ss gl M s hT).mono ?_
  rintro e w1 ⟨rfl, hT1, hx1⟩
  generalize isE ss M s true 51 = E at *
  by_cases hE : E = 0
  · subst hE
    go_wp2_with fail
    refine (enter_any w1 base g mb ss gl _ s hT1).mono ?_
    rintro e w2 ⟨rfl, hT2, hx2⟩
    go_wp2
    go_ret2
    exact ⟨by rw [HN.out, HE1.out]; rfl, by rw [HM.out]; exact hT2, hx1.trans hx2 fun _ _ h => h⟩
  · have hb : (E != 0) = true := by simp [hE]
    have hE2 := Lib.hid hE
    go_wp2
    go_ret2
    exact ⟨by rw [HN.out, HE1.out, if_neg hE2.out, if_neg hE2.out]; rfl, by rw [HM.out, if_neg hE2.out]; exact hT1, hx1⟩

/-- what Advance answers where the least is m, and the global epoch then -/
def advN (gl m : Int) : Int := if gl = 2147483647 then 0 else if m < gl then 0 else gl + 1
def advE (gl m : Int) : Int := if gl = 2147483647 then 40 else if m < gl then 60 else 0
def advG (gl m : Int) : Int := if gl = 2147483647 then gl else if m < gl then gl else gl + 1

set_option maxHeartbeats 1000000 in
theorem advance_any (w : World) (base g mb : Nat) (ss gl : Int) (M : List (Z × Int)) (hT : TableIs w base g mb ss gl M) (hgl : 0 ≤ gl ∧ gl ≤ 2147483647) (hn : M.length ≤ 10000) :
    Calls Try.prog 8 #[.pointer (some ⟨g, 0, none⟩)] w fun e w' => ∃ m, IsLeast m gl (M.map (·.2)) ∧ e = .returned (.tuple #[.int .i64 (advN gl m), .int .i64 (advE gl m)]) ∧ TableIs w' base g mb ss (advG gl m) M ∧ Ext (Foot g mb) w w' := by
  obtain ⟨g0, g1, g2⟩ := cells3 hT.blk
  by_cases hgx : gl = 2147483647
  · subst hgx
    obtain ⟨m, hm⟩ : ∃ m, IsLeast m 2147483647 (M.map (·.2)) := ⟨_, mn_least _ _⟩
    go_enter Try.func8, Try.ntmps8
    go_wp2
    go_ret2
    exact ⟨m, hm, by simp [advN, advE], by simpa [advG] using hT, Ext.refl _ _⟩
  · have hb : (gl == 2147483647) = false := by simp [hgx]
    have Hgx := Lib.hid hgx
    clear hgx
    have hT1 := hT.ext0 (Ext.drew w)
    have hx1 := Ext.drew w
    go_enter Try.func8, Try.ntmps8
    go_wp2_with fail
    refine wp_region_hoist (At3 g mb ss gl) 7 [0, 2, 3, 4, 5] [1, 6, 7] mixed (by kernel_rfl) hT1.at3 ?_
    simp only [List.filterMap_cons, List.filterMap_nil, List.getElem?_cons_zero, List.getElem?_cons_succ]
    have hnn := Fam.ne hT1.at3
    clear g0 g1 g2
    generalize w.drew = w1 at *
    have hc1 := fun i : Fam (At3 g mb ss gl) => i.h.c1
    repeat (refine wpV_step (fun K hK => ?_); go_simp; refine hK _ ?_; clear hK K)
    refine wpV_nil (wpCh_step ?_)
    clear hc1 hnn
    go_wp2_with fail
    refine (least_any w1 base g mb ss gl M hT1 hn).mono ?_
    rintro e w2 ⟨m, rfl, hm, hx2⟩
    have hT2 := hT1.ext0 hx2
    have HT2 := Lib.hid hT2
    have Hm := Lib.hid hm
    clear hT1 hm hT2
    go_wp2_with fail
    refine ⟨HT2.out.at3, wpCh_step ?_⟩
    by_cases hml : m < gl
    · have hd : decide (m < gl) = true := decide_eq_true hml
      have Hml := Lib.hid hml
      clear hml
      go_wp2_with fail
      refine ⟨HT2.out.at3, wpCh_last ?_⟩
      go_wp2
      go_ret2
      refine ⟨m, Hm.out, ?_, ?_, (hx1.grow hx2).mono fun _ _ h => h.elim⟩
      · simp [advN, advE, Hgx.out, Hml.out]
      · have : advG gl m = gl := by simp [advG, Hgx.out, Hml.out]
        rw [this]; exact HT2.out
    · have hd : decide (m < gl) = false := decide_eq_false hml
      have Hml := Lib.hid hml
      clear hml
      go_wp2_with fail
      refine ⟨HT2.out.at3, wpCh_last ?_⟩
      obtain ⟨g0, g1, g2⟩ := cells3 HT2.out.blk
      have hf := frozen_of HT2.out.blk 1
      have hb3 := blk_set HT2.out.blk 1 (.int .i64 (gl + 1))
      have hx3 := Ext.setCell w2 ⟨g, 1, none⟩ (.int .i64 (gl + 1))
      have hg3 : (w2.setCell ⟨g, 1, none⟩ (.int .i64 (gl + 1))).cell? ⟨g, 1, none⟩ = some (.int .i64 (gl + 1)) := by rw [cell_of hb3]; rfl
      have hm3 := HT2.out.map.ext hx3 (fun e => HT2.out.map.ne_cells HT2.out.blk e)
      go_wp2
      go_ret2
      have hml' := Hml.out
      refine ⟨m, Hm.out, ?_, ?_, ((hx1.grow hx2).mono fun _ _ h => h.elim : Ext (Foot g mb) w w2).trans hx3 fun _ _ h => .inl h⟩
      · simp [advN, advE, Hgx.out, show ¬ m < gl by omega]
      · have : advG gl m = gl + 1 := by simp [advG, Hgx.out, show ¬ m < gl by omega]
        rw [this]
        exact ⟨by simpa using hb3, hm3, HT2.out.gb, HT2.out.mb⟩

set_option maxHeartbeats 1000000 in
theorem new_any (w : World) (base : Nat) (ss gl : Int) (hb : base ≤ w.heap.size) (hs : 1 ≤ ss ∧ ss ≤ 64) (hgl : 0 ≤ gl ∧ gl ≤ 2147483647) :
    Calls Try.prog 7 #[.int .i64 ss, .int .i64 gl] w fun e w' => ∃ g mb, e = .returned (.tuple #[.pointer (some ⟨g, 0, none⟩), .int .i64 0]) ∧ TableIs w' base g mb ss gl [] ∧ Ext none_ w w' := by
  have hmm := @run_makeMap Try.prog
  have h1 : decide (ss < 1) = false := by simp; omega
  have h2 : decide (64 < ss) = false := by simp; omega
  have h3 : decide (gl < 0) = false := by simp; omega
  have h4 : decide (2147483647 < gl) = false := by simp; omega
  clear hs hgl
  go_enter Try.func7, Try.ntmps7
  go_wp2
  go_ret2
  refine ⟨w.heap.size + 1, w.heap.size, by simp, ⟨by simpa using blk_new (w.alloc (.map #[] 0)) _, (MapIs.made w).ext (Ext.alloc _ _) id, by omega, hb⟩, (Ext.alloc _ _).grow (Ext.alloc _ _)⟩

end Go.Proofs.Ytjphmbflggeciaa
