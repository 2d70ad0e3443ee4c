/- The walk of Retire: what it leaves. -/
import Derived.Test.YtfjlclloddbkmaaLimbo
namespace Go.Proofs.Ytfjlclloddbkmaa
open Go.RowKit Go.Cw

/-- one key retired -/
noncomputable def ret1 (e : Int) (s : List K × List (K × Int)) (x : K) : List K × List (K × Int) :=
  match mget s.2 x with
  | some old => (s.1.filter (fun y => !decide (y = x)) ++ [x], mput s.2 x (max old e))
  | none => (s.1 ++ [x], mput s.2 x e)
noncomputable def rets (e : Int) (s : List K × List (K × Int)) (xs : List K) : List K × List (K × Int) := xs.foldl (ret1 e) s
theorem rets_succ (e : Int) (s : List K × List (K × Int)) {xs : List K} {k : Nat} {x : K} (h : xs[k]? = some x) : rets e s (xs.take (k + 1)) = ret1 e (rets e s (xs.take k)) x := by
  obtain ⟨hl, rfl⟩ := List.getElem?_eq_some_iff.1 h
  unfold rets
  rw [List.take_succ_eq_append_getElem hl, List.foldl_append]; rfl
theorem ret1_len (e : Int) (s : List K × List (K × Int)) (x : K) : (ret1 e s x).1.length ≤ s.1.length + 1 := by
  unfold ret1
  split
  · simp only [List.length_append, List.length_cons, List.length_nil]; have := List.length_filter_le (fun y => !decide (y = x)) s.1; omega
  · simp
theorem rets_len (e : Int) (s : List K × List (K × Int)) (xs : List K) : (rets e s xs).1.length ≤ s.1.length + xs.length := by
  induction xs generalizing s with
  | nil => simp [rets]
  | cons x r ih =>
    have := ih (ret1 e s x)
    have h2 := ret1_len e s x
    simp only [rets, List.foldl_cons, List.length_cons] at this ⊢
    omega

theorem KOwn.mono {w : World} {base base' : Nat} {v : Value} {xs : List K} (h : KOwn w base v xs) (hb : base' ≤ base) : KOwn w base' v xs := by
  refine ⟨h.1, ?_⟩
  rcases h.2 with hn | ⟨g, cap, cur, rfl, hbg, rest⟩
  · exact .inl hn
  · exact .inr ⟨g, cap, cur, rfl, Nat.le_trans hb hbg, rest⟩
theorem KOwn.ne_map {w : World} {base mb : Nat} {v : Value} {xs : List K} {M : List (K × Int)} (h : KOwn w base v xs) (hm : MapIs K.val (Value.int .i64) w mb M) : v.ownBlock ≠ some mb := by
  intro e
  rcases h.2 with ⟨rfl, _⟩ | ⟨g, cap, cur, rfl, _, hgg, _⟩
  · cases e
  · cases e; exact hm.ne_cells hgg rfl
theorem KOwn.ne_blk {w : World} {base b : Nat} {v : Value} {xs : List K} {c : Array Value} {t : TypeId} {f : Nat × Nat} (h : KOwn w base v xs) (hb : w.heap[b]? = some (.cells c t f)) (ht : t ≠ 30) : v.ownBlock ≠ some b := by
  intro e
  rcases h.2 with ⟨rfl, _⟩ | ⟨g, cap, cur, rfl, _, hgg, _⟩
  · cases e
  · cases e; rw [hb] at hgg; cases hgg; exact ht rfl
/-- the map's turn -/
theorem LimboIs.put {w w' : World} {base g mb : Nat} {rv : Value} {row : List K} {M M' : List (K × Int)} (h : LimboIs w base g mb rv row M) (hm : MapIs K.val (Value.int .i64) w' mb M') (hx : Ext (· = mb) w w') : LimboIs w' base g mb rv row M' :=
  ⟨hx.blk h.blk (fun e => h.map.ne_cells h.blk e.symm), h.own.ext hx (fun b hb e => h.own.ne_map h.map (by rw [hb, e])), hm, h.gb, h.mb⟩

/-- the limbo's block and the key's, as they are -/
def RF (g mb : Nat) (rv : Value) (kb : Nat) (x : K) (u : World) : Prop := u.heap[g]? = some (.cells #[rv, .map (some mb)] 54 (0, 0)) ∧ u.heap[kb]? = some (.cells #[.int .i64 x.k, .int .i64 x.a, .int .i64 x.b, .string x.s] 30 (0, 0))
theorem RF.fam {g mb kb : Nat} {rv : Value} {x : K} : (∀ i : Fam (RF g mb rv kb x), i.w.cell? ⟨g, 0, none⟩ = some rv) ∧ (∀ i : Fam (RF g mb rv kb x), i.w.cell? ⟨g, 1, none⟩ = some (.map (some mb))) ∧
    (∀ i : Fam (RF g mb rv kb x), i.w.cell? ⟨kb, 0, none⟩ = some (.int .i64 x.k)) ∧ (∀ i : Fam (RF g mb rv kb x), i.w.cell? ⟨kb, 1, none⟩ = some (.int .i64 x.a)) ∧
    (∀ i : Fam (RF g mb rv kb x), i.w.cell? ⟨kb, 2, none⟩ = some (.int .i64 x.b)) ∧ (∀ i : Fam (RF g mb rv kb x), i.w.cell? ⟨kb, 3, none⟩ = some (.string x.s)) :=
  ⟨fun i => (cells2 i.h.1).1, fun i => (cells2 i.h.1).2, fun i => (cells4 i.h.2).1, fun i => (cells4 i.h.2).2.1, fun i => (cells4 i.h.2).2.2.1, fun i => (cells4 i.h.2).2.2.2⟩

/-- the row grown by a key and stored back -/
theorem LimboIs.app {w4 w5 : World} {base g mb : Nat} {rv1 rv2 : Value} {row : List K} {M : List (K × Int)} {x : K} (h : LimboIs w4 base g mb rv1 row M) (ho : KOwn w5 base rv2 (row ++ [x])) (hx : Ext (fun b => rv1.ownBlock = some b) w4 w5) :
    LimboIs (w5.setCell ⟨g, 0, none⟩ rv2) base g mb rv2 (row ++ [x]) M ∧ Ext (Foot g mb rv1) w4 (w5.setCell ⟨g, 0, none⟩ rv2) := by
  have hg5 := hx.blk h.blk (fun e => h.own.ne_blk h.blk (by decide) e)
  have hm5 := h.map.ext hx (fun e => h.own.ne_map h.map e)
  refine ⟨⟨by simpa using blk_set hg5 0 rv2, ho.ext (Ext.setCell _ _ _) (fun b hb e => ?_), hm5.ext (Ext.setCell _ _ _) (fun e => hm5.ne_cells hg5 e), h.gb, h.mb⟩, (hx.mono fun b _ hb => ?_).trans (Ext.setCell _ _ _) fun b _ hb => .inl hb⟩
  · simp only at e
    subst e
    exact ho.ne_blk hg5 (by decide) hb
  · exact .inr (.inr hb)

theorem call22 (args : Array Value) (u : World) : (callFunc 22 args).run Try.prog u = .ok (.enter 22 args) u := by kernel_rfl

set_option maxHeartbeats 1000000 in
theorem retire_any (w : World) (base g mb : Nat) (rv : Value) (row : List K) (M : List (K × Int)) (e : Int) (a : Option Addr) (c : Nat) (xs : List K) (b off : Nat) (hL : LimboIs w base g mb rv row M)
    (hr : KR w a xs b off) (hb : 0 < xs.length → ¬ Foot g mb rv b) (hbw : base ≤ w.heap.size) (hn : row.length + xs.length ≤ 50000) :
    Calls Try.prog 8 #[.pointer (some ⟨g, 0, none⟩), .int .i64 e, .slice a xs.length c] w fun en w' => ∃ rv', en = .returned (.tuple #[]) ∧ LimboIs w' base g mb rv' (rets e (row, M) xs).1 (rets e (row, M) xs).2 ∧
      Ext (Foot g mb rv) w w' ∧ (∀ k, rv'.ownBlock = some k → rv.ownBlock = some k ∨ w.heap.size ≤ k) := by
  go_enter Try.func8, Try.ntmps8
  go_wp2
  go_loopw [12] (fun i wr => ∃ (k : Nat) (rv' : Value), k ≤ xs.length ∧ i = .int .i64 k ∧ LimboIs wr base g mb rv' (rets e (row, M) (xs.take k)).1 (rets e (row, M) (xs.take k)).2 ∧
      Ext (Foot g mb rv) w wr ∧ (∀ k, rv'.ownBlock = some k → rv.ownBlock = some k ∨ w.heap.size ≤ k)) (fun i _ => xs.length - (intOf i).toNat)
  case atStart => exact ⟨0, rv, Nat.zero_le _, rfl, hL, Ext.refl _ _, fun k h => .inl h⟩
  case round =>
    obtain ⟨k, rv', hk, rfl, hLr, hx, hown⟩ := hrel
    by_cases hlt : k < xs.length
    · obtain ⟨x, hxk⟩ : ∃ x, xs[k]? = some x := ⟨_, List.getElem?_eq_getElem hlt⟩
      have hrr := hr.ext hx (hb (by omega))
      obtain ⟨c0, c1, c2, c3⟩ := hrr.cell k x hxk
      have ha := hr.addr (by omega)
      subst ha
      go_wp2
      have hxa := Ext.alloc wr (.cells #[.int .i64 x.k, .int .i64 x.a, .int .i64 x.b, .string x.s] 30)
      have hkb := blk_new wr (.cells #[.int .i64 x.k, .int .i64 x.a, .int .i64 x.b, .string x.s] 30)
      have hL1 := hLr.ext0 hxa
      generalize wr.alloc (.cells #[.int .i64 x.k, .int .i64 x.a, .int .i64 x.b, .string x.s] 30) = w1 at *
      obtain ⟨g0, g1⟩ := cells2 hL1.blk
      obtain ⟨k0, k1, k2, k3⟩ := cells4 hkb
      have hl := look_ok hL1.map x
      go_quiet (fail)
      clear hl g0 g1 k0 k1 k2 k3
      have hlr : (rets e (row, M) (xs.take k)).1.length ≤ 50000 := by
        have h1 := rets_len e (row, M) (xs.take k)
        have h2 := List.length_take_le k xs
        simp only at h1
        omega
      have hstep := rets_succ e (row, M) hxk
      generalize hs : rets e (row, M) (xs.take k) = s at *
      have Hst := Lib.hid hstep
      clear hs hstep
      have hx1 : Ext (Foot g mb rv) w w1 := hx.grow hxa
      cases hm : mget s.2 x with
      | none =>
        have Hm := Lib.hid hm
        clear hm
        simp only [Option.getD_none, Option.isSome_none]
        go_wp2
        have hL2 : LimboIs (w1.drewN nq).drew base g mb rv' s.1 s.2 := hL1.ext0 ((Ext.drewN _ _).grow (Ext.drew _))
        have hkb2 := ((Ext.drewN w1 nq).grow (Ext.drew _)).blk0 hkb
        have hx2 : Ext (Foot g mb rv) w (w1.drewN nq).drew := hx1.grow ((Ext.drewN _ _).grow (Ext.drew _))
        refine wp_region_hoist (Still (w1.drewN nq).drew) 6 [0, 1, 2, 3, 4, 5] [6] mixed (by kernel_rfl) rfl ?_
        simp only [List.filterMap_cons, List.filterMap_nil, List.getElem?_cons_zero, List.getElem?_cons_succ]
        generalize (w1.drewN nq).drew = w2 at *
        obtain ⟨g0, g1⟩ := cells2 hL2.blk
        obtain ⟨k0, k1, k2, k3⟩ := cells4 hkb2
        have hF := fun i => Still.fam (w := w2) i
        have hne := Still.ne w2
        repeat (refine wpV_step (fun K hK => ?_); go_simp; refine hK _ ?_; clear hK K)
        refine wpV_nil (wpCh_last ?_)
        go_wp2_with (at_mapUpdate; refine wpList_mapUp rfl _ _ _ rfl kt30 Try.underlying27 hL2.map x e rfl rfl rfl ?_)
        intro w3 hM3 hx3
        have hL3 := hL2.put hM3 hx3
        have hkb3 := hx3.blk hkb2 (fun e => hL2.map.ne_cells hkb2 e.symm)
        have hx3' : Ext (Foot g mb rv) w w3 := hx2.trans hx3 fun i _ h => .inr (.inl h)
        clear g0 g1 k0 k1 k2 k3 hF hne hM3 hL2 hkb2
        go_wp2
        have hL4 := hL3.ext0 (Ext.drew w3)
        have hkb4 := (Ext.drew w3).blk0 hkb3
        have hx4 := hx3'.grow (Ext.drew w3)
        clear hL3 hkb3 hx3' hx3
        obtain ⟨ra, rc, rb, rfl, hrk, hrb⟩ := hL4.own.read
        refine wp_region_hoist (RF g mb (.slice ra (s.1).length rc) wr.heap.size x) 10 [0, 1, 2, 3, 4, 5] [6, 7, 8, 9, 10] mixed (by kernel_rfl) ⟨hL4.blk, hkb4⟩ ?_
        simp only [List.filterMap_cons, List.filterMap_nil, List.getElem?_cons_zero, List.getElem?_cons_succ]
        have hne : Nonempty (Fam (RF g mb (.slice ra (s.1).length rc) wr.heap.size x)) := ⟨⟨_, hL4.blk, hkb4⟩⟩
        obtain ⟨f0, _, f1, f2, f3, f4⟩ := RF.fam (g := g) (mb := mb) (rv := .slice ra (s.1).length rc) (kb := wr.heap.size) (x := x)
        generalize w3.drew = w4 at *
        repeat (refine wpV_step (fun K hK => ?_); go_simp; refine hK _ ?_; clear hK K)
        refine wpV_nil ?_
        clear f0 f1 f2 f3 f4 hne
        refine wpCh_step ?_
        go_wp2
        refine ⟨⟨blk_old hL4.blk _, blk_old hkb4 _⟩, wpCh_step ?_⟩
        have hle : base ≤ w4.heap.size := Nat.le_trans hbw hx4.size
        go_wp2_with (first | (at_builtin; refine app_key rfl _ _ rfl base _ _ x hL4.own rfl rfl (by omega) hle ?_))
        intro v' w5 ho hx5 hv
        have hg5 := hx5.blk hL4.blk (fun h => hL4.own.ne_blk hL4.blk (by decide) h)
        have hk5 := hx5.blk hkb4 (fun h => absurd (hLr.own.lt _ h).2 (Nat.lt_irrefl _))
        go_wp2
        refine ⟨⟨hg5, hk5⟩, wpCh_step ?_⟩
        go_wp2
        refine ⟨⟨hg5, hk5⟩, wpCh_step ?_⟩
        go_wp2
        refine ⟨⟨hg5, hk5⟩, wpCh_last ?_⟩
        obtain ⟨va, vc, vb, rfl, hvk, hvb⟩ := ho.read
        obtain ⟨g0, _⟩ := cells2 hg5
        have gf := frozen_of hg5 0
        go_wp2
        obtain ⟨hL6, hx6⟩ := hL4.app ho hx5
        rw [List.length_append] at *
        have hr1 : ret1 e s x = (s.1 ++ [x], mput s.2 x e) := by unfold ret1; rw [Hm.out]
        refine ⟨⟨k + 1, _, by omega, by simp, by rw [Hst.out, hr1]; exact hL6, hx4.trans hx6 fun i hi hf => ?_, fun j hj => ?_⟩, by simp [intOf]; omega⟩
        · rcases hf with hf | hf | hf
          · exact .inl hf
          · exact .inr (.inl hf)
          · exact .inr (.inr ((hown _ hf).resolve_right (by omega)))
        · rcases hv with hv | hv
          · exact hown _ (hv ▸ hj)
          · right; have := hv _ hj; have := hx4.size; omega
      | some old =>
        have Hm := Lib.hid hm
        clear hm
        simp only [Option.getD_some, Option.isSome_some]
        have hL2 := hL1.ext0 (Ext.drewN w1 nq)
        have hkb2 := (Ext.drewN w1 nq).blk0 hkb
        have hx2 := hx1.grow (Ext.drewN w1 nq)
        generalize w1.drewN nq = w2 at *
        obtain ⟨ra, rc, rb, rfl, hrk, hrb⟩ := hL2.own.read
        have hasks : Asks 22 #[.pointer (some ⟨wr.heap.size, 0, none⟩)] (fun y => decide (y = x)) w2 := fun y u hu => retire1 y x _ u (hu.blk0 hkb2)
        go_wp2_with (go_at_call 21; refine (out_any 22 _ _ w2 g ra rc _ s.1 rb 0 call22 hL2.blk hrk (by omega) hasks).mono ?_)
        rintro en w2' ⟨gv, lv, rfl, ho1, ho2, _, hg3, hx3⟩
        go_wp2
        have hL2' : LimboIs w2' base g mb lv (s.1.filter (fun y => !decide (y = x))) s.2 :=
          ⟨hg3, ho2.mono (Nat.le_trans hbw hx2.size), hL2.map.ext hx3 (fun e => hL2.map.ne_cells hL2.blk e), hL2.gb, hL2.mb⟩
        have hkb2' := hx3.blk hkb2 (fun e => by
          have h1 := hkb2
          rw [e, hL2.blk] at h1
          cases h1)
        have hlkb : lv.ownBlock ≠ some wr.heap.size := fun e => by
          have := (ho2.lt _ e).1
          have := blk_lt hkb2
          omega
        have hln : ∀ j, lv.ownBlock = some j → w.heap.size ≤ j := fun j hj => Nat.le_trans hx2.size (ho2.lt j hj).1
        have hxA : Ext (Foot g mb rv) w w2' := hx2.trans hx3 fun i _ h => .inl h
        have hfl := List.length_filter_le (fun y => !decide (y = x)) s.1
        clear hasks hkb2 hx2 hL1 hx1 hL2 ho1 ho2 hx3 hg3 hkb
        have hL2'' := hL2'.ext0 (Ext.drew w2')
        have hkb2'' := (Ext.drew w2').blk0 hkb2'
        have hxA' := hxA.grow (Ext.drew w2')
        clear hL2' hkb2' hxA
        by_cases hme : old < e
        · have HM := Lib.hid (show max old e = e by omega)
          refine wp_region_hoist (Still w2'.drew) 8 [0, 1, 2, 3, 4, 5, 6, 7] [8] mixed (by kernel_rfl) rfl ?_
          simp only [List.filterMap_cons, List.filterMap_nil, List.getElem?_cons_zero, List.getElem?_cons_succ]
          generalize w2'.drew = w2'' at *
          obtain ⟨g0, g1⟩ := cells2 hL2''.blk
          obtain ⟨k0, k1, k2, k3⟩ := cells4 hkb2''
          have hF := fun i => Still.fam (w := w2'') i
          have hne := Still.ne w2''
          repeat (refine wpV_step (fun K hK => ?_); go_simp; refine hK _ ?_; clear hK K)
          refine wpV_nil (wpCh_last ?_)
          go_wp2_with (at_mapUpdate; refine wpList_mapUp rfl _ _ _ rfl kt30 Try.underlying27 hL2''.map x _ rfl rfl rfl ?_)
          intro w3 hM3 hx3
          have hL3 := hL2''.put hM3 hx3
          have hkb3 := hx3.blk hkb2'' (fun e => hL2''.map.ne_cells hkb2'' e.symm)
          have hx3' : Ext (Foot g mb rv) w w3 := hxA'.trans hx3 fun i _ h => .inr (.inl h)
          clear g0 g1 k0 k1 k2 k3 hF hne hM3 hL2'' hkb2''
          go_wp2
          have hL4 := hL3.ext0 (Ext.drew w3)
          have hkb4 := (Ext.drew w3).blk0 hkb3
          have hx4 := hx3'.grow (Ext.drew w3)
          clear hL3 hkb3 hx3' hx3
          obtain ⟨ra, rc, rb, rfl, hrk, hrb⟩ := hL4.own.read
          refine wp_region_hoist (RF g mb (.slice ra (s.1.filter (fun y => !decide (y = x))).length rc) wr.heap.size x) 10 [0, 1, 2, 3, 4, 5] [6, 7, 8, 9, 10] mixed (by kernel_rfl) ⟨hL4.blk, hkb4⟩ ?_
          simp only [List.filterMap_cons, List.filterMap_nil, List.getElem?_cons_zero, List.getElem?_cons_succ]
          have hne : Nonempty (Fam (RF g mb (.slice ra (s.1.filter (fun y => !decide (y = x))).length rc) wr.heap.size x)) := ⟨⟨_, hL4.blk, hkb4⟩⟩
          obtain ⟨f0, _, f1, f2, f3, f4⟩ := RF.fam (g := g) (mb := mb) (rv := .slice ra (s.1.filter (fun y => !decide (y = x))).length rc) (kb := wr.heap.size) (x := x)
          generalize w3.drew = w4 at *
          repeat (refine wpV_step (fun K hK => ?_); go_simp; refine hK _ ?_; clear hK K)
          refine wpV_nil ?_
          clear f0 f1 f2 f3 f4 hne
          refine wpCh_step ?_
          go_wp2
          refine ⟨⟨blk_old hL4.blk _, blk_old hkb4 _⟩, wpCh_step ?_⟩
          have hle : base ≤ w4.heap.size := Nat.le_trans hbw hx4.size
          go_wp2_with (first | (at_builtin; refine app_key rfl _ _ rfl base _ _ x hL4.own rfl rfl (by omega) hle ?_))
          intro v' w5 ho hx5 hv
          have hg5 := hx5.blk hL4.blk (fun h => hL4.own.ne_blk hL4.blk (by decide) h)
          have hk5 := hx5.blk hkb4 (fun h => hlkb h)
          go_wp2
          refine ⟨⟨hg5, hk5⟩, wpCh_step ?_⟩
          go_wp2
          refine ⟨⟨hg5, hk5⟩, wpCh_step ?_⟩
          go_wp2
          refine ⟨⟨hg5, hk5⟩, wpCh_last ?_⟩
          obtain ⟨va, vc, vb, rfl, hvk, hvb⟩ := ho.read
          obtain ⟨g0, _⟩ := cells2 hg5
          have gf := frozen_of hg5 0
          go_wp2
          obtain ⟨hL6, hx6⟩ := hL4.app ho hx5
          rw [List.length_append] at *
          have hr1 : ret1 e s x = ((s.1.filter (fun y => !decide (y = x))) ++ [x], mput s.2 x e) := by unfold ret1; rw [Hm.out]; simp only [HM.out]
          refine ⟨⟨k + 1, _, by omega, by simp, by rw [Hst.out, hr1]; exact hL6, hx4.trans hx6 fun i hi hf => ?_, fun j hj => ?_⟩, by simp [intOf]; omega⟩
          · rcases hf with hf | hf | hf
            · exact .inl hf
            · exact .inr (.inl hf)
            · have := hln _ hf; omega
          · rcases hv with hv | hv
            · rw [hv] at hj; exact .inr (hln _ hj)
            · right; have := hv _ hj; have := hx4.size; omega
        · have HM := Lib.hid (show max old e = old by omega)
          refine wp_region_hoist (Still w2'.drew) 8 [0, 1, 2, 3, 4, 5, 6, 7] [8] mixed (by kernel_rfl) rfl ?_
          simp only [List.filterMap_cons, List.filterMap_nil, List.getElem?_cons_zero, List.getElem?_cons_succ]
          generalize w2'.drew = w2'' at *
          obtain ⟨g0, g1⟩ := cells2 hL2''.blk
          obtain ⟨k0, k1, k2, k3⟩ := cells4 hkb2''
          have hF := fun i => Still.fam (w := w2'') i
          have hne := Still.ne w2''
          repeat (refine wpV_step (fun K hK => ?_); go_simp; refine hK _ ?_; clear hK K)
          refine wpV_nil (wpCh_last ?_)
          go_wp2_with (at_mapUpdate; refine wpList_mapUp rfl _ _ _ rfl kt30 Try.underlying27 hL2''.map x _ rfl rfl rfl ?_)
          intro w3 hM3 hx3
          have hL3 := hL2''.put hM3 hx3
          have hkb3 := hx3.blk hkb2'' (fun e => hL2''.map.ne_cells hkb2'' e.symm)
          have hx3' : Ext (Foot g mb rv) w w3 := hxA'.trans hx3 fun i _ h => .inr (.inl h)
          clear g0 g1 k0 k1 k2 k3 hF hne hM3 hL2'' hkb2''
          go_wp2
          have hL4 := hL3.ext0 (Ext.drew w3)
          have hkb4 := (Ext.drew w3).blk0 hkb3
          have hx4 := hx3'.grow (Ext.drew w3)
          clear hL3 hkb3 hx3' hx3
          obtain ⟨ra, rc, rb, rfl, hrk, hrb⟩ := hL4.own.read
          refine wp_region_hoist (RF g mb (.slice ra (s.1.filter (fun y => !decide (y = x))).length rc) wr.heap.size x) 10 [0, 1, 2, 3, 4, 5] [6, 7, 8, 9, 10] mixed (by kernel_rfl) ⟨hL4.blk, hkb4⟩ ?_
          simp only [List.filterMap_cons, List.filterMap_nil, List.getElem?_cons_zero, List.getElem?_cons_succ]
          have hne : Nonempty (Fam (RF g mb (.slice ra (s.1.filter (fun y => !decide (y = x))).length rc) wr.heap.size x)) := ⟨⟨_, hL4.blk, hkb4⟩⟩
          obtain ⟨f0, _, f1, f2, f3, f4⟩ := RF.fam (g := g) (mb := mb) (rv := .slice ra (s.1.filter (fun y => !decide (y = x))).length rc) (kb := wr.heap.size) (x := x)
          generalize w3.drew = w4 at *
          repeat (refine wpV_step (fun K hK => ?_); go_simp; refine hK _ ?_; clear hK K)
          refine wpV_nil ?_
          clear f0 f1 f2 f3 f4 hne
          refine wpCh_step ?_
          go_wp2
          refine ⟨⟨blk_old hL4.blk _, blk_old hkb4 _⟩, wpCh_step ?_⟩
          have hle : base ≤ w4.heap.size := Nat.le_trans hbw hx4.size
          go_wp2_with (first | (at_builtin; refine app_key rfl _ _ rfl base _ _ x hL4.own rfl rfl (by omega) hle ?_))
          intro v' w5 ho hx5 hv
          have hg5 := hx5.blk hL4.blk (fun h => hL4.own.ne_blk hL4.blk (by decide) h)
          have hk5 := hx5.blk hkb4 (fun h => hlkb h)
          go_wp2
          refine ⟨⟨hg5, hk5⟩, wpCh_step ?_⟩
          go_wp2
          refine ⟨⟨hg5, hk5⟩, wpCh_step ?_⟩
          go_wp2
          refine ⟨⟨hg5, hk5⟩, wpCh_last ?_⟩
          obtain ⟨va, vc, vb, rfl, hvk, hvb⟩ := ho.read
          obtain ⟨g0, _⟩ := cells2 hg5
          have gf := frozen_of hg5 0
          go_wp2
          obtain ⟨hL6, hx6⟩ := hL4.app ho hx5
          rw [List.length_append] at *
          have hr1 : ret1 e s x = ((s.1.filter (fun y => !decide (y = x))) ++ [x], mput s.2 x old) := by unfold ret1; rw [Hm.out]; simp only [HM.out]
          refine ⟨⟨k + 1, _, by omega, by simp, by rw [Hst.out, hr1]; exact hL6, hx4.trans hx6 fun i hi hf => ?_, fun j hj => ?_⟩, by simp [intOf]; omega⟩
          · rcases hf with hf | hf | hf
            · exact .inl hf
            · exact .inr (.inl hf)
            · have := hln _ hf; omega
          · rcases hv with hv | hv
            · rw [hv] at hj; exact .inr (hln _ hj)
            · right; have := hv _ hj; have := hx4.size; omega
    · have hkn : k = xs.length := by omega
      subst hkn
      go_wp2
      go_end0
      rw [List.take_length] at hLr
      exact ⟨rv', rfl, hLr, hx, hown⟩

end Go.Proofs.Ytfjlclloddbkmaa
