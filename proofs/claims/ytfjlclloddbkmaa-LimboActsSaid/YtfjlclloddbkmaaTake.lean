/- The walk of Take: what it hands out and what it leaves. -/
import Derived.Test.YtfjlclloddbkmaaRetire
namespace Go.Proofs.Ytfjlclloddbkmaa
open Go.RowKit Go.Cw

theorem call23 (args : Array Value) (u : World) : (callFunc 23 args).run Try.prog u = .ok (.enter 23 args) u := by kernel_rfl
theorem call24 (args : Array Value) (u : World) : (callFunc 24 args).run Try.prog u = .ok (.enter 24 args) u := by kernel_rfl

theorem cells1 {w : World} {b : Nat} {c0 : Value} {e : TypeId} {f : Nat × Nat} (hb : w.heap[b]? = some (.cells #[c0] e f)) : w.cell? ⟨b, 0, none⟩ = some c0 := by
  rw [cell_of hb]; rfl

set_option maxHeartbeats 400000 in
theorem take1 (w : World) (base g mb : Nat) (rv : Value) (row : List K) (M : List (K × Int)) (x : K) (b1 b2 : Nat) (least : Int) (hL : LimboIs w base g mb rv row M)
    (h1 : w.heap[b1]? = some (.cells #[.pointer (some ⟨g, 0, none⟩)] 25 (0, 0))) (h2 : w.heap[b2]? = some (.cells #[.int .i64 least] 3 (0, 0))) :
    Calls Try.prog 23 #[x.val, .pointer (some ⟨b1, 0, none⟩), .pointer (some ⟨b2, 0, none⟩)] w fun e w' => e = .returned (.bool (decide ((mget M x).getD 0 < least))) ∧ Ext none_ w w' := by
  have hx := Ext.alloc w (.cells #[.int .i64 x.k, .int .i64 x.a, .int .i64 x.b, .string x.s] 30)
  have hL1 := hL.ext0 hx
  obtain ⟨g0, g1⟩ := cells2 hL1.blk
  have e1 := cells1 (hx.blk0 h1)
  have e2 := cells1 (hx.blk0 h2)
  obtain ⟨k0, k1, k2, k3⟩ := cells4 (blk_new w (.cells #[.int .i64 x.k, .int .i64 x.a, .int .i64 x.b, .string x.s] 30))
  have hl := look_no hL1.map x
  clear h1 h2
  unfold K.val
  go_enter Try.func23, Try.ntmps23
  go_wp2
  generalize w.alloc (.cells #[.int .i64 x.k, .int .i64 x.a, .int .i64 x.b, .string x.s] 30) = w1 at *
  go_quiet (fail)
  go_wp2
  go_ret
  exact ⟨rfl, hx.grow (Ext.drewN _ _)⟩

/-- the map without these keys -/
noncomputable def dels (M : List (K × Int)) (xs : List K) : List (K × Int) := xs.foldl mdel M
theorem dels_succ (M : List (K × Int)) {xs : List K} {k : Nat} {x : K} (h : xs[k]? = some x) : dels M (xs.take (k + 1)) = mdel (dels M (xs.take k)) x := by
  obtain ⟨hl, rfl⟩ := List.getElem?_eq_some_iff.1 h
  unfold dels
  rw [List.take_succ_eq_append_getElem hl, List.foldl_append]; rfl

set_option maxHeartbeats 1000000 in
theorem take_any (w : World) (base g mb : Nat) (rv : Value) (row : List K) (M : List (K × Int)) (least : Int) (hL : LimboIs w base g mb rv row M) (hbw : base ≤ w.heap.size) (hn : row.length ≤ 100000) :
    Calls Try.prog 11 #[.pointer (some ⟨g, 0, none⟩), .int .i64 least] w fun en w' => ∃ gv rv', en = .returned gv ∧ LimboIs w' base g mb rv' (row.filter (fun x => !decide ((mget M x).getD 0 < least))) (dels M (row.filter (fun x => decide ((mget M x).getD 0 < least)))) ∧
      KOwn w' w.heap.size gv (row.filter (fun x => decide ((mget M x).getD 0 < least))) ∧ (∀ b, gv.ownBlock = some b → rv'.ownBlock ≠ some b) ∧
      Ext (Foot g mb rv) w w' ∧ (∀ k, rv'.ownBlock = some k → w.heap.size ≤ k) := by
  have hx1 : Ext none_ w ((w.alloc (.cells #[.pointer (some ⟨g, 0, none⟩)] 25)).alloc (.cells #[.int .i64 least] 3)) := (Ext.alloc w _).grow (Ext.alloc _ _)
  have hb1 : ((w.alloc (.cells #[.pointer (some ⟨g, 0, none⟩)] 25)).alloc (.cells #[.int .i64 least] 3)).heap[w.heap.size]? = some (.cells #[.pointer (some ⟨g, 0, none⟩)] 25 (0, 0)) := blk_old (blk_new w _) _
  have hb2 : ((w.alloc (.cells #[.pointer (some ⟨g, 0, none⟩)] 25)).alloc (.cells #[.int .i64 least] 3)).heap[w.heap.size + 1]? = some (.cells #[.int .i64 least] 3 (0, 0)) := by
    have := blk_new (w.alloc (.cells #[.pointer (some ⟨g, 0, none⟩)] 25)) (.cells #[.int .i64 least] 3)
    simpa using this
  go_enter Try.func11, Try.ntmps11
  go_wp2_with fail
  generalize (w.alloc (.cells #[.pointer (some ⟨g, 0, none⟩)] 25)).alloc (.cells #[.int .i64 least] 3) = w1 at *
  have hL1 := hL.ext0 hx1
  have hasks : Asks 23 #[.pointer (some ⟨w.heap.size, 0, none⟩), .pointer (some ⟨w.heap.size + 1, 0, none⟩)] (fun x => decide ((mget M x).getD 0 < least)) w1 := fun y u hu =>
    take1 u base g mb rv row M y _ _ least (hL1.ext0 hu) (hu.blk0 hb1) (hu.blk0 hb2)
  obtain ⟨ra, rc, rb, rfl, hrk, hrb⟩ := hL1.own.read
  refine (out_any 23 _ _ w1 g ra rc _ row rb 0 call23 hL1.blk hrk hn hasks).mono ?_
  rintro en w2 ⟨gv, lv, rfl, ho1, ho2, hne, hg2, hx2⟩
  have hL2 : LimboIs w2 base g mb lv (row.filter (fun x => !decide ((mget M x).getD 0 < least))) M :=
    ⟨hg2, ho2.mono (Nat.le_trans hbw hx1.size), hL1.map.ext hx2 (fun e => hL1.map.ne_cells hL1.blk e), hL1.gb, hL1.mb⟩
  have hb2' := hx2.blk hb1 (fun e => by rw [e, hL1.blk] at hb1; cases hb1)
  have hxx : Ext (Foot g mb (.slice ra row.length rc)) w w2 := ((hx1.mono fun _ _ h => h.elim)).trans hx2 fun i _ h => .inl h
  have hlv : ∀ k, lv.ownBlock = some k → w.heap.size ≤ k := fun k hk => Nat.le_trans hx1.size (ho2.lt k hk).1
  have hfl := List.length_filter_le (fun x => decide ((mget M x).getD 0 < least)) row
  generalize hgs : row.filter (fun x => decide ((mget M x).getD 0 < least)) = gs at *
  generalize hls : row.filter (fun x => !decide ((mget M x).getD 0 < least)) = ls at *
  have ho1' := ho1.mono hx1.size
  obtain ⟨ga, gc, gb, rfl, hgk, hgb⟩ := ho1'.read
  have Hgs := Lib.hid hgs
  have Hls := Lib.hid hls
  clear hls hgs hasks hb1 hb2 ho1 ho2 hL1 hrk hrb hg2
  go_wp2
  go_loopw [13] (fun i wr => ∃ (k : Nat), k ≤ gs.length ∧ i = .int .i64 k ∧ LimboIs wr base g mb lv ls (dels M (gs.take k)) ∧ Ext (· = mb) w2 wr) (fun i _ => gs.length - (intOf i).toNat)
  case atStart => exact ⟨0, Nat.zero_le _, rfl, hL2, Ext.refl _ _⟩
  case round =>
    obtain ⟨k, hk, rfl, hLr, hx⟩ := hrel
    by_cases hlt : k < gs.length
    · obtain ⟨x, hxk⟩ : ∃ x, gs[k]? = some x := ⟨_, List.getElem?_eq_getElem hlt⟩
      have hgr := hgk.ext hx (fun e => by
        rcases hgb with h | ⟨_, h⟩
        · exact ho1'.ne_map hL2.map (by rw [h, e])
        · rw [h] at hlt; simp at hlt)
      obtain ⟨c0, c1, c2, c3⟩ := hgr.cell k x hxk
      simp only [Nat.zero_add] at c0 c1 c2 c3
      have ha := hgk.addr (by omega)
      subst ha
      have hds := dels_succ M hxk
      have Hds := Lib.hid hds
      clear hds
      go_wp2
      have hxa := (Ext.alloc wr (.cells #[.int .i64 x.k, .int .i64 x.a, .int .i64 x.b, .string x.s] 30)).grow (Ext.drew _)
      have hkb := (Ext.drew _).blk0 (blk_new wr (.cells #[.int .i64 x.k, .int .i64 x.a, .int .i64 x.b, .string x.s] 30))
      have hL3 := hLr.ext0 hxa
      have hb3 := hxa.blk0 (hx.blk hb2' (fun e => hL2.map.ne_cells hb2' e.symm))
      have hx3 := hx.grow hxa
      refine wp_region_hoist (Still (wr.alloc (.cells #[.int .i64 x.k, .int .i64 x.a, .int .i64 x.b, .string x.s] 30)).drew) 5 [0, 1, 2, 3, 4] [5] mixed (by kernel_rfl) rfl ?_
      simp only [List.filterMap_cons, List.filterMap_nil, List.getElem?_cons_zero, List.getElem?_cons_succ]
      generalize (wr.alloc (.cells #[.int .i64 x.k, .int .i64 x.a, .int .i64 x.b, .string x.s] 30)).drew = w3 at *
      obtain ⟨g0, g1⟩ := cells2 hL3.blk
      obtain ⟨k0, k1, k2, k3⟩ := cells4 hkb
      have e1 := cells1 hb3
      have hF := fun i => Still.fam (w := w3) i
      have hnn := Still.ne w3
      clear hkb hb3
      repeat (refine wpV_step (fun K hK => ?_); go_simp; refine hK _ ?_; clear hK K)
      refine wpV_nil (wpCh_last ?_)
      clear hF hnn
      refine wpList_mapDel rfl _ _ rfl kt30 Try.underlying27 hL3.map x rfl rfl ?_
      intro w4 hM4 hx4
      have hL4 := hL3.put hM4 hx4
      have hx5 := hx3.trans hx4 fun i _ h => h
      clear e1 k0 k1 k2 k3 g0 g1
      go_wp2
      refine ⟨⟨k + 1, by omega, by simp, by rw [Hds.out]; exact hL4, hx5⟩, by simp [intOf]; omega⟩
    · have hkn : k = gs.length := by omega
      subst hkn
      rw [List.take_length] at hLr
      go_wp2
      go_ret
      refine ⟨_, lv, rfl, by rw [Hls.out, Hgs.out]; exact hLr, by rw [Hgs.out]; exact ho1'.ext hx (fun b hb e => ho1'.ne_map hL2.map (by rw [hb, e])), hne, hxx.trans hx fun i _ h => .inr (.inl h), hlv⟩

end Go.Proofs.Ytfjlclloddbkmaa
