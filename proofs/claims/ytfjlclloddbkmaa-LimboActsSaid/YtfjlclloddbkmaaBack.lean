/- The walks of slices.Index and slices.Contains over keys, and of Back. -/
import Derived.Test.YtfjlclloddbkmaaAwake
namespace Go.Proofs.Ytfjlclloddbkmaa
open Go.RowKit Go.Cw

set_option maxHeartbeats 1000000 in
theorem index_any (w : World) (a : Option Addr) (xs : List K) (x : K) (c b off : Nat) (h : KR w a xs b off) (hm1 : xs.length ≤ 1000000) :
    Calls Try.prog 30 #[.slice a xs.length c, x.val] w fun e w' => ∃ r : Int, e = .returned (.int .i64 r) ∧ decide (0 ≤ r) = decide (x ∈ xs) ∧ Ext none_ w w' := by
  have hx1 := Ext.alloc w (.cells #[.int .i64 x.k, .int .i64 x.a, .int .i64 x.b, .string x.s] 30)
  have hb1 := blk_new w (.cells #[.int .i64 x.k, .int .i64 x.a, .int .i64 x.b, .string x.s] 30)
  unfold K.val
  go_enter Try.func30, Try.ntmps30
  go_wp2
  generalize w.alloc (.cells #[.int .i64 x.k, .int .i64 x.a, .int .i64 x.b, .string x.s] 30) = w1 at *
  have h1 := h.ext0 hx1
  go_loopw [8] (fun i wr => ∃ k : Nat, k ≤ xs.length ∧ i = .int .i64 k ∧ Ext none_ w1 wr ∧ ∀ j, j < k → ∀ y, xs[j]? = some y → ¬ x = y) (fun i _ => xs.length - (intOf i).toNat)
  case atStart => exact ⟨0, Nat.zero_le _, rfl, Ext.refl _ _, fun j hj => absurd hj (by omega)⟩
  case round =>
    obtain ⟨k, hk, rfl, hx, hall⟩ := hrel
    by_cases hlt : k < xs.length
    · obtain ⟨y, hyk⟩ : ∃ y, xs[k]? = some y := ⟨_, List.getElem?_eq_getElem hlt⟩
      obtain ⟨d0, d1, d2, d3⟩ := (h1.ext0 hx).cell k y hyk
      obtain ⟨k0, k1, k2, k3⟩ := cells4 (hx.blk0 hb1)
      have ha1 := h.addr (by omega)
      subst ha1
      have hne := key_eql x y
      unfold K.val at hne
      have Hall := Lib.hid hall
      have Hb1 := Lib.hid hb1
      clear hall hb1
      go_wp2
      go_quiet (fail)
      clear hne
      have hx2 := hx.grow (Ext.drewN wr nq)
      by_cases hxy : x = y
      · have Hxy := Lib.hid hxy
        simp only [hxy, decide_true]
        clear hxy
        go_wp2
        go_ret
        refine ⟨_, rfl, ?_, hx1.grow hx2⟩
        have hmem : x ∈ xs := by rw [Hxy.out]; exact List.mem_of_getElem? hyk
        rw [decide_eq_true hmem]
        exact decide_eq_true (by omega)
      · have Hxy := Lib.hid hxy
        simp only [hxy, decide_false]
        clear hxy
        go_wp2
        refine ⟨⟨k + 1, by omega, by simp, hx2, fun j hj y' hy' => ?_⟩, by simp [intOf]; omega⟩
        by_cases hjk : j = k
        · subst hjk; rw [hyk] at hy'; cases hy'; exact Hxy.out
        · exact Hall.out j (by omega) y' hy'
    · have hkn : k = xs.length := by omega
      subst hkn
      have Hall := Lib.hid hall
      clear hall
      go_wp2
      go_ret
      refine ⟨_, rfl, ?_, hx1.grow hx⟩
      have hnm : ¬ x ∈ xs := fun hm => by
        obtain ⟨j, hj⟩ := List.getElem?_of_mem hm
        exact Hall.out j (List.getElem?_eq_some_iff.1 hj).1 x hj rfl
      rw [decide_eq_false hnm]; rfl

set_option maxHeartbeats 1000000 in
theorem contains_any (w : World) (a : Option Addr) (xs : List K) (x : K) (c b off : Nat) (h : KR w a xs b off) (hm1 : xs.length ≤ 1000000) :
    Calls Try.prog 25 #[.slice a xs.length c, x.val] w fun e w' => e = .returned (.bool (decide (x ∈ xs))) ∧ Ext none_ w w' := by
  have hx1 := Ext.alloc w (.cells #[.int .i64 x.k, .int .i64 x.a, .int .i64 x.b, .string x.s] 30)
  obtain ⟨k0, k1, k2, k3⟩ := cells4 (blk_new w (.cells #[.int .i64 x.k, .int .i64 x.a, .int .i64 x.b, .string x.s] 30))
  unfold K.val
  go_enter Try.func25, Try.ntmps25
  go_wp2_with fail
  generalize w.alloc (.cells #[.int .i64 x.k, .int .i64 x.a, .int .i64 x.b, .string x.s] 30) = w1 at *
  refine (index_any w1 a xs x c b off (h.ext0 hx1) hm1).mono ?_
  rintro e w2 ⟨r, rfl, hr, hx2⟩
  have Hr := Lib.hid hr
  clear hr
  go_wp2
  go_ret
  refine ⟨?_, hx1.grow hx2⟩
  rw [← Hr.out]; rfl

set_option maxHeartbeats 1000000 in
theorem back1 (w : World) (a : Option Addr) (xs : List K) (x : K) (c b off b1 : Nat) (h : KR w a xs b off) (hm1 : xs.length ≤ 1000000) (hb : w.heap[b1]? = some (.cells #[.slice a xs.length c] 22 (0, 0))) :
    Calls Try.prog 24 #[x.val, .pointer (some ⟨b1, 0, none⟩)] w fun e w' => e = .returned (.bool (decide (x ∈ xs))) ∧ Ext none_ w w' := by
  have hx1 := Ext.alloc w (.cells #[.int .i64 x.k, .int .i64 x.a, .int .i64 x.b, .string x.s] 30)
  obtain ⟨k0, k1, k2, k3⟩ := cells4 (blk_new w (.cells #[.int .i64 x.k, .int .i64 x.a, .int .i64 x.b, .string x.s] 30))
  have e1 := cells1 (hx1.blk0 hb)
  have Hb := Lib.hid hb
  clear hb
  unfold K.val
  go_enter Try.func24, Try.ntmps24
  go_wp2_with fail
  generalize w.alloc (.cells #[.int .i64 x.k, .int .i64 x.a, .int .i64 x.b, .string x.s] 30) = w1 at *
  refine (contains_any w1 a xs x c b off (h.ext0 hx1) hm1).mono ?_
  rintro e w2 ⟨rfl, hx2⟩
  go_wp2
  go_ret
  exact ⟨rfl, hx1.grow hx2⟩

set_option maxHeartbeats 1000000 in
theorem back_any (w : World) (base g mb : Nat) (rv : Value) (row : List K) (M : List (K × Int)) (xa : Option Addr) (xs : List K) (xc xb xo : Nat) (hX : KR w xa xs xb xo) (hxn : xs.length ≤ 1000000) (hL : LimboIs w base g mb rv row M) (hbw : base ≤ w.heap.size) (hn : row.length ≤ 100000) :
    Calls Try.prog 12 #[.pointer (some ⟨g, 0, none⟩), .slice xa xs.length xc] w fun en w' => ∃ rv', en = .returned (.int .i64 (row.filter (fun x => decide (x ∈ xs))).length) ∧ LimboIs w' base g mb rv' (row.filter (fun x => !decide (x ∈ xs))) (dels M (row.filter (fun x => decide (x ∈ xs)))) ∧
      Ext (Foot g mb rv) w w' ∧ (∀ k, rv'.ownBlock = some k → w.heap.size ≤ k) := by
  have hx1 : Ext none_ w (w.alloc (.cells #[.slice xa xs.length xc] 22)) := Ext.alloc w _
  have hb1 : (w.alloc (.cells #[.slice xa xs.length xc] 22)).heap[w.heap.size]? = some (.cells #[.slice xa xs.length xc] 22 (0, 0)) := blk_new w _
  go_enter Try.func12, Try.ntmps12
  go_wp2_with fail
  generalize w.alloc (.cells #[.slice xa xs.length xc] 22) = w1 at *
  have hL1 := hL.ext0 hx1
  have hasks : Asks 24 #[.pointer (some ⟨w.heap.size, 0, none⟩)] (fun x => decide (x ∈ xs)) w1 := fun y u hu =>
    back1 u xa xs y xc xb xo _ ((hX.ext0 hx1).ext0 hu) hxn (hu.blk0 hb1)
  obtain ⟨ra, rc, rb, rfl, hrk, hrb⟩ := hL1.own.read
  refine (out_any 24 _ _ w1 g ra rc _ row rb 0 call24 hL1.blk hrk hn hasks).mono ?_
  rintro en w2 ⟨gv, lv, rfl, ho1, ho2, hne, hg2, hx2⟩
  have hL2 : LimboIs w2 base g mb lv (row.filter (fun x => !decide (x ∈ xs))) M :=
    ⟨hg2, ho2.mono (Nat.le_trans hbw hx1.size), hL1.map.ext hx2 (fun e => hL1.map.ne_cells hL1.blk e), hL1.gb, hL1.mb⟩
  have hxx : Ext (Foot g mb (.slice ra row.length rc)) w w2 := ((hx1.mono fun _ _ h => h.elim)).trans hx2 fun i _ h => .inl h
  have hlv : ∀ k, lv.ownBlock = some k → w.heap.size ≤ k := fun k hk => Nat.le_trans hx1.size (ho2.lt k hk).1
  have hfl := List.length_filter_le (fun x => decide (x ∈ xs)) row
  generalize hgs : row.filter (fun x => decide (x ∈ xs)) = gs at *
  generalize hls : row.filter (fun x => !decide (x ∈ xs)) = ls at *
  have ho1' := ho1.mono hx1.size
  obtain ⟨ga, gc, gb, rfl, hgk, hgb⟩ := ho1'.read
  have Hgs := Lib.hid hgs
  have Hls := Lib.hid hls
  clear hls hgs hasks hb1 ho1 ho2 hL1 hrk hrb hg2
  go_wp2
  go_loopw [13] (fun i wr => ∃ (k : Nat), k ≤ gs.length ∧ i = .int .i64 k ∧ LimboIs wr base g mb lv ls (dels M (gs.take k)) ∧ Ext (· = mb) w2 wr) (fun i _ => gs.length - (intOf i).toNat)
  case atStart => exact ⟨0, Nat.zero_le _, rfl, hL2, Ext.refl _ _⟩
  case round =>
    obtain ⟨k, hk, rfl, hLr, hx⟩ := hrel
    by_cases hlt : k < gs.length
    · obtain ⟨x, hxk⟩ : ∃ x, gs[k]? = some x := ⟨_, List.getElem?_eq_getElem hlt⟩
      have hgr := hgk.ext hx (fun e => by
        rcases hgb with h | ⟨_, h⟩
        · exact ho1'.ne_map hL2.map (by rw [h, e])
        · rw [h] at hlt; simp at hlt)
      obtain ⟨c0, c1, c2, c3⟩ := hgr.cell k x hxk
      simp only [Nat.zero_add] at c0 c1 c2 c3
      have ha := hgk.addr (by omega)
      subst ha
      have hds := dels_succ M hxk
      have Hds := Lib.hid hds
      clear hds
      go_wp2
      have hxa := (Ext.alloc wr (.cells #[.int .i64 x.k, .int .i64 x.a, .int .i64 x.b, .string x.s] 30)).grow (Ext.drew _)
      have hkb := (Ext.drew _).blk0 (blk_new wr (.cells #[.int .i64 x.k, .int .i64 x.a, .int .i64 x.b, .string x.s] 30))
      have hL3 := hLr.ext0 hxa
      have hx3 := hx.grow hxa
      refine wp_region_hoist (Still (wr.alloc (.cells #[.int .i64 x.k, .int .i64 x.a, .int .i64 x.b, .string x.s] 30)).drew) 5 [0, 1, 2, 3, 4] [5] mixed (by kernel_rfl) rfl ?_
      simp only [List.filterMap_cons, List.filterMap_nil, List.getElem?_cons_zero, List.getElem?_cons_succ]
      generalize (wr.alloc (.cells #[.int .i64 x.k, .int .i64 x.a, .int .i64 x.b, .string x.s] 30)).drew = w3 at *
      obtain ⟨g0, g1⟩ := cells2 hL3.blk
      obtain ⟨k0, k1, k2, k3⟩ := cells4 hkb
      have hF := fun i => Still.fam (w := w3) i
      have hnn := Still.ne w3
      clear hkb
      repeat (refine wpV_step (fun K hK => ?_); go_simp; refine hK _ ?_; clear hK K)
      refine wpV_nil (wpCh_last ?_)
      clear hF hnn
      refine wpList_mapDel rfl _ _ rfl kt30 Try.underlying27 hL3.map x rfl rfl ?_
      intro w4 hM4 hx4
      have hL4 := hL3.put hM4 hx4
      have hx5 := hx3.trans hx4 fun i _ h => h
      clear k0 k1 k2 k3 g0 g1
      go_wp2
      refine ⟨⟨k + 1, by omega, by simp, by rw [Hds.out]; exact hL4, hx5⟩, by simp [intOf]; omega⟩
    · have hkn : k = gs.length := by omega
      subst hkn
      rw [List.take_length] at hLr
      go_wp2
      go_ret
      refine ⟨lv, by rw [Hgs.out]; rfl, by rw [Hls.out, Hgs.out]; exact hLr, hxx.trans hx fun i _ h => .inr (.inl h), hlv⟩

end Go.Proofs.Ytfjlclloddbkmaa
