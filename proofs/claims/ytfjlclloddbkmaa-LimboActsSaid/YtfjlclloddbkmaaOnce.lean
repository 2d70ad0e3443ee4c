/- The walk of LimboOnce where both rows hold at most 30. -/
import Derived.Test.YtfjlclloddbkmaaOncePl2
namespace Go.Proofs.Ytfjlclloddbkmaa
open Go.RowKit Go.Cw

theorem tmod100 (z : Int) : -100 < z.tmod 100 ∧ z.tmod 100 < 100 := by
  have h1 := Int.tmod_lt_of_pos z (show (0 : Int) < 100 by decide)
  have h2 := Int.tmod_lt_of_pos (-z) (show (0 : Int) < 100 by decide)
  rw [Int.neg_tmod] at h2
  omega

/-- A slice's address reads as these numbers. -/
structure IR (w : World) (a : Option Addr) (zs : List Int) (b off : Nat) : Prop where
  addr : 0 < zs.length → a = some ⟨b, off, none⟩
  cell : ∀ (j : Nat) (z : Int), zs[j]? = some z → w.cell? ⟨b, off + j, none⟩ = some (.int .i64 z)
theorem IR.ext0 {w w' : World} {a : Option Addr} {zs : List Int} {b off : Nat} (h : IR w a zs b off) (hx : Ext none_ w w') : IR w' a zs b off := by
  refine ⟨h.addr, fun j z hj => ?_⟩
  have hc := h.cell j z hj
  have hlt : b < w.heap.size := World.block_lt_of_cell? w ⟨b, off + j, none⟩ hc
  exact (World.cell?_of_block (a := ⟨b, _, none⟩) (hx.block b hlt id)).trans hc

theorem MapIs.foot {w w' : World} {base g mb lb : Nat} {rv : Value} {row : List K} {M L : List (K × Int)} (h : MapIs K.val (Value.int .i64) w lb L) (hL : LimboIs w base g mb rv row M) (hne : lb ≠ mb) (hx : Ext (Foot g mb rv) w w') :
    MapIs K.val (Value.int .i64) w' lb L := h.ext hx fun hf => by
  rcases hf with rfl | rfl | hf
  · exact h.ne_cells hL.blk rfl
  · exact hne rfl
  · exact hL.own.ne_map h hf

theorem MapIs.ext0' {w w' : World} {lb : Nat} {L : List (K × Int)} (h : MapIs K.val (Value.int .i64) w lb L) (hx : Ext none_ w w') : MapIs K.val (Value.int .i64) w' lb L := h.ext hx id
/-- what the counting statement's reads find, before its entry is made and after -/
structure Ent (gb : Nat) (x : K) (b o : Nat) (u : World) : Prop where
  look : (Instr.lookup 27 (.map (some gb)) (.agg #[.int .i64 x.k, .int .i64 x.a, .int .i64 x.b, .string x.s]) false).run Try.prog u = .ok (.int .i64 0) u
  c0 : u.cell? ⟨b, o, none⟩ = some (.int .i64 x.k)
  c1 : u.cell? ⟨b, o + 1, none⟩ = some (.int .i64 x.a)
  c2 : u.cell? ⟨b, o + 2, none⟩ = some (.int .i64 x.b)
  c3 : u.cell? ⟨b, o + 3, none⟩ = some (.string x.s)
theorem Ent.of {w : World} {gb : Nat} {x : K} {M : List (K × Int)} {a : Option Addr} {xs : List K} {b k : Nat} (h : MapIs K.val (Value.int .i64) w gb M) (hg : (mget M x).getD 0 = 0) (hr : KR w a xs b 0) (hx : xs[k]? = some x) : Ent gb x b (k * 4) w := by
  have hl := look_no h x 0
  rw [hg] at hl
  obtain ⟨d0, d1, d2, d3⟩ := hr.cell k x hx
  simp only [Nat.zero_add] at d0 d1 d2 d3
  exact ⟨hl, d0, d1, d2, d3⟩

set_option maxHeartbeats 4000000 in
set_option maxRecDepth 100000 in
theorem once_any (w : World) (a1 a2 : Option Addr) (ks : List K) (zs : List Int) (b1 o1 b2 o2 c1 c2 : Nat) (hk : KR w a1 ks b1 o1) (hz : IR w a2 zs b2 o2) (hn1 : ks.length ≤ 30) (hn2 : zs.length ≤ 30) :
    Calls Try.prog 3 #[.slice a1 ks.length c1, .slice a2 zs.length c2] w fun e w' => e = .returned (.bool true) ∧ Ext none_ w w' := by
  have hmm := @run_makeMap Try.prog
  go_enter Try.func3, Try.ntmps3
  go_wp2_with fail
  refine (awake_any w).mono ?_
  rintro e w1 ⟨rfl, hx1⟩
  have hn1' : decide ((30 : Int) < (ks.length : Int)) = false := by simp; omega
  have hn2' : decide ((30 : Int) < (zs.length : Int)) = false := by simp; omega
  go_wp2_with fail
  refine (new_any w1 w.heap.size hx1.size).mono ?_
  rintro e w2 ⟨g, mb, rfl, hL2, hx2, hg, hmb⟩
  have hx2' := hx1.grow hx2
  go_wp2_with fail
  have hM3 : MapIs K.val (Value.int .i64) (w2.alloc (.map #[] 0)) w2.heap.size ([] : List (K × Int)) := MapIs.made w2
  have hL3 := hL2.ext0 (Ext.alloc w2 (.map #[] 0))
  have hx3 := hx2'.grow (Ext.alloc w2 (.map #[] 0))
  have hlm : w2.heap.size ≠ mb := fun e => by have := hL2.map.lt; omega
  have hlw : w.heap.size ≤ w2.heap.size := hx2'.size
  generalize hlb : w2.heap.size = lb at *
  generalize w2.alloc (.map #[] 0) = w3 at *
  clear hmm hn1' hn2' hx1 hx2 hx2' hL2 hlb hg hmb
  go_loopw [7] (fun i wr => ∃ (k : Nat) (rv : Value), k ≤ ks.length ∧ k ≤ zs.length ∧ i = .int .i64 k ∧ LimboIs wr w.heap.size g mb rv (st ks zs k).1 (st ks zs k).2 ∧
      MapIs K.val (Value.int .i64) wr lb (st ks zs k).2 ∧ Ext none_ w wr) (fun i _ => ks.length - (intOf i).toNat)
  case atStart => exact ⟨0, _, Nat.zero_le _, Nat.zero_le _, rfl, hL3, hM3, hx3⟩
  case round =>
    obtain ⟨k, rv, hk1, hk2, rfl, hLr, hMr, hx⟩ := hrel
    by_cases hlt1 : k < ks.length
    · by_cases hlt2 : k < zs.length
      · obtain ⟨x, hxk⟩ : ∃ x, ks[k]? = some x := ⟨_, List.getElem?_eq_getElem hlt1⟩
        obtain ⟨z, hzk⟩ : ∃ z, zs[k]? = some z := ⟨_, List.getElem?_eq_getElem hlt2⟩
        have hst := st_succ hxk hzk
        have hinv := st_inv (ks := ks) (zs := zs) k hk1 hk2
        have hlen := st_len (ks := ks) (zs := zs) k hk1 hk2
        generalize hs : st ks zs k = s at *
        have Hst := Lib.hid hst
        have Hinv := Lib.hid hinv
        have hz0 := (hz.ext0 hx).cell k z hzk
        obtain ⟨d0, d1, d2, d3⟩ := (hk.ext0 hx).cell k x hxk
        have ha1 := hk.addr (by omega)
        have ha2 := hz.addr (by omega)
        subst ha1 ha2
        obtain ⟨hb1, hb2⟩ := tmod100 z
        clear hs hst hinv
        go_wp2_with fail
        have e1 : (z.tmod 100 + 100) % 100 = ep z := rfl
        have e2 : z.tmod 100 % 100 = ep z := by unfold ep; omega
        rw [e2]
        simp only [e1]
        have hep := ep_bd z
        generalize hez : ep z = e at *
        refine (retire_lit (xs := [x]) hLr (Nat.le_trans hx.size (Nat.le_refl _)) (by simp; omega) (KR.one wr x) 1).mono ?_
        rintro en w4 ⟨rv4, rfl, hL4, hx4, _⟩
        change LimboIs w4 w.heap.size g mb rv4 (ret1 e s x).1 (ret1 e s x).2 at hL4
        have hM4 := MapIs.foot hMr hLr hlm hx4
        have hx4' := hLr.since hx hx4
        have hinv' := Hinv.out.step x hep
        have hlen' := ret1_len e s x
        obtain ⟨v', hv'⟩ := ret1_get e s x
        have Hv' := Lib.hid hv'
        have Hinv' := Lib.hid hinv'
        have hd := (hk.ext0 hx4').cell k x hxk
        obtain ⟨d0, d1, d2, d3⟩ := hd
        clear e1 e2 hez hb1 hb2 hLr hMr hx hx4 hinv' hv' hz0
        have hlk := hM4.look true kt30 Try.underlying27 (zero3 w4) x
        simp only [if_true] at hlk
        unfold K.val at hlk
        have hlbF : ∀ b, Foot g mb rv4 b → b ≠ lb := fun b hf e => by
          rcases hf with rfl | rfl | hf
          · exact hM4.ne_cells hL4.blk e.symm
          · exact hlm e.symm
          · exact hL4.own.ne_map hM4 (e ▸ hf)
        have hlbw : ∀ i, i < w.heap.size → i ≠ lb := fun i hi => by omega
        have hlbF : ∀ b, Foot g mb rv4 b → b ≠ lb := fun b hf e => by
          rcases hf with rfl | rfl | hf
          · exact hM4.ne_cells hL4.blk e.symm
          · exact hlm e.symm
          · exact hL4.own.ne_map hM4 (e ▸ hf)
        have hlbw : ∀ i, i < w.heap.size → i ≠ lb := fun i hi => by omega
        cases hm : mget s.2 x with
        | none =>
          have hr1 : (ret1 e s x).2 = mput s.2 x e := by unfold ret1; rw [hm]
          have Hr1 := Lib.hid hr1
          simp only [hm, Option.map_none, Option.getD_none, Option.isSome_none] at hlk
          clear hm hr1
          go_wp2_with (at_mapUpdate; refine wpList_mapUp rfl _ _ _ rfl kt30 Try.underlying27 hM4 x e rfl rfl rfl ?_)
          intro w5 hM5 hx5
          rw [← Hr1.out] at hM5
          have hL5 := hL4.ext hx5 hlbF
          have hx5' := hx4'.trans hx5 fun i hi e => absurd e (hlbw i hi)
          clear hx5
          clear hL4 hM4 hx4' hlk hlbF d0 d1 d2 d3 hL3 hM3 hx3 hep
          have Hlbw := Lib.hid hlbw
          clear hlbw
          generalize hs' : ret1 e s x = s' at *
          have Hs' := Lib.hid hs'
          clear hs'
          obtain ⟨d0, d1, d2, d3⟩ := (hk.ext0 hx5').cell k x hxk
          go_wp2_with fail
          refine (epoch_any w5 _ _ _ _ _ _ x hL5).mono ?_
          rintro en w6 ⟨rfl, hx6⟩
          have hL6 := hL5.ext0 hx6
          have hM6 := hM5.ext hx6 id
          have hx6' := hx5'.grow hx6
          have hlk := hM6.look false kt30 Try.underlying27 (zero3 w6) x
          have hln := fun ty => hM6.len (ty := ty) Try.underlying27
          unfold K.val at hlk
          rw [Hv'.out] at hlk ⊢
          simp only [Bool.false_eq_true, if_false, Option.map_some, Option.getD_some, Option.isSome_some] at hlk ⊢
          clear hL5 hM5 hx5' hx6 d0 d1 d2 d3
          obtain ⟨d0, d1, d2, d3⟩ := (hk.ext0 hx6').cell k x hxk
          go_wp2_with fail
          refine (len_any w6 _ _ _ _ _ _ hL6).mono ?_
          rintro en w7 ⟨rfl, rfl⟩
          rw [Hinv'.out.len]
          go_wp2
          refine ⟨⟨k + 1, rv4, by omega, by omega, by simp, ?_, ?_, hx6'⟩, by simp [intOf]; omega⟩
          · rw [Hst.out]; exact hL6
          · rw [Hst.out]; exact hM6
        | some old =>
          simp only [hm, Option.map_some, Option.getD_some, Option.isSome_some] at hlk
          by_cases hlt : old < e
          · have hr1 : (ret1 e s x).2 = mput s.2 x e := by unfold ret1; rw [hm]; simp only; rw [show max old e = e by omega]
            have Hr1 := Lib.hid hr1
            have hdd : decide (old < e) = true := decide_eq_true hlt
            clear hm hr1 hlt
            go_wp2_with (at_mapUpdate; refine wpList_mapUp rfl _ _ _ rfl kt30 Try.underlying27 hM4 x e rfl rfl rfl ?_)
            intro w5 hM5 hx5
            rw [← Hr1.out] at hM5
            have hL5 := hL4.ext hx5 hlbF
            have hx5' := hx4'.trans hx5 fun i hi e => absurd e (hlbw i hi)
            clear hx5
            clear hL4 hM4 hx4' hlk hlbF d0 d1 d2 d3 hL3 hM3 hx3 hep
            have Hlbw := Lib.hid hlbw
            clear hlbw
            generalize hs' : ret1 e s x = s' at *
            have Hs' := Lib.hid hs'
            clear hs'
            obtain ⟨d0, d1, d2, d3⟩ := (hk.ext0 hx5').cell k x hxk
            go_wp2_with fail
            refine (epoch_any w5 _ _ _ _ _ _ x hL5).mono ?_
            rintro en w6 ⟨rfl, hx6⟩
            have hL6 := hL5.ext0 hx6
            have hM6 := hM5.ext hx6 id
            have hx6' := hx5'.grow hx6
            have hlk := hM6.look false kt30 Try.underlying27 (zero3 w6) x
            have hln := fun ty => hM6.len (ty := ty) Try.underlying27
            unfold K.val at hlk
            rw [Hv'.out] at hlk ⊢
            simp only [Bool.false_eq_true, if_false, Option.map_some, Option.getD_some, Option.isSome_some] at hlk ⊢
            clear hL5 hM5 hx5' hx6 d0 d1 d2 d3
            obtain ⟨d0, d1, d2, d3⟩ := (hk.ext0 hx6').cell k x hxk
            go_wp2_with fail
            refine (len_any w6 _ _ _ _ _ _ hL6).mono ?_
            rintro en w7 ⟨rfl, rfl⟩
            rw [Hinv'.out.len]
            go_wp2
            refine ⟨⟨k + 1, rv4, by omega, by omega, by simp, ?_, ?_, hx6'⟩, by simp [intOf]; omega⟩
            · rw [Hst.out]; exact hL6
            · rw [Hst.out]; exact hM6
          · have hr1 : (ret1 e s x).2 = s.2 := by unfold ret1; rw [hm]; simp only; rw [show max old e = old by omega, mput_same hm]
            have Hr1 := Lib.hid hr1
            have hdd : decide (old < e) = false := decide_eq_false hlt
            clear hm hr1 hlt
            have hM5 := hM4
            rw [← Hr1.out] at hM5
            have hL5 := hL4
            have hx5' := hx4'
            generalize hw5 : w4 = w5 at *
            clear hw5
            clear hL4 hM4 hx4' hlbF d0 d1 d2 d3 hL3 hM3 hx3 hep
            have Hlbw := Lib.hid hlbw
            clear hlbw
            generalize hs' : ret1 e s x = s' at *
            have Hs' := Lib.hid hs'
            clear hs'
            obtain ⟨d0, d1, d2, d3⟩ := (hk.ext0 hx5').cell k x hxk
            go_wp2_with fail
            refine (epoch_any w5 _ _ _ _ _ _ x hL5).mono ?_
            rintro en w6 ⟨rfl, hx6⟩
            have hL6 := hL5.ext0 hx6
            have hM6 := hM5.ext hx6 id
            have hx6' := hx5'.grow hx6
            have hlk := hM6.look false kt30 Try.underlying27 (zero3 w6) x
            have hln := fun ty => hM6.len (ty := ty) Try.underlying27
            unfold K.val at hlk
            rw [Hv'.out] at hlk ⊢
            simp only [Bool.false_eq_true, if_false, Option.map_some, Option.getD_some, Option.isSome_some] at hlk ⊢
            clear hL5 hM5 hx5' hx6 d0 d1 d2 d3
            obtain ⟨d0, d1, d2, d3⟩ := (hk.ext0 hx6').cell k x hxk
            go_wp2_with fail
            refine (len_any w6 _ _ _ _ _ _ hL6).mono ?_
            rintro en w7 ⟨rfl, rfl⟩
            rw [Hinv'.out.len]
            go_wp2
            refine ⟨⟨k + 1, rv4, by omega, by omega, by simp, ?_, ?_, hx6'⟩, by simp [intOf]; omega⟩
            · rw [Hst.out]; exact hL6
            · rw [Hst.out]; exact hM6
      · have hkz : k = zs.length := by omega
        have hinv := st_inv (ks := ks) (zs := zs) k hk1 hk2
        have hlen := st_len (ks := ks) (zs := zs) k hk1 hk2
        generalize st ks zs k = s at *
        subst hkz
        have Hinv := Lib.hid hinv
        have hmd := Mid.start hinv
        clear hinv
        have hmm := @run_makeMap Try.prog
        go_wp2_with fail
        clear hmm
        have hM4 : MapIs K.val (Value.int .i64) (wr.alloc (.map #[] 0)) wr.heap.size ([] : List (K × Int)) := MapIs.made wr
        have hL4 := hLr.ext0 (Ext.alloc wr (.map #[] 0))
        have hE4 := hMr.ext (Ext.alloc wr (.map #[] 0)) id
        have hx4 := hx.grow (Ext.alloc wr (.map #[] 0))
        have hgm : wr.heap.size ≠ mb := fun e => by have := hLr.map.lt; omega
        have hgl : wr.heap.size ≠ lb := fun e => by have := hMr.lt; omega
        have hlw : w.heap.size ≤ wr.heap.size := hx.size
        generalize hgb : wr.heap.size = gb at *
        generalize wr.alloc (.map #[] 0) = w4 at *
        clear hx hLr hMr hgb
        go_loopw [14] (fun i wr => ∃ (e : Nat) (rv : Value) (row T : List K) (M : List (K × Int)), e ≤ 101 ∧ i = .int .i64 e ∧ LimboIs wr w.heap.size g mb rv row M ∧
            MapIs K.val (Value.int .i64) wr lb s.2 ∧ MapIs K.val (Value.int .i64) wr gb (ones T) ∧ Ext none_ w wr ∧ Hid (Mid s e row M T)) (fun i _ => 101 - (intOf i).toNat)
        case atStart => exact ⟨0, _, _, [], _, by omega, rfl, hL4, hE4, hM4, hx4, Lib.hid hmd⟩
        case round =>
          obtain ⟨e, rv, row, T, M, he, rfl, hLr, hEr, hGr, hx, Hmd⟩ := hrel
          clear hL4 hE4 hM4 hx4 hmd
          by_cases hle : e ≤ 100
          · have hrl := Hmd.out.len
            go_wp2_with fail
            refine (take_any wr w.heap.size g mb rv row M e hLr hx.size (by omega)).mono ?_
            rintro en w5 ⟨gv, rv5, rfl, hL5, hG5, hne5, hx5, hf5⟩
            have hE5 := MapIs.foot hEr hLr hlm hx5
            have hO5 := MapIs.foot hGr hLr hgm hx5
            have hx5' := hLr.since hx hx5
            have Hst := Lib.hid (Hmd.out.step hLr.map.nodup)
            have Hnew := Lib.hid (fun (k : Nat) (x : K) (h : (gone e row M)[k]? = some x) => Hmd.out.new h)
            have Hgot := Lib.hid (fun (x : K) (h : x ∈ gone e row M) => Hmd.out.got h)
            change LimboIs w5 w.heap.size g mb rv5 (left e row M) (dels M (gone e row M)) at hL5
            change KOwn w5 wr.heap.size gv (gone e row M) at hG5
            have hgsl : (gone e row M).length ≤ row.length := List.length_filter_le _ _
            generalize gone e row M = gs at *
            generalize left e row M = ls at *
            generalize dels M gs = M5 at *
            obtain ⟨ga, gc, go, rfl, hgk, hgb⟩ := hG5.read
            clear hx5 hGr hEr hLr hx
            have hgF : ∀ b, Foot g mb rv5 b → b ≠ gb := fun b hf e => by
              rcases hf with rfl | rfl | hf
              · exact hO5.ne_cells hL5.blk e.symm
              · exact hgm e.symm
              · exact hL5.own.ne_map hO5 (e ▸ hf)
            have hgw : ∀ i, i < w.heap.size → i ≠ gb := fun i hi => by omega
            go_wp2_with fail
            go_loopw [16] (fun i w6 => ∃ (n : Nat), n ≤ gs.length ∧ i = .int .i64 n ∧ MapIs K.val (Value.int .i64) w6 gb (ones (T ++ gs.take n)) ∧ Ext (· = gb) w5 w6) (fun i _ => gs.length - (intOf i).toNat)
            case atStart => exact ⟨0, Nat.zero_le _, rfl, by simpa using hO5, Ext.refl _ _⟩
            case round =>
              obtain ⟨n, hn, rfl, hO6, hx6⟩ := hrel
              by_cases hlt : n < gs.length
              · obtain ⟨x, hxk⟩ : ∃ x, gs[n]? = some x := ⟨_, List.getElem?_eq_getElem hlt⟩
                have hgo : go ≠ gb := fun e => by
                  rcases hgb with h | ⟨_, h⟩
                  · exact hG5.ne_map hO5 (by rw [h, e])
                  · rw [h] at hlt; simp at hlt
                have hgr := hgk.ext hx6 hgo
                have hE6 := hE5.ext hx6 (fun e => hgl e.symm)
                have hnw := Hnew.out n x hxk
                have hgt := Hgot.out x (List.mem_of_getElem? hxk)
                have hon := ones_get hnw
                have hpt := ones_put hnw
                have ha := hgk.addr (by omega)
                subst ha
                rw [take_more hxk] at hpt
                generalize ones (T ++ gs.take n) = O at *
                generalize hO' : ones (T ++ gs.take (n + 1)) = O' at *
                have HO' := Lib.hid hO'
                clear hO'
                have Hgt := Lib.hid hgt
                have Hon := Lib.hid hon
                have Hpt := Lib.hid hpt
                clear hnw hgt hon hpt hO5 hE5 hgk
                go_wp2_with fail
                have hE7 := MapIs.ext0' hE6 (Ext.drew wr)
                have hO7 := MapIs.ext0' hO6 (Ext.drew wr)
                have hr7 := hgr.ext0 (Ext.drew wr)
                have hx7 := hx6.grow (Ext.drew wr)
                refine wp_region_hoist (Ent gb x go (n * 4)) 9 [0, 1, 2, 3, 4, 5, 6] [7, 8, 9] mixed (by kernel_rfl) (Ent.of hO7 (by rw [Hon.out]; rfl) hr7 hxk) ?_
                have hnn := Fam.ne (Ent.of hO7 (by rw [Hon.out]; rfl) hr7 hxk)
                simp only [List.filterMap_cons, List.filterMap_nil, List.getElem?_cons_zero, List.getElem?_cons_succ]
                generalize wr.drew = w7 at *
                have hl := fun i : Fam (Ent gb x go (n * 4)) => i.h.look
                have hc0 := fun i : Fam (Ent gb x go (n * 4)) => i.h.c0
                have hc1 := fun i : Fam (Ent gb x go (n * 4)) => i.h.c1
                have hc2 := fun i : Fam (Ent gb x go (n * 4)) => i.h.c2
                have hc3 := fun i : Fam (Ent gb x go (n * 4)) => i.h.c3
                clear hO6 hE6 hgr hx6
                repeat (refine wpV_step (fun K hK => ?_); go_simp; refine hK _ ?_; clear hK K)
                refine wpV_nil (wpCh_step ?_)
                clear hl hc0 hc1 hc2 hc3 hnn
                refine wpList_mapEntry rfl _ _ rfl kt30 Try.underlying27 (zero3 w7) hO7 x rfl rfl ?_
                rw [Hon.out]
                intro w8 sl hx8 hO8 hent
                have hr8 := hr7.ext hx8 hgo
                have hO8' : MapIs K.val (Value.int .i64) w8 gb (mput O x 0) := hO8
                have hent8 := Ent.of hO8' (by rw [mget_put, if_pos rfl]; rfl) hr8 hxk
                refine ⟨hent8, wpCh_step ?_⟩
                have Hent8 := Lib.hid hent8
                clear hent8
                go_wp2_with fail
                refine ⟨Hent8.out, wpCh_last ?_⟩
                refine wpList_entryStore rfl _ _ _ rfl hent rfl 1 rfl rfl rfl ?_
                rw [Hpt.out]
                intro w9 hO9 hx9
                have hr9 := hr8.ext hx9 hgo
                have hE9 := (hE7.ext hx8 (fun e => hgl e.symm)).ext hx9 (fun e => hgl e.symm)
                have hx9' := (hx7.trans hx8 fun _ _ h => h).trans hx9 fun _ _ h => h
                have hlk1 := hE9.look false kt30 Try.underlying27 (zero3 w9) x
                have hlk2 := hO9.look false kt30 Try.underlying27 (zero3 w9) x
                unfold K.val at hlk1 hlk2
                rw [Hgt.out] at hlk1
                rw [show mget O' x = some 1 by rw [← Hpt.out, mget_put, if_pos rfl]] at hlk2
                simp only [Bool.false_eq_true, if_false, Option.map_some, Option.getD_some, Option.isSome_some] at hlk1 hlk2
                obtain ⟨d0, d1, d2, d3⟩ := hr9.cell n x hxk
                simp only [Nat.zero_add] at d0 d1 d2 d3
                clear hent Hent8 hO8 hO8' hr8 hr7 hE7 hO7 hx7 hx8 hx9
                go_wp2
                refine ⟨⟨n + 1, by omega, by simp, ?_, hx9'⟩, by simp [intOf]; omega⟩
                rw [HO'.out]; exact hO9
              · have hnn : n = gs.length := by omega
                subst hnn
                rw [List.take_length] at hO6
                have hL6 := hL5.ext hx6 hgF
                have hE6 := hE5.ext hx6 (fun e => hgl e.symm)
                have hx6' := hx5'.trans hx6 fun i hi e => absurd e (hgw i hi)
                go_wp2
                exact ⟨⟨e + 1, rv5, ls, T ++ gs, M5, by omega, by simp, hL6, hE6, hO6, hx6', Hst⟩, by simp [intOf]; omega⟩
          · have he1 : e = 101 := by omega
            subst he1
            obtain ⟨hr0, hTl⟩ := Hmd.out.done Hinv.out
            subst hr0
            have HTl := Lib.hid hTl
            have hln1 := fun ty => hEr.len (ty := ty) Try.underlying27
            have hln2 := fun ty => hGr.len (ty := ty) Try.underlying27
            rw [ones_len, HTl.out] at hln2
            clear hTl
            go_wp2_with fail
            refine (len_any wr _ _ _ _ _ _ hLr).mono ?_
            rintro en w7 ⟨rfl, rfl⟩
            go_wp2
            go_ret
            exact ⟨rfl, hx⟩
    · have hkz : k = ks.length := by omega
      have hinv := st_inv (ks := ks) (zs := zs) k hk1 hk2
      have hlen := st_len (ks := ks) (zs := zs) k hk1 hk2
      generalize st ks zs k = s at *
      subst hkz
      have Hinv := Lib.hid hinv
      have hmd := Mid.start hinv
      clear hinv
      have hmm := @run_makeMap Try.prog
      go_wp2_with fail
      clear hmm
      have hM4 : MapIs K.val (Value.int .i64) (wr.alloc (.map #[] 0)) wr.heap.size ([] : List (K × Int)) := MapIs.made wr
      have hL4 := hLr.ext0 (Ext.alloc wr (.map #[] 0))
      have hE4 := hMr.ext (Ext.alloc wr (.map #[] 0)) id
      have hx4 := hx.grow (Ext.alloc wr (.map #[] 0))
      have hgm : wr.heap.size ≠ mb := fun e => by have := hLr.map.lt; omega
      have hgl : wr.heap.size ≠ lb := fun e => by have := hMr.lt; omega
      have hlw : w.heap.size ≤ wr.heap.size := hx.size
      generalize hgb : wr.heap.size = gb at *
      generalize wr.alloc (.map #[] 0) = w4 at *
      clear hx hLr hMr hgb
      go_loopw [14] (fun i wr => ∃ (e : Nat) (rv : Value) (row T : List K) (M : List (K × Int)), e ≤ 101 ∧ i = .int .i64 e ∧ LimboIs wr w.heap.size g mb rv row M ∧
          MapIs K.val (Value.int .i64) wr lb s.2 ∧ MapIs K.val (Value.int .i64) wr gb (ones T) ∧ Ext none_ w wr ∧ Hid (Mid s e row M T)) (fun i _ => 101 - (intOf i).toNat)
      case atStart => exact ⟨0, _, _, [], _, by omega, rfl, hL4, hE4, hM4, hx4, Lib.hid hmd⟩
      case round =>
        obtain ⟨e, rv, row, T, M, he, rfl, hLr, hEr, hGr, hx, Hmd⟩ := hrel
        clear hL4 hE4 hM4 hx4 hmd
        by_cases hle : e ≤ 100
        · have hrl := Hmd.out.len
          go_wp2_with fail
          refine (take_any wr w.heap.size g mb rv row M e hLr hx.size (by omega)).mono ?_
          rintro en w5 ⟨gv, rv5, rfl, hL5, hG5, hne5, hx5, hf5⟩
          have hE5 := MapIs.foot hEr hLr hlm hx5
          have hO5 := MapIs.foot hGr hLr hgm hx5
          have hx5' := hLr.since hx hx5
          have Hst := Lib.hid (Hmd.out.step hLr.map.nodup)
          have Hnew := Lib.hid (fun (k : Nat) (x : K) (h : (gone e row M)[k]? = some x) => Hmd.out.new h)
          have Hgot := Lib.hid (fun (x : K) (h : x ∈ gone e row M) => Hmd.out.got h)
          change LimboIs w5 w.heap.size g mb rv5 (left e row M) (dels M (gone e row M)) at hL5
          change KOwn w5 wr.heap.size gv (gone e row M) at hG5
          have hgsl : (gone e row M).length ≤ row.length := List.length_filter_le _ _
          generalize gone e row M = gs at *
          generalize left e row M = ls at *
          generalize dels M gs = M5 at *
          obtain ⟨ga, gc, go, rfl, hgk, hgb⟩ := hG5.read
          clear hx5 hGr hEr hLr hx
          have hgF : ∀ b, Foot g mb rv5 b → b ≠ gb := fun b hf e => by
            rcases hf with rfl | rfl | hf
            · exact hO5.ne_cells hL5.blk e.symm
            · exact hgm e.symm
            · exact hL5.own.ne_map hO5 (e ▸ hf)
          have hgw : ∀ i, i < w.heap.size → i ≠ gb := fun i hi => by omega
          go_wp2_with fail
          go_loopw [16] (fun i w6 => ∃ (n : Nat), n ≤ gs.length ∧ i = .int .i64 n ∧ MapIs K.val (Value.int .i64) w6 gb (ones (T ++ gs.take n)) ∧ Ext (· = gb) w5 w6) (fun i _ => gs.length - (intOf i).toNat)
          case atStart => exact ⟨0, Nat.zero_le _, rfl, by simpa using hO5, Ext.refl _ _⟩
          case round =>
            obtain ⟨n, hn, rfl, hO6, hx6⟩ := hrel
            by_cases hlt : n < gs.length
            · obtain ⟨x, hxk⟩ : ∃ x, gs[n]? = some x := ⟨_, List.getElem?_eq_getElem hlt⟩
              have hgo : go ≠ gb := fun e => by
                rcases hgb with h | ⟨_, h⟩
                · exact hG5.ne_map hO5 (by rw [h, e])
                · rw [h] at hlt; simp at hlt
              have hgr := hgk.ext hx6 hgo
              have hE6 := hE5.ext hx6 (fun e => hgl e.symm)
              have hnw := Hnew.out n x hxk
              have hgt := Hgot.out x (List.mem_of_getElem? hxk)
              have hon := ones_get hnw
              have hpt := ones_put hnw
              have ha := hgk.addr (by omega)
              subst ha
              rw [take_more hxk] at hpt
              generalize ones (T ++ gs.take n) = O at *
              generalize hO' : ones (T ++ gs.take (n + 1)) = O' at *
              have HO' := Lib.hid hO'
              clear hO'
              have Hgt := Lib.hid hgt
              have Hon := Lib.hid hon
              have Hpt := Lib.hid hpt
              clear hnw hgt hon hpt hO5 hE5 hgk
              go_wp2_with fail
              have hE7 := MapIs.ext0' hE6 (Ext.drew wr)
              have hO7 := MapIs.ext0' hO6 (Ext.drew wr)
              have hr7 := hgr.ext0 (Ext.drew wr)
              have hx7 := hx6.grow (Ext.drew wr)
              refine wp_region_hoist (Ent gb x go (n * 4)) 9 [0, 1, 2, 3, 4, 5, 6] [7, 8, 9] mixed (by kernel_rfl) (Ent.of hO7 (by rw [Hon.out]; rfl) hr7 hxk) ?_
              have hnn := Fam.ne (Ent.of hO7 (by rw [Hon.out]; rfl) hr7 hxk)
              simp only [List.filterMap_cons, List.filterMap_nil, List.getElem?_cons_zero, List.getElem?_cons_succ]
              generalize wr.drew = w7 at *
              have hl := fun i : Fam (Ent gb x go (n * 4)) => i.h.look
              have hc0 := fun i : Fam (Ent gb x go (n * 4)) => i.h.c0
              have hc1 := fun i : Fam (Ent gb x go (n * 4)) => i.h.c1
              have hc2 := fun i : Fam (Ent gb x go (n * 4)) => i.h.c2
              have hc3 := fun i : Fam (Ent gb x go (n * 4)) => i.h.c3
              clear hO6 hE6 hgr hx6
              repeat (refine wpV_step (fun K hK => ?_); go_simp; refine hK _ ?_; clear hK K)
              refine wpV_nil (wpCh_step ?_)
              clear hl hc0 hc1 hc2 hc3 hnn
              refine wpList_mapEntry rfl _ _ rfl kt30 Try.underlying27 (zero3 w7) hO7 x rfl rfl ?_
              rw [Hon.out]
              intro w8 sl hx8 hO8 hent
              have hr8 := hr7.ext hx8 hgo
              have hO8' : MapIs K.val (Value.int .i64) w8 gb (mput O x 0) := hO8
              have hent8 := Ent.of hO8' (by rw [mget_put, if_pos rfl]; rfl) hr8 hxk
              refine ⟨hent8, wpCh_step ?_⟩
              have Hent8 := Lib.hid hent8
              clear hent8
              go_wp2_with fail
              refine ⟨Hent8.out, wpCh_last ?_⟩
              refine wpList_entryStore rfl _ _ _ rfl hent rfl 1 rfl rfl rfl ?_
              rw [Hpt.out]
              intro w9 hO9 hx9
              have hr9 := hr8.ext hx9 hgo
              have hE9 := (hE7.ext hx8 (fun e => hgl e.symm)).ext hx9 (fun e => hgl e.symm)
              have hx9' := (hx7.trans hx8 fun _ _ h => h).trans hx9 fun _ _ h => h
              have hlk1 := hE9.look false kt30 Try.underlying27 (zero3 w9) x
              have hlk2 := hO9.look false kt30 Try.underlying27 (zero3 w9) x
              unfold K.val at hlk1 hlk2
              rw [Hgt.out] at hlk1
              rw [show mget O' x = some 1 by rw [← Hpt.out, mget_put, if_pos rfl]] at hlk2
              simp only [Bool.false_eq_true, if_false, Option.map_some, Option.getD_some, Option.isSome_some] at hlk1 hlk2
              obtain ⟨d0, d1, d2, d3⟩ := hr9.cell n x hxk
              simp only [Nat.zero_add] at d0 d1 d2 d3
              clear hent Hent8 hO8 hO8' hr8 hr7 hE7 hO7 hx7 hx8 hx9
              go_wp2
              refine ⟨⟨n + 1, by omega, by simp, ?_, hx9'⟩, by simp [intOf]; omega⟩
              rw [HO'.out]; exact hO9
            · have hnn : n = gs.length := by omega
              subst hnn
              rw [List.take_length] at hO6
              have hL6 := hL5.ext hx6 hgF
              have hE6 := hE5.ext hx6 (fun e => hgl e.symm)
              have hx6' := hx5'.trans hx6 fun i hi e => absurd e (hgw i hi)
              go_wp2
              exact ⟨⟨e + 1, rv5, ls, T ++ gs, M5, by omega, by simp, hL6, hE6, hO6, hx6', Hst⟩, by simp [intOf]; omega⟩
        · have he1 : e = 101 := by omega
          subst he1
          obtain ⟨hr0, hTl⟩ := Hmd.out.done Hinv.out
          subst hr0
          have HTl := Lib.hid hTl
          have hln1 := fun ty => hEr.len (ty := ty) Try.underlying27
          have hln2 := fun ty => hGr.len (ty := ty) Try.underlying27
          rw [ones_len, HTl.out] at hln2
          clear hTl
          go_wp2_with fail
          refine (len_any wr _ _ _ _ _ _ hLr).mono ?_
          rintro en w7 ⟨rfl, rfl⟩
          go_wp2
          go_ret
          exact ⟨rfl, hx⟩

end Go.Proofs.Ytfjlclloddbkmaa
