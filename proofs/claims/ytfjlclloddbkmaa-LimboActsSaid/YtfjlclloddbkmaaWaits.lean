/- The walk of LimboWaits. -/
import Derived.Test.YtfjlclloddbkmaaWaitPlain
namespace Go.Proofs.Ytfjlclloddbkmaa
open Go.RowKit Go.Cw

/-- one Act, read -/
structure A where
  kind : Int
  n : Int
  a : Option Addr
  c : Nat
  ks : List K
  b : Nat
  off : Nat

/-- A slice's address reads as these Acts. -/
structure AR (w : World) (a : Option Addr) (xs : List A) (b off : Nat) : Prop where
  addr : 0 < xs.length → a = some ⟨b, off, none⟩
  cell : ∀ (j : Nat) (x : A), xs[j]? = some x → w.cell? ⟨b, off + j * 3, none⟩ = some (.int .i64 x.kind) ∧ w.cell? ⟨b, off + j * 3 + 1, none⟩ = some (.int .i64 x.n) ∧ w.cell? ⟨b, off + j * 3 + 2, none⟩ = some (.slice x.a x.ks.length x.c)
  keys : ∀ x ∈ xs, KR w x.a x.ks x.b x.off

theorem cell_ext0 {w w' : World} (hx : Ext none_ w w') {a : Addr} {v : Value} (hc : w.cell? a = some v) : w'.cell? a = some v := by
  have hlt : a.block < w.heap.size := World.block_lt_of_cell? w a hc
  exact (World.cell?_of_block (hx.block a.block hlt id)).trans hc

theorem AR.ext0 {w w' : World} {a : Option Addr} {xs : List A} {b off : Nat} (h : AR w a xs b off) (hx : Ext none_ w w') : AR w' a xs b off :=
  ⟨h.addr, fun j x hj => let ⟨c0, c1, c2⟩ := h.cell j x hj; ⟨cell_ext0 hx c0, cell_ext0 hx c1, cell_ext0 hx c2⟩, fun x hx' => (h.keys x hx').ext0 hx⟩

/-- 'l.Back(xs...)', the row made by the literal -/
theorem back_lit {w : World} {base g mb : Nat} {rv : Value} {row : List K} {M : List (K × Int)} {xs : List K} {o : Obj} (hL : LimboIs w base g mb rv row M) (hbw : base ≤ w.heap.size) (hn : row.length ≤ 100000) (hxn : xs.length ≤ 1000000)
    (hr : KR (w.alloc o) (some ⟨w.heap.size, 0, none⟩) xs w.heap.size 0) (c : Nat) :
    Calls Try.prog 12 #[.pointer (some ⟨g, 0, none⟩), .slice (some ⟨w.heap.size, 0, none⟩) xs.length c] (w.alloc o) fun en w' => ∃ rv', en = .returned (.int .i64 (row.filter (fun x => decide (x ∈ xs))).length) ∧
      LimboIs w' base g mb rv' (row.filter (fun x => !decide (x ∈ xs))) (dels M (row.filter (fun x => decide (x ∈ xs)))) ∧ Ext (Foot g mb rv) w w' := by
  refine (back_any _ base g mb rv row M _ xs c _ _ hr hxn (hL.ext0 (Ext.alloc _ _)) (Nat.le_trans hbw (Ext.alloc w o).size) hn).mono ?_
  rintro en w' ⟨rv', rfl, h1, h2, h3⟩
  exact ⟨rv', rfl, h1, ((Ext.alloc w o).mono fun _ _ h => h.elim).trans h2 fun _ _ h => h⟩

set_option maxHeartbeats 4000000 in
set_option maxRecDepth 100000 in
theorem waits_any (w : World) (x : K) (z : Int) (a : Option Addr) (xs : List A) (b off c : Nat) (hA : AR w a xs b off) (hn : xs.length ≤ 60) :
    Calls Try.prog 4 #[x.val, .int .i64 z, .slice a xs.length c] w fun e w' => e = .returned (.bool true) ∧ Ext none_ w w' := by
  have hx0 := Ext.alloc w (.cells #[.int .i64 x.k, .int .i64 x.a, .int .i64 x.b, .string x.s] 30)
  have hb0 := blk_new w (.cells #[.int .i64 x.k, .int .i64 x.a, .int .i64 x.b, .string x.s] 30)
  unfold K.val
  go_enter Try.func4, Try.ntmps4
  go_wp2_with fail
  generalize w.alloc (.cells #[.int .i64 x.k, .int .i64 x.a, .int .i64 x.b, .string x.s] 30) = w0 at *
  generalize w.heap.size = kb at *
  have hA0 := hA.ext0 hx0
  clear hA
  refine (awake_any w0).mono ?_
  rintro e w1 ⟨rfl, hx1⟩
  have hn' : decide ((60 : Int) < (xs.length : Int)) = false := by simp; omega
  obtain ⟨hb1, hb2⟩ := tmod1000 z
  go_wp2_with fail
  have e1 : (z.tmod 1000 + 1000) % 1000 = ep3 z := rfl
  simp only [e1]
  have hep := ep3_bd z
  obtain ⟨E, hE⟩ := Int.eq_ofNat_of_zero_le hep.1
  have HE := Lib.hid hE
  rw [hE] at hep ⊢
  clear e1 hE hb1 hb2 hn'
  refine (new_any w1 w0.heap.size hx1.size).mono ?_
  rintro e w2 ⟨g, mb, rfl, hL2, hx2, hg, hmb⟩
  have hx2' := hx1.grow hx2
  clear hx1 hx2 hg hmb
  go_wp2_with fail
  go_loopw [9] (fun i wr => ∃ (k : Nat) (rv : Value) (row : List K) (M : List (K × Int)), k ≤ xs.length ∧ i = .int .i64 k ∧ LimboIs wr w0.heap.size g mb rv row M ∧ Ext none_ w0 wr ∧ Hid (Wf row M) ∧ row.length ≤ 10 * k) (fun i _ => xs.length - (intOf i).toNat)
  case atStart => exact ⟨0, _, _, _, Nat.zero_le _, rfl, hL2, hx2', Lib.hid Wf.nil, by simp⟩
  case round =>
    obtain ⟨k, rv, row, M, hk, rfl, hLr, hx, Hwf, hlen⟩ := hrel
    clear hL2 hx2'
    by_cases hlt : k < xs.length
    · obtain ⟨act, hak⟩ : ∃ x, xs[k]? = some x := ⟨_, List.getElem?_eq_getElem hlt⟩
      obtain ⟨c0, c1, c2⟩ := (hA0.ext0 hx).cell k act hak
      have hkr0 := hA0.keys act (List.mem_of_getElem? hak)
      have ha := hA0.addr (by omega)
      subst ha
      by_cases hks : 10 < act.ks.length
      · have hd : decide ((10 : Int) < (act.ks.length : Int)) = true := by simp; omega
        go_wp2
        go_ret
        exact ⟨rfl, hx0.grow hx⟩
      · have hd : decide ((10 : Int) < (act.ks.length : Int)) = false := by simp; omega
        go_wp2_with fail
        have hx3 := hx.grow (Ext.drew wr)
        have hL3 := hLr.ext0 (Ext.drew wr)
        refine wp_region_hoist (Still wr.drew) 14 [0, 1, 2, 3, 4, 5, 6, 7, 8, 9, 10, 11, 12, 13] [14] mixed (by kernel_rfl) rfl ?_
        simp only [List.filterMap_cons, List.filterMap_nil, List.getElem?_cons_zero, List.getElem?_cons_succ]
        generalize wr.drew = w3 at *
        have hF := fun i => Still.fam (w := w3) i
        have hnn := Still.ne w3
        clear c0 c1 c2
        obtain ⟨c0, c1, c2⟩ := (hA0.ext0 hx3).cell k act hak
        obtain ⟨hb1, hb2⟩ := tmod1000 act.n
        repeat (refine wpV_step (fun K hK => ?_); go_simp; refine hK _ ?_; clear hK K)
        refine wpV_nil (wpCh_last ?_)
        clear hF hnn hLr hx
        go_wp2_with fail
        refine (retire_any w3 w0.heap.size g mb rv row M _ act.a act.c act.ks act.b act.off hL3 (hkr0.ext0 hx3) (fun h0 hf => ?_) hx3.size (by omega)).mono ?_
        · have := hkr0.lt h0
          rcases hf with e | e | hf
          · have := hL3.gb; omega
          · have := hL3.mb; omega
          · have := (hL3.own.lt _ hf).1; omega
        rintro en w4 ⟨rv4, rfl, hL4, hx4, _⟩
        have hx4' := hL3.since hx3 hx4
        have hw4 := Wf.rets (xs := act.ks) (s := (row, M)) Hwf.out ((act.n.tmod 1000 + 1000) % 1000)
        have hl4 := rets_len ((act.n.tmod 1000 + 1000) % 1000) (row, M) act.ks
        simp only at hl4
        generalize rets ((act.n.tmod 1000 + 1000) % 1000) (row, M) act.ks = s4 at *
        have Hw4 := Lib.hid hw4
        clear hw4 hL3 hx3 hx4 c0 c1 c2 hb1 hb2
        go_wp2
        exact ⟨⟨k + 1, rv4, s4.1, s4.2, by omega, by simp, hL4, hx4', Hw4, by omega⟩, by simp [intOf]; omega⟩
    · skip
      have Hhas := Lib.hid (Has.start Hwf.out hLr.map.nodup x E)
      obtain ⟨k0, k1, k2, k3⟩ := cells4 (hx.blk0 hb0)
      go_wp2_with fail
      refine (back_lit (xs := [x]) hLr hx.size (by omega) (by simp) (KR.one wr x) 1).mono ?_
      rintro en w4 ⟨rv4, rfl, hL4, hx4⟩
      have hx4' := hLr.since hx hx4
      have hl4 := List.length_filter_le (fun y => !decide (y ∈ [x])) row
      generalize row.filter (fun y => !decide (y ∈ [x])) = row4 at *
      generalize dels M (row.filter (fun y => decide (y ∈ [x]))) = M4 at *
      clear k0 k1 k2 k3
      obtain ⟨k0, k1, k2, k3⟩ := cells4 (hx4'.blk0 hb0)
      clear hx4 hx hLr
      go_wp2_with fail
      refine (retire_lit (xs := [x]) hL4 hx4'.size (by simp; omega) (KR.one w4 x) 1).mono ?_
      rintro en w5 ⟨rv5, rfl, hL5, hx5, _⟩
      have hx5' := hL4.since hx4' hx5
      have hl5 := rets_len (E : Int) (row4, M4) [x]
      simp only [List.length_singleton] at hl5
      generalize rets (E : Int) (row4, M4) [x] = s5 at *
      clear k0 k1 k2 k3 hx5 hx4' hL4
      go_wp2_with fail
      refine (len_any w5 _ _ _ _ _ _ hL5).mono ?_
      rintro en w6 ⟨rfl, rfl⟩
      go_wp2_with fail
      go_loopw [10, 11] (fun n i wr => ∃ (k : Nat) (rv : Value) (row : List K) (M : List (K × Int)), k ≤ E + 1 ∧ n = .int .i64 row.length ∧ i = .int .i64 k ∧ LimboIs wr w0.heap.size g mb rv row M ∧ Ext none_ w0 wr ∧ Hid (Has x E row M) ∧ row.length ≤ 1000) (fun _ i _ => E + 1 - (intOf i).toNat)
      case atStart => exact ⟨0, _, _, _, Nat.zero_le _, rfl, rfl, hL5, hx5', Hhas, by omega⟩
      case round =>
        obtain ⟨k, rv, row, M, hk, rfl, rfl, hLr, hx, Hh, hlen⟩ := hrel
        clear hL5 hx5' Hhas hl5 hl4
        by_cases hlt : k ≤ E
        · go_wp2_with fail
          refine (take_any wr w0.heap.size g mb rv row M k hLr hx.size (by omega)).mono ?_
          rintro en w7 ⟨gv, rv7, rfl, hL7, hG7, hne7, hx7, hf7⟩
          have hx7' := hLr.since hx hx7
          obtain ⟨hnk, hH7⟩ := Hh.out.stays hLr.map.nodup (i := (k : Int)) (by omega)
          have HH7 := Lib.hid hH7
          have Hnk := Lib.hid hnk
          have hpl := part_len row (fun y => decide ((mget M y).getD 0 < (k : Int)))
          generalize row.filter (fun y => decide ((mget M y).getD 0 < (k : Int))) = gs at *
          generalize row.filter (fun y => !decide ((mget M y).getD 0 < (k : Int))) = ls at *
          generalize dels M gs = M7 at *
          obtain ⟨ga, gc, go, rfl, hgk, hgb⟩ := hG7.read
          clear hx7 hLr hx hH7 hnk hgb hne7 hf7
          have hsub : (row.length : Int) - (gs.length : Int) = (ls.length : Int) := by omega
          go_wp2_with fail
          clear hsub
          have hkx := Lib.hid (fun y (hy : y ∈ gs) => (fun e : y = x => Hnk.out (e ▸ hy) : ¬ y = x))
          go_loopw [13] (fun j w8 => ∃ (n : Nat), n ≤ gs.length ∧ j = .int .i64 n ∧ Ext none_ w7 w8) (fun j _ => gs.length - (intOf j).toNat)
          case atStart => exact ⟨0, Nat.zero_le _, rfl, Ext.refl _ _⟩
          case round =>
            obtain ⟨n, hn, rfl, hx8⟩ := hrel
            by_cases hlt2 : n < gs.length
            · obtain ⟨y, hyk⟩ : ∃ y, gs[n]? = some y := ⟨_, List.getElem?_eq_getElem hlt2⟩
              obtain ⟨d0, d1, d2, d3⟩ := (hgk.ext0 hx8).cell n y hyk
              simp only [Nat.zero_add] at d0 d1 d2 d3
              obtain ⟨k0, k1, k2, k3⟩ := cells4 ((hx7'.grow hx8).blk0 hb0)
              have ha := hgk.addr (by omega)
              subst ha
              have hne := key_eql y x
              have hyx := hkx.out y (List.mem_of_getElem? hyk)
              rw [decide_eq_false hyx] at hne
              unfold K.val at hne
              have Hyx := Lib.hid hyx
              clear hyx
              go_wp2
              go_quiet (fail)
              clear hne
              have hx9 := hx8.grow (Ext.drewN wr nq)
              go_wp2
              exact ⟨⟨n + 1, by omega, by simp, hx9⟩, by simp [intOf]; omega⟩
            · have hnn : n = gs.length := by omega
              subst hnn
              go_wp2
              exact ⟨⟨k + 1, rv7, ls, M7, by omega, rfl, by simp, hL7.ext0 hx8, hx7'.grow hx8, HH7, by omega⟩, by simp [intOf]; omega⟩
        · have hkE : k = E + 1 := by omega
          subst hkE
          obtain ⟨k0, k1, k2, k3⟩ := cells4 (hx.blk0 hb0)
          obtain ⟨hg1, hg2, hg3⟩ := Hh.out.goes hLr.map.nodup
          have Hg1 := Lib.hid hg1
          have Hg2 := Lib.hid hg2
          have Hg3 := Lib.hid hg3
          clear hg1 hg2 hg3
          go_wp2_with fail
          refine (epoch_any wr _ _ _ _ _ _ x hLr).mono ?_
          rintro en w7 ⟨rfl, hx7⟩
          rw [Hh.out.get]
          simp only [Option.getD_some, Option.isSome_some]
          have hL7 := hLr.ext0 hx7
          have hx7' := hx.grow hx7
          clear k0 k1 k2 k3 hLr hx hx7
          go_wp2_with fail
          refine (len_any w7 _ _ _ _ _ _ hL7).mono ?_
          rintro en w8 ⟨rfl, rfl⟩
          go_wp2_with fail
          refine (take_any w7 w0.heap.size g mb rv row M (E + 1) hL7 hx7'.size (by omega)).mono ?_
          rintro en w8 ⟨gv, rv8, rfl, hL8, hG8, hne8, hx8, hf8⟩
          have hx8' := hL7.since hx7' hx8
          have hgl := List.length_filter_le (fun y => decide ((mget M y).getD 0 < (E : Int) + 1)) row
          generalize row.filter (fun y => decide ((mget M y).getD 0 < (E : Int) + 1)) = gs at *
          generalize row.filter (fun y => !decide ((mget M y).getD 0 < (E : Int) + 1)) = ls at *
          generalize dels M gs = M8 at *
          obtain ⟨ga, gc, go, rfl, hgk, hgb⟩ := hG8.read
          clear hx8 hL7 hx7' hgb hne8 hf8
          go_wp2_with fail
          go_loopw [16, 18] (fun f j w9 => ∃ (n : Nat), n ≤ gs.length ∧ f = .int .i64 ((gs.take n).count x : Nat) ∧ j = .int .i64 n ∧ Ext none_ w8 w9) (fun _ j _ => gs.length - (intOf j).toNat)
          case atStart => exact ⟨0, Nat.zero_le _, rfl, rfl, Ext.refl _ _⟩
          case round =>
            obtain ⟨n, hn, rfl, rfl, hx9⟩ := hrel
            by_cases hlt2 : n < gs.length
            · obtain ⟨y, hyk⟩ : ∃ y, gs[n]? = some y := ⟨_, List.getElem?_eq_getElem hlt2⟩
              obtain ⟨d0, d1, d2, d3⟩ := (hgk.ext0 hx9).cell n y hyk
              simp only [Nat.zero_add] at d0 d1 d2 d3
              obtain ⟨k0, k1, k2, k3⟩ := cells4 ((hx8'.grow hx9).blk0 hb0)
              have ha := hgk.addr (by omega)
              subst ha
              have hne := key_eql y x
              unfold K.val at hne
              have hcs := count_succ hyk x
              have hcl : (gs.take n).count x ≤ gs.length := Nat.le_trans List.count_le_length (List.length_take_le' _ _)
              generalize (gs.take n).count x = C at *
              have Hcs := Lib.hid hcs
              clear hcs
              go_wp2
              go_quiet (fail)
              clear hne
              have hxa := hx9.grow (Ext.drewN wr nq)
              by_cases hyx : y = x
              · rw [decide_eq_true hyx]
                have Hyx := Lib.hid hyx
                clear hyx
                go_wp2
                refine ⟨⟨n + 1, by omega, ?_, by simp, hxa⟩, by simp [intOf]; omega⟩
                rw [Hcs.out, if_pos Hyx.out]; simp
              · rw [decide_eq_false hyx]
                have Hyx := Lib.hid hyx
                clear hyx
                go_wp2
                refine ⟨⟨n + 1, by omega, ?_, by simp, hxa⟩, by simp [intOf]; omega⟩
                rw [Hcs.out, if_neg Hyx.out]; simp
            · have hnn : n = gs.length := by omega
              subst hnn
              rw [List.take_length, count_one Hg1.out Hg2.out]
              obtain ⟨k0, k1, k2, k3⟩ := cells4 ((hx8'.grow hx9).blk0 hb0)
              have hL9 := hL8.ext0 hx9
              have hx9' := hx8'.grow hx9
              clear hx9
              go_wp2_with fail
              refine (epoch_any wr _ _ _ _ _ _ x hL9).mono ?_
              rintro en wa ⟨rfl, hxa⟩
              rw [Hg3.out]
              go_wp2
              go_ret
              exact ⟨rfl, hx0.grow (hx9'.grow hxa)⟩

end Go.Proofs.Ytfjlclloddbkmaa
