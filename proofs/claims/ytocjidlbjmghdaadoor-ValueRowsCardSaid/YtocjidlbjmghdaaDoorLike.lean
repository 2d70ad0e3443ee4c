/- The walk of Like. -/
import Derived.Test.YtocjidlbjmghdaaDoorLikePlain
import Derived.Laws.MakeOwn
namespace Go.Proofs.YtocjidlbjmghdaaDoor
open Go.RowKit Go.Cw

theorem RR.ext {w w' : World} {rs : List Nat} {b fb : Nat} (h : RR w (some ⟨b, 0, none⟩) (zs rs) b 0) (hb : b < fb ∨ rs.length = 0) (hx : Ext (· = fb) w w') : RR w' (some ⟨b, 0, none⟩) (zs rs) b 0 := by
  refine ⟨h.addr, fun j r hj => ?_⟩
  have hc := h.cell j r hj
  have hlt := World.block_lt_of_cell? w _ hc
  have hne : b ≠ fb := by
    rcases hb with hb | hb
    · omega
    · have := (List.getElem?_eq_some_iff.1 hj).1
      rw [zs_len] at this; omega
  exact (World.cell?_of_block (a := ⟨b, _, none⟩) (hx.block b hlt hne)).trans hc

theorem info4 : (Tryd.prog.info? 4).map (fun i => (i.zero, i.size, i.bytes)) = some (some (.bool false), 1, 1) := by kernel_rfl

/-- Block b is a row of n bools: at k and beyond false, before it f. -/
def BR (w : World) (b n k : Nat) (f : Nat → Bool) : Prop :=
  ∃ c : Array Value, c.size = n ∧ w.heap[b]? = some (.cells c 4 (0, 0)) ∧ ∀ (j : Nat), j < n → c[j]? = some (.bool (if j < k then f j else false))
theorem BR.cell {w : World} {b n k : Nat} {f : Nat → Bool} (h : BR w b n k f) {j : Nat} (hj : j < n) : w.cell? ⟨b, j, none⟩ = some (.bool (if j < k then f j else false)) := by
  obtain ⟨c, _, hb, hc⟩ := h
  rw [cell_of hb]; exact hc j hj
theorem BR.frozen {w : World} {b n k : Nat} {f : Nat → Bool} (h : BR w b n k f) (j : Nat) : w.frozen? ⟨b, j, none⟩ = false := by
  obtain ⟨c, _, hb, hc⟩ := h
  exact frozen_of hb j
theorem BR.lt {w : World} {b n k : Nat} {f : Nat → Bool} (h : BR w b n k f) : b < w.heap.size := by
  obtain ⟨c, _, hb, hc⟩ := h
  exact Cw.blk_lt hb
theorem BR.set {w : World} {b n k : Nat} {f : Nat → Bool} (h : BR w b n k f) {v : Bool} (hv : v = f k) : BR (w.setCell ⟨b, k, none⟩ (.bool v)) b n (k + 1) f := by
  obtain ⟨c, hs, hb, hc⟩ := h
  refine ⟨c.setIfInBounds k (.bool v), by simp [hs], blk_set hb k _, fun j hj => ?_⟩
  rw [Array.getElem?_setIfInBounds]
  by_cases e : k = j
  · subst e; rw [if_pos rfl, if_pos (by omega), if_pos (by omega), hv]
  · rw [if_neg e, hc j hj]
    by_cases hjk : j < k
    · rw [if_pos hjk, if_pos (by omega)]
    · rw [if_neg hjk, if_neg (by omega)]
/-- what isn't written stays false -/
theorem BR.skip {w : World} {b n k : Nat} {f : Nat → Bool} (h : BR w b n k f) (hf : f k = false) : BR w b n (k + 1) f := by
  obtain ⟨c, hs, hb, hc⟩ := h
  refine ⟨c, hs, hb, fun j hj => ?_⟩
  rw [hc j hj]
  by_cases hjk : j < k
  · rw [if_pos hjk, if_pos (by omega)]
  · rw [if_neg hjk]
    by_cases e : j = k
    · subst e; rw [if_pos (by omega), hf]
    · rw [if_neg (by omega)]
theorem BR.ext {F : Nat → Prop} {w w' : World} {b n k : Nat} {f : Nat → Bool} (h : BR w b n k f) (hx : Ext F w w') (hF : ¬ F b) : BR w' b n k f := by
  obtain ⟨c, hs, hb, hc⟩ := h
  exact ⟨c, hs, hx.blk hb hF, hc⟩

/-- the whole row -/
theorem BR.full {w : World} {b n k : Nat} {f : Nat → Bool} (h : BR w b n k f) (hf : ∀ j, k ≤ j → f j = false) : BR w b n n f := by
  obtain ⟨c, hs, hb, hc⟩ := h
  refine ⟨c, hs, hb, fun j hj => ?_⟩
  rw [hc j hj, if_pos hj]
  by_cases hjk : j < k
  · rw [if_pos hjk]
  · rw [if_neg hjk, hf j (by omega)]
theorem BR.ne_iter {w : World} {b n k it pos : Nat} {f : Nat → Bool} {s : ByteArray} (h : BR w b n k f) (hi : IterIs w it s pos) : b ≠ it := by
  rintro rfl
  obtain ⟨c, _, hb, _⟩ := h
  rw [show w.heap[b]? = some (.stringIter s pos) from hi] at hb
  cases hb
/-- 'make([]bool, n)' -/
theorem make_row (w : World) (n : Nat) (f : Nat → Bool) (hn : n ≤ 100000) :
    ∃ w', (Instr.makeSlice 90 (.int .i64 n) (.int .i64 n)).run Tryd.prog w = .ok (.slice (some ⟨w.heap.size, 0, none⟩) n n) w' ∧ BR w' w.heap.size n 0 f ∧ Ext none_ w w' := by
  obtain ⟨i0, hi, hz0, hz1, hz2⟩ := info_parts info4
  have hr := run_make (P := Tryd.prog) w 90 4 i0 _ Tryd.underlying90 hi hz0 .i64 .i64 n n (by omega) (Int.le_refl _) (by rw [hz2]; omega) (by omega)
  rw [hz1] at hr
  simp only [Int.toNat_natCast, Nat.mul_one] at hr
  refine ⟨_, hr, ⟨_, by simp [size_madeCells], blk_new w _, fun j hj => ?_⟩, Ext.alloc _ _⟩
  simp [madeCells, hj, Value.cells, Nat.mod_one]

set_option maxHeartbeats 2000000 in
set_option maxRecDepth 100000 in
theorem like_many (w : World) (s p : ByteArray) (hs : s.size ≤ 100000) (hp : p.size ≤ 100000) (h : 200 < (runes s).length ∨ 200 < (runes p).length) :
    Calls Tryd.prog 22 #[.string s, .string p] w fun e w' => e = .returned (.tuple #[.bool false, .int .i64 32]) ∧ Ext none_ w w' := by
  go_enter Tryd.func22, Tryd.ntmps22
  go_wp2_with fail
  refine (count_any w s hs).mono ?_
  rintro e w1 ⟨rfl, hx1⟩
  generalize (runes s).length = n at *
  by_cases h1 : 200 < n
  · have hd : decide (200 < (n : Int)) = true := by simp; omega
    clear h h1
    go_wp2
    go_ret2
    exact ⟨rfl, hx1⟩
  · have hd : decide (200 < (n : Int)) = false := by simp; omega
    go_wp2_with fail
    refine (count_any w1 p hp).mono ?_
    rintro e w2 ⟨rfl, hx2⟩
    generalize (runes p).length = m at *
    have hd2 : decide (200 < (m : Int)) = true := by simp; omega
    clear h h1
    go_wp2
    go_ret2
    exact ⟨rfl, hx1.grow hx2⟩

set_option maxHeartbeats 4000000 in
set_option maxRecDepth 100000 in
theorem like_any (w : World) (s p : ByteArray) (hs : s.size ≤ 100000) (hp : p.size ≤ 100000) (h1 : (runes s).length ≤ 200) (h2 : (runes p).length ≤ 200) :
    Calls Tryd.prog 22 #[.string s, .string p] w fun e w' => e = .returned (.tuple #[.bool (likeP (zs (runes s)) (zs (runes p))), .int .i64 0]) ∧ Ext none_ w w' := by
  go_enter Tryd.func22, Tryd.ntmps22
  go_wp2_with fail
  refine (count_any w s hs).mono ?_
  rintro e w1 ⟨rfl, hx1⟩
  have hd : decide (200 < ((runes s).length : Int)) = false := by simp; omega
  go_wp2_with fail
  refine (count_any w1 p hp).mono ?_
  rintro e w2 ⟨rfl, hx2⟩
  have hd2 : decide (200 < ((runes p).length : Int)) = false := by simp; omega
  obtain ⟨c3, w3, hr3, hR3, hx3⟩ := conv_runes w2 s hs
  have hx3' := (hx1.grow hx2).grow hx3
  have hlb3 : w.heap.size ≤ w2.heap.size := (hx1.grow hx2).size
  generalize hts : runes s = ts at *
  have Hts := Lib.hid hts
  generalize w2.heap.size = tb at *
  clear hts hx1 hx2 hx3
  obtain ⟨w4, hr4, hB4, hx4⟩ := make_row w3 (ts.length + 1) first (by omega)
  have hcast : ((ts.length + 1 : Nat) : Int) = (ts.length : Int) + 1 := by omega
  rw [hcast] at hr4
  have hc0 := hB4.cell (j := 0) (by omega)
  have hf0 := hB4.frozen 0
  have hB5 := hB4.set (k := 0) (v := true) rfl
  have hy5 := Ext.setCell w4 ⟨w3.heap.size, 0, none⟩ (.bool true)
  have hlb4 : w.heap.size ≤ w3.heap.size := hx3'.size
  have hx5' := (hx3'.grow hx4).trans hy5 fun i hi e => by simp at e; omega
  have htb : tb < w3.heap.size ∨ ts.length = 0 := by
    by_cases h0 : ts.length = 0
    · exact .inr h0
    · left
      obtain ⟨r, hr⟩ : ∃ r, (zs ts)[0]? = some r := ⟨_, List.getElem?_eq_getElem (by rw [zs_len]; omega)⟩
      exact World.block_lt_of_cell? w3 _ (hR3.cell 0 r hr)
  have hlt4 := hB4.lt
  clear hcast
  generalize w3.heap.size = fb at *
  have hR4 := (hR3.ext0 hx4).ext htb hy5
  go_wp2_with fail
  have hit : IterIs ((w4.setCell ⟨fb, 0, none⟩ (.bool true)).iter p 0) w4.heap.size p 0 := by
    have := World.iter_heap (w4.setCell ⟨fb, 0, none⟩ (.bool true)) p 0
    rwa [show (w4.setCell ⟨fb, 0, none⟩ (.bool true)).heap.size = w4.heap.size by simp [World.setCell]] at this
  have hxi : Ext none_ (w4.setCell ⟨fb, 0, none⟩ (.bool true)) ((w4.setCell ⟨fb, 0, none⟩ (.bool true)).iter p 0) := Ext.alloc _ _
  have hB6 := (hB5.ext hxi id).full (fun j hj => by simp [first]; omega)
  have hR6 := hR4.ext0 hxi
  have hx6 := hx5'.grow hxi
  have hitw : w.heap.size ≤ w4.heap.size := by omega
  generalize (w4.setCell ⟨fb, 0, none⟩ (.bool true)).iter p 0 = w6 at *
  generalize w4.heap.size = it at *
  clear hB4 hc0 hf0 hB5 hy5 hx5' hR4 hxi hr3 hr4 hR3 hx3' hx4 hd hd2
  go_loopw [7] (fun v wr => ∃ (pos fb : Nat) (pre : List Nat), v = .slice (some ⟨fb, 0, none⟩) (ts.length + 1) (ts.length + 1) ∧ IterIs wr it p pos ∧ BR wr fb (ts.length + 1) (ts.length + 1) ((zs pre).foldl (fun f p => nx (zs ts) p f) first) ∧
      RR wr (some ⟨tb, 0, none⟩) (zs ts) tb 0 ∧ Ext none_ w wr ∧ Hid (pre ++ rest p pos = runes p) ∧ w.heap.size ≤ fb ∧ (tb < fb ∨ ts.length = 0)) (fun _ wr => p.size - wr.iterPos it)
  case atStart => exact ⟨0, fb, [], rfl, hit, hB6, hR6, hx6, Lib.hid (by rw [rest_zero]; rfl), hlb4, htb⟩
  case round =>
    obtain ⟨pos, fb, pre, rfl, hir, hB, hR, hx, Hok, hfw, htf⟩ := hrel
    clear hB6 hR6 hx6 hit
    go_wp2_with (refine wpList_nextStr rfl _ rfl rfl hir ?_ ?_)
    · intro hpos
      have Hre := Lib.hid (rest_end (show ¬ pos < p.size by omega))
      have hcn := hB.cell (j := ts.length) (by omega)
      rw [if_pos (by omega)] at hcn
      have hpe : pre = runes p := by have := Hok.out; rw [Hre.out, List.append_nil] at this; exact this
      have Hpe := Lib.hid hpe
      clear hpe
      generalize hfv : (zs pre).foldl (fun f p => nx (zs ts) p f) first = f at *
      have Hfv := Lib.hid hfv
      clear hfv
      go_wp2
      go_ret2
      refine ⟨?_, hx⟩
      rw [Hts.out, ← Hpe.out]
      unfold likeP
      rw [Hfv.out, zs_len]; rfl
    · intro hpos
      have Hrm := Lib.hid (rest_more hpos)
      have hge := decode_ge p pos hpos
      have hir' := hir.set (pos + (Utf8.decode p pos).2)
      have hsx := setIter_ext wr it p (pos + (Utf8.decode p pos).2)
      have hfi : fb ≠ it := hB.ne_iter hir
      have hB' := hB.ext hsx (fun e => hfi e)
      have hR' : RR (setIter wr it p (pos + (Utf8.decode p pos).2)) (some ⟨tb, 0, none⟩) (zs ts) tb 0 := by
        refine ⟨hR.addr, fun j r hj => ?_⟩
        have hc := hR.cell j r hj
        have hlt := World.block_lt_of_cell? wr _ hc
        have hne : tb ≠ it := by
          rintro rfl
          have hi : wr.heap[tb]? = some (.stringIter p pos) := hir
          simp [World.cell?, hi] at hc
        exact (World.cell?_of_block (a := ⟨tb, _, none⟩) (hsx.block tb hlt hne)).trans hc
      have hx' := hx.trans hsx fun i hi e => by omega
      have hip := iterPos_of hir
      clear hsx hir hB hR hx
      generalize setIter wr it p (pos + (Utf8.decode p pos).2) = w5 at *
      generalize (Utf8.decode p pos).2 = d at *
      generalize (Utf8.decode p pos).1 = r at *
      generalize hfv : (zs pre).foldl (fun f p => nx (zs ts) p f) first = f at *
      have Hfv := Lib.hid hfv
      clear hfv
      obtain ⟨w7, hr7, hN7, hx7⟩ := make_row w5 (ts.length + 1) (nx (zs ts) r f) (by omega)
      have hcast : ((ts.length + 1 : Nat) : Int) = (ts.length : Int) + 1 := by omega
      rw [hcast] at hr7
      have hB7 := hB'.ext hx7 id
      have hR7 := hR'.ext0 hx7
      have hi7 := IterIs.ext hir' hx7 id
      have hx7' := hx'.grow hx7
      have hfn : fb < w5.heap.size := hB'.lt
      have hin : it < w5.heap.size := hir'.lt
      have hwn : w.heap.size ≤ w5.heap.size := hx'.size
      have htn : tb < w5.heap.size ∨ ts.length = 0 := by omega
      generalize w5.heap.size = nb at *
      clear hcast hir' hB' hR' hx' hx7
      go_wp2_with fail
      clear hr7
      go_loopw [38] (fun i wr => ∃ k : Nat, k ≤ ts.length + 1 ∧ i = .int .i64 k ∧ BR wr nb (ts.length + 1) k (nx (zs ts) r f) ∧ Ext (· = nb) w7 wr) (fun i _ => ts.length + 1 - (RowKit.intOf i).toNat)
      case atStart => exact ⟨0, Nat.zero_le _, rfl, hN7, Ext.refl _ _⟩
      case round =>
        obtain ⟨k, hk, rfl, hNk, hxk⟩ := hrel
        have hBk := hB7.ext hxk (fun e => by omega)
        have hRk := hR7.ext htn hxk
        by_cases hlt : k < ts.length + 1
        · have hfk := hBk.cell hlt
          rw [if_pos hlt] at hfk
          have hnk := hNk.cell hlt
          have hzk := hNk.frozen k
          have hcs : ∀ (v : Bool), v = nx (zs ts) r f k → BR (wr.setCell ⟨nb, k, none⟩ (.bool v)) nb (ts.length + 1) (k + 1) (nx (zs ts) r f) ∧ Ext (· = nb) w7 (wr.setCell ⟨nb, k, none⟩ (.bool v)) := fun v hv =>
            ⟨hNk.set hv, hxk.trans (Ext.setCell wr ⟨nb, k, none⟩ (.bool v)) fun i hi e => e⟩
          by_cases h42 : r = 42
          · have h42d : ((r : Int) == 42) = true := by simp [h42]
            cases hff : f k
            · rw [hff] at hfk
              by_cases h0 : k = 0
              · subst h0
                obtain ⟨hS1, hS2⟩ := hcs false (by rw [h42]; simp [nx, hff])
                clear hff hcs
                go_wp2
                exact ⟨⟨1, by omega, rfl, hS1, hS2⟩, by simp [RowKit.intOf]⟩
              · obtain ⟨j, rfl⟩ : ∃ j, k = j + 1 := ⟨k - 1, by omega⟩
                obtain ⟨hS1, hS2⟩ := hcs (nx (zs ts) r f j) (by rw [h42]; simp [nx, hff])
                have hpr := hNk.cell (j := j) (by omega)
                rw [if_pos (by omega)] at hpr
                have hc1 : ((j + 1 : Nat) : Int) - 1 = j := by omega
                have hgt : decide (0 < ((j + 1 : Nat) : Int)) = true := decide_eq_true (by omega)
                clear hff hcs h0
                go_wp2
                rw [show nx (zs ts) 42 f j = nx (zs ts) r f j by rw [h42]; rfl]
                exact ⟨⟨j + 2, by omega, by simp; omega, hS1, hS2⟩, by simp [RowKit.intOf]; omega⟩
            · rw [hff] at hfk
              obtain ⟨hS1, hS2⟩ := hcs true (by rw [h42]; cases k <;> simp [nx, hff])
              clear hff hcs
              go_wp2
              exact ⟨⟨k + 1, by omega, by simp, hS1, hS2⟩, by simp [RowKit.intOf]; omega⟩
          · have h42d : ((r : Int) == 42) = false := by simp; omega
            by_cases h0 : k = 0
            · subst h0
              have hS1 := hNk.skip (by simp [nx]; omega)
              clear hcs
              go_wp2
              exact ⟨⟨1, by omega, rfl, hS1, hxk⟩, by simp [RowKit.intOf]⟩
            · obtain ⟨j, rfl⟩ : ∃ j, k = j + 1 := ⟨k - 1, by omega⟩
              have hpr := hBk.cell (j := j) (by omega)
              rw [if_pos (by omega)] at hpr
              have hc1 : ((j + 1 : Nat) : Int) - 1 = j := by omega
              have hgt : decide (0 < ((j + 1 : Nat) : Int)) = true := decide_eq_true (by omega)
              obtain ⟨t, ht⟩ : ∃ t, ts[j]? = some t := ⟨_, List.getElem?_eq_getElem (by omega)⟩
              have htc := hRk.cell j t (zs_get ht)
              have Ht := Lib.hid (zs_get ht)
              simp only [Nat.zero_add] at htc
              have H42 := Lib.hid h42
              clear ht h42
              by_cases h63 : r = 63
              · have h63d : ((r : Int) == 63) = true := by simp [h63]
                obtain ⟨hS1, hS2⟩ := hcs (f j) (by simp [nx, h63])
                clear hcs h0 h63
                go_wp2
                exact ⟨⟨j + 2, by omega, by simp; omega, hS1, hS2⟩, by simp [RowKit.intOf]; omega⟩
              · have h63d : ((r : Int) == 63) = false := by simp; omega
                by_cases hrt : r = t
                · have hrd : ((r : Int) == (t : Int)) = true := by simp [hrt]
                  obtain ⟨hS1, hS2⟩ := hcs (f j) (by
                    have h4 := H42.out
                    have ht' := Ht.out
                    have h4' : ¬ ((t : Int) = 42) := by omega
                    simp only [nx, hrt, if_neg h4', ht']; simp)
                  clear hcs h0 h63 hrt
                  go_wp2
                  exact ⟨⟨j + 2, by omega, by simp; omega, hS1, hS2⟩, by simp [RowKit.intOf]; omega⟩
                · have hrd : ((r : Int) == (t : Int)) = false := by simp; omega
                  have hS1 := hNk.skip (by
                    have h4 := H42.out
                    have ht' := Ht.out
                    have h4' : ¬ ((r : Int) = 42) := by omega
                    have h6' : ¬ ((r : Int) = 63) := by omega
                    have ht2 : ¬ (some (r : Int) = some (t : Int)) := by simp; omega
                    simp only [nx, if_neg h4', ht', decide_eq_false h6', decide_eq_false ht2]; rfl)
                  clear hcs h0 h63 hrt
                  go_wp2
                  exact ⟨⟨j + 2, by omega, by simp; omega, hS1, hxk⟩, by simp [RowKit.intOf]; omega⟩
        · have hkn : k = ts.length + 1 := by omega
          subst hkn
          have hi8 := IterIs.ext hi7 hxk (fun e => by omega)
          have hx8 := hx7'.trans hxk fun i hi e => by omega
          have Hok2 : Hid ((pre ++ [r]) ++ rest p (pos + d) = runes p) := Lib.hid (by rw [← Hok.out, Hrm.out, List.append_assoc]; rfl)
          have hNf : BR wr nb (ts.length + 1) (ts.length + 1) ((zs (pre ++ [r])).foldl (fun f p => nx (zs ts) p f) first) := by
            have : (zs (pre ++ [r])).foldl (fun f p => nx (zs ts) p f) first = nx (zs ts) r f := by
              unfold zs at Hfv ⊢
              rw [List.map_append, List.foldl_append, Hfv.out]; rfl
            rw [this]; exact hNk
          go_wp2
          exact ⟨⟨pos + d, nb, pre ++ [r], rfl, hi8, hNf, hRk, hx8, Hok2, hwn, htn⟩, by rw [iterPos_of hi8, hip]; omega⟩

end Go.Proofs.YtocjidlbjmghdaaDoor
