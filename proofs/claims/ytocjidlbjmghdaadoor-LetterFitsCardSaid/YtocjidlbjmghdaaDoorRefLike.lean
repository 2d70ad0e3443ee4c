/- The walk of the reference's Like. -/
import Derived.Test.YtocjidlbjmghdaaDoorLike
namespace Go.Proofs.YtocjidlbjmghdaaDoor
open Go.RowKit Go.Cw

/-- a row of bools that the call owns -/
def BOwn (w : World) (base : Nat) (v : Value) (bs : List Bool) : Prop := w.ownsRow base 4 1 v bs.length (bs.map Value.bool)
theorem BOwn.nil (w : World) (base : Nat) : BOwn w base (.slice none 0 0) [] := ⟨rfl, .inl ⟨rfl, rfl⟩⟩
theorem BOwn.lt {w : World} {base : Nat} {v : Value} {bs : List Bool} (h : BOwn w base v bs) (k : Nat) (hk : v.ownBlock = some k) : base ≤ k ∧ k < w.heap.size := World.ownsRow.lt h k hk
theorem BOwn.ext {F : Nat → Prop} {w w' : World} {base : Nat} {v : Value} {bs : List Bool} (h : BOwn w base v bs) (hx : Ext F w w') (hF : ∀ b, v.ownBlock = some b → ¬ F b) : BOwn w' base v bs := by
  obtain ⟨h1, h2⟩ := h
  refine ⟨h1, ?_⟩
  rcases h2 with h2 | ⟨g, cap, cur, rfl, hb, hg, rest⟩
  · exact .inl h2
  · exact .inr ⟨g, cap, cur, rfl, hb, hx.blk hg (hF g rfl), rest⟩
theorem BOwn.ext0 {w w' : World} {base : Nat} {v : Value} {bs : List Bool} (h : BOwn w base v bs) (hx : Ext none_ w w') : BOwn w' base v bs := h.ext hx fun _ _ => id
theorem BOwn.base {w : World} {base base' : Nat} {v : Value} {bs : List Bool} (h : BOwn w base v bs) (hb : base' ≤ base) : BOwn w base' v bs := by
  obtain ⟨h1, h2⟩ := h
  refine ⟨h1, ?_⟩
  rcases h2 with h2 | ⟨g, cap, cur, rfl, hb', rest⟩
  · exact .inl h2
  · exact .inr ⟨g, cap, cur, rfl, Nat.le_trans hb hb', rest⟩
/-- A slice's address reads as these bools. -/
structure RB (w : World) (a : Option Addr) (bs : List Bool) (b : Nat) : Prop where
  addr : 0 < bs.length → a = some ⟨b, 0, none⟩
  cell : ∀ (j : Nat) (r : Bool), bs[j]? = some r → w.cell? ⟨b, j, none⟩ = some (.bool r)
theorem BOwn.read {w : World} {base : Nat} {v : Value} {bs : List Bool} (h : BOwn w base v bs) : ∃ a c b, v = .slice a bs.length c ∧ RB w a bs b ∧ (0 < bs.length → v.ownBlock = some b) := by
  rcases h.2 with ⟨rfl, h0⟩ | ⟨g, cap, cur, rfl, hb, hg, hc1, hc2, hc3, hc4⟩
  · rw [h0]
    exact ⟨none, 0, 0, rfl, ⟨fun h => by omega, fun j r hj => by
      have := (List.getElem?_eq_some_iff.1 hj).1; omega⟩, fun h => by omega⟩
  · refine ⟨_, cap, g, rfl, ⟨fun _ => rfl, fun j z hj => ?_⟩, fun _ => rfl⟩
    rw [cell_of hg]
    have hj' : (bs.map Value.bool)[j]? = some (.bool z) := by simp [hj]
    rw [← hc4, List.getElem?_take] at hj'
    split at hj'
    · simpa using hj'
    · cases hj'

theorem app_bool {ops : Array Oper} {rest : List Oper} {o : Oper} {a : Act} {Q : Exit → Act → World → Prop} {w : World} (hgd : o.guard = none) (s y : Operand) (ho : o.op = .call { callee := .builtin .append, args := #[s, y], argTypes := #[90, 90] })
    (base : Nat) (v : Value) (bs : List Bool) (x : Bool) (hown : BOwn w base v bs) (hs : a.eval s = v) (bk : Nat) (hx : a.eval y = .slice (some ⟨bk, 0, none⟩) 1 1) (hc : w.cell? ⟨bk, 0, none⟩ = some (.bool x))
    (hn : bs.length ≤ 1000000) (hb : base ≤ w.heap.size)
    (h : ∀ v' w', BOwn w' base v' (bs ++ [x]) → Ext (fun b => v.ownBlock = some b) w w' → wpList Tryd.prog ops Q rest (a.put o.dst v') w') :
    wpList Tryd.prog ops Q (o :: rest) a w := by
  obtain ⟨i0, hi, hz0, hz1, hz2⟩ := info_parts info4
  refine wpList_append_own w hgd s y 90 ho base 4 i0 _ 1 1 Tryd.underlying90 hi hz0 hz1 hz2 rfl (by decide) v _ _ hs hown ⟨bk, 0, none⟩ 1 1 [.bool x] hx rfl ?_ ?_ ?_ ?_ hb ?_
  · intro j u hj
    match j, hj with
    | 0, hj => simp at hj; subst hj; simpa [Addr.add] using hc
  · intro u hu; simp at hu; subst hu; rfl
  · unfold maxLen; omega
  · omega
  · intro v' w' h1 h2 _
    refine h v' w' ?_ ?_
    · unfold BOwn
      rw [List.length_append, List.map_append]
      exact h1
    · exact (Ext.grown h2).mono fun _ _ h => h.symm

theorem range_map_succ (f : Nat → Bool) (k : Nat) : (List.range (k + 1)).map f = (List.range k).map f ++ [f k] := by rw [List.range_succ, List.map_append]; rfl
theorem range_map_len (f : Nat → Bool) (k : Nat) : ((List.range k).map f).length = k := by simp
theorem range_map_get {f : Nat → Bool} {k j : Nat} (h : j < k) : ((List.range k).map f)[j]? = some (f j) := by simp [h]
theorem range_any_succ (f : Nat → Bool) (k : Nat) : (List.range (k + 1)).any f = ((List.range k).any f || f k) := by rw [List.range_succ, List.any_append]; simp
theorem nx_any {text : List Int} {f : Nat → Bool} (i : Nat) : nx text 42 f i = (List.range (i + 1)).any f := by
  rw [nx_star, Bool.eq_iff_iff, List.any_eq_true]
  simp only [decide_eq_true_eq, List.mem_range]
  constructor
  · rintro ⟨j, h1, h2⟩; exact ⟨j, by omega, h2⟩
  · rintro ⟨j, h1, h2⟩; exact ⟨j, by omega, h2⟩
theorem RR.blk {w : World} {a : Option Addr} {rs : List Nat} {b : Nat} (h : RR w a (zs rs) b 0) : b < w.heap.size ∨ rs.length = 0 := by
  by_cases h0 : rs.length = 0
  · exact .inr h0
  · left
    obtain ⟨r, hr⟩ : ∃ r, (zs rs)[0]? = some r := ⟨_, List.getElem?_eq_getElem (by rw [zs_len]; omega)⟩
    exact World.block_lt_of_cell? w _ (h.cell 0 r hr)
theorem RR.extF {F : Nat → Prop} {w w' : World} {a : Option Addr} {rs : List Nat} {b : Nat} (h : RR w a (zs rs) b 0) (hb : rs.length ≠ 0 → ¬ F b) (hx : Ext F w w') : RR w' a (zs rs) b 0 := by
  refine ⟨h.addr, fun j r hj => ?_⟩
  have hc := h.cell j r hj
  have hlt := World.block_lt_of_cell? w _ hc
  have hl := (List.getElem?_eq_some_iff.1 hj).1
  rw [zs_len] at hl
  exact (World.cell?_of_block (a := ⟨b, _, none⟩) (hx.block b hlt (hb (by omega)))).trans hc

set_option maxHeartbeats 8000000 in
set_option maxRecDepth 100000 in
theorem rlike_any (w : World) (s p : ByteArray) (hs : s.size ≤ 1000) (hp : p.size ≤ 1000) :
    Calls Tryd.prog 24 #[.string s, .string p] w fun e w' => e = .returned (.bool (likeP (zs (runes s)) (zs (runes p)))) ∧ Ext none_ w w' := by
  have hsl := runes_len s
  have hpl := runes_len p
  go_enter Tryd.func24, Tryd.ntmps24
  go_wp2_with fail
  refine (runes_any w s (by omega)).mono ?_
  rintro e w1 ⟨v1, rfl, hown1, hx1⟩
  obtain ⟨a1, c1, b1, rfl, hR1⟩ := hown1.read
  rw [zs_len]
  go_wp2_with fail
  refine (runes_any w1 p (by omega)).mono ?_
  rintro e w2 ⟨v2, rfl, hown2, hx2⟩
  obtain ⟨a2, c2, b2, rfl, hR2⟩ := hown2.read
  rw [zs_len]
  have hR1' := hR1.ext0 hx2
  have hx2' := hx1.grow hx2
  have hk1 := hR1'.blk
  have hk2 := hR2.blk
  generalize hts : runes s = ts at *
  generalize hps : runes p = ps at *
  have Hts := Lib.hid hts
  have Hps := Lib.hid hps
  have htl : ts.length ≤ 1000 := by omega
  have hql : ps.length ≤ 1000 := by omega
  clear hts hps hown1 hown2 hR1 hx1 hx2 hsl hpl hs hp
  go_wp2_with fail
  go_loopw [7, 8] (fun v i wr => ∃ k : Nat, k ≤ ts.length + 1 ∧ i = .int .i64 k ∧ BOwn wr w2.heap.size v ((List.range k).map first) ∧ Ext none_ w2 wr) (fun _ i _ => ts.length + 1 - (RowKit.intOf i).toNat)
  case atStart => exact ⟨0, by omega, rfl, BOwn.nil _ _, Ext.refl _ _⟩
  case round =>
    obtain ⟨k, hk, rfl, hB, hx⟩ := hrel
    by_cases hlt : k ≤ ts.length
    · have hd : decide ((k : Int) ≤ (ts.length : Int)) = true := by simp; omega
      have hb5 : w2.heap.size ≤ (wr.alloc (.cells #[.bool ((k : Int) == 0)] 4)).heap.size := by have := hx.size; simp; omega
      go_wp2_with (refine app_bool rfl _ _ rfl w2.heap.size _ ((List.range k).map first) ((k : Int) == 0) (hB.ext0 (Ext.alloc _ _)) rfl wr.heap.size rfl (cells1 (blk_new _ _)) (by rw [range_map_len]; omega) hb5 ?_)
      intro v6 w6 hB6 hx6
      have hB6' : BOwn w6 w2.heap.size v6 ((List.range (k + 1)).map first) := by
        rw [range_map_succ, show first k = ((k : Int) == 0) by unfold first; rw [Bool.eq_iff_iff]; simp]
        exact hB6
      have hx6' := (hx.grow (Ext.alloc wr (.cells #[.bool ((k : Int) == 0)] 4))).trans hx6 fun i hi hb => by have := (hB.lt i hb).1; omega
      clear hB6 hx6 hB hx
      go_wp2
      exact ⟨⟨k + 1, by omega, by simp, hB6', hx6'⟩, by simp [RowKit.intOf]; omega⟩
    · have hd : decide ((k : Int) ≤ (ts.length : Int)) = false := decide_eq_false (by omega)
      have hB6 := hB
      have hx6 := hx
      rw [show k = ts.length + 1 by omega] at hB6
      clear hk hB hx
      go_wp2_with fail
      clear hlt hd
      go_loopw [7, 9] (fun v i wr => ∃ k : Nat, k ≤ ps.length ∧ i = .int .i64 k ∧ BOwn wr w2.heap.size v ((List.range (ts.length + 1)).map (((zs ps).take k).foldl (fun f p => nx (zs ts) p f) first)) ∧ Ext none_ w2 wr) (fun _ i _ => ps.length - (RowKit.intOf i).toNat)
      case atStart => exact ⟨0, by omega, rfl, hB6, hx6⟩
      case round =>
        obtain ⟨k, hk, rfl, hB, hx⟩ := hrel
        obtain ⟨ar, cr, br, rfl, hRB, hob⟩ := hB.read
        rw [range_map_len] at hB hob ⊢
        have hRl := hRB.addr (by rw [range_map_len]; omega)
        subst hRl
        have hobr := hob (by omega)
        have hlt2 := hx.size
        have hbrl : br < wr.heap.size := (hB.lt br hobr).2
        have hRBc : ∀ j, j ≤ ts.length → wr.cell? ⟨br, j, none⟩ = some (.bool ((((zs ps).take k).foldl (fun f p => nx (zs ts) p f) first) j)) := fun j hj => hRB.cell j _ (range_map_get (by omega))
        by_cases hlt : k < ps.length
        · obtain ⟨r, hrk⟩ : ∃ r, ps[k]? = some r := ⟨_, List.getElem?_eq_getElem hlt⟩
          have hzk := zs_get hrk
          have Htk : Hid (((zs ps).take (k + 1)).foldl (fun f p => nx (zs ts) p f) first = nx (zs ts) r (((zs ps).take k).foldl (fun f p => nx (zs ts) p f) first)) := Lib.hid (by
            obtain ⟨hl', e⟩ := List.getElem?_eq_some_iff.1 hzk
            rw [List.take_succ_eq_append_getElem hl', List.foldl_append, e]; rfl)
          have hpc := (hR2.ext0 hx).cell k r hzk
          have ha2 := hR2.addr (by rw [zs_len]; omega)
          subst ha2
          simp only [Nat.zero_add] at hpc
          have hRt := hR1'.ext0 hx
          generalize ((zs ps).take k).foldl (fun f p => nx (zs ts) p f) first = f at *
          clear hrk hzk hRB hob
          go_wp2_with fail
          obtain ⟨wk, rfl⟩ : ∃ wk, wk = wr := ⟨_, rfl⟩
          go_loopw [10, 11] (fun v i wz => ∃ j : Nat, j ≤ ts.length + 1 ∧ i = .int .i64 j ∧ BOwn wz wk.heap.size v ((List.range j).map (nx (zs ts) r f)) ∧ Ext none_ wk wz) (fun _ i _ => ts.length + 1 - (RowKit.intOf i).toNat)
          case atStart => exact ⟨0, by omega, rfl, BOwn.nil _ _, Ext.refl _ _⟩
          case round =>
            obtain ⟨j, hj, rfl, hN, hxz⟩ := hrel
            obtain ⟨wz, rfl⟩ : ∃ wz, wz = wr := ⟨_, rfl⟩
            have hsz := hxz.size
            by_cases hjl : j ≤ ts.length
            · have hdj : decide ((j : Int) ≤ (ts.length : Int)) = true := by simp; omega
              have hpz := cell_ext0 hxz hpc
              have hend : ∀ (wy : World) (x : Bool), Ext none_ wk wy → x = nx (zs ts) r f j → ∀ v, BOwn wy wk.heap.size v ((List.range j).map (nx (zs ts) r f) ++ [x]) → BOwn wy wk.heap.size v ((List.range (j + 1)).map (nx (zs ts) r f)) := by
                intro wy x _ hx v hv
                rw [range_map_succ, ← hx]; exact hv
              by_cases h42 : r = 42
              · have hd42 : ((r : Int) == 42) = true := by simp [h42]
                have Hnx : Hid (nx (zs ts) r f j = (List.range (j + 1)).any f) := Lib.hid (by rw [h42]; exact nx_any j)
                have hfz : ∀ m, m ≤ ts.length → wz.cell? ⟨br, m, none⟩ = some (.bool (f m)) := fun m hm => cell_ext0 hxz (hRBc m hm)
                clear h42
                go_wp2_with fail
                go_loopw [12, 13] (fun q i wy => ∃ m : Nat, m ≤ j + 1 ∧ i = .int .i64 m ∧ q = .bool ((List.range m).any f) ∧ wy = wz) (fun _ i _ => j + 1 - (RowKit.intOf i).toNat)
                case atStart => exact ⟨0, by omega, rfl, rfl, rfl⟩
                case round =>
                  obtain ⟨m, hm, rfl, rfl, e⟩ := hrel
                  subst e
                  by_cases hmj : m ≤ j
                  · have hdm : decide ((m : Int) ≤ (j : Int)) = true := by simp; omega
                    have hfm := hfz m (by omega)
                    have Hst : Hid ((List.range (m + 1)).any f = ((List.range m).any f || f m)) := Lib.hid (range_any_succ f m)
                    generalize (List.range m).any f = q at *
                    cases q
                    · go_wp2
                      exact ⟨⟨m + 1, by omega, by simp, by rw [Hst.out]; rfl, trivial⟩, by simp [RowKit.intOf]; omega⟩
                    · go_wp2
                      exact ⟨⟨m + 1, by omega, by simp, by rw [Hst.out]; rfl, trivial⟩, by simp [RowKit.intOf]; omega⟩
                  · have hmn : m = j + 1 := by omega
                    subst hmn
                    have hdm : decide (((j + 1 : Nat) : Int) ≤ (j : Int)) = false := decide_eq_false (by omega)
                    generalize hq : (List.range (j + 1)).any f = q at *
                    have Hq := Lib.hid hq
                    clear hq hfz hm
                    have hb5 : wk.heap.size ≤ (wr.alloc (.cells #[.bool q] 4)).heap.size := by have := hxz.size; simp; omega
                    go_wp2_with (refine app_bool rfl _ _ rfl wk.heap.size _ ((List.range j).map (nx (zs ts) r f)) q (hN.ext0 (Ext.alloc _ _)) rfl wr.heap.size rfl (cells1 (blk_new _ _)) (by rw [range_map_len]; omega) hb5 ?_)
                    intro v6 w6 hB6 hx6
                    have hx6' := (hxz.grow (Ext.alloc wr (.cells #[.bool q] 4))).trans hx6 fun i hi hb => by have := (hN.lt i hb).1; omega
                    have hB7 := hend w6 q hx6' (by rw [Hnx.out]) v6 hB6
                    clear hB6 hx6 hb5 hend
                    go_wp2
                    exact ⟨⟨j + 1, by omega, by simp, hB7, hx6'⟩, by simp [RowKit.intOf]; omega⟩
              · have hd42 : ((r : Int) == 42) = false := by simp; omega
                have H42 : Hid (¬ ((r : Int) = 42)) := Lib.hid (by omega)
                clear h42
                by_cases h0 : j = 0
                · have hgt : decide (0 < (j : Int)) = false := decide_eq_false (by omega)
                  have Hnx : Hid (nx (zs ts) r f j = false) := Lib.hid (by rw [h0]; unfold nx; rw [decide_eq_false H42.out]; rfl)
                  have hn0 : ¬ 0 < j := by omega
                  clear h0
                  go_wp2_with fail
                  go_quiet (fail)
                  have hN' := hN.ext0 (Ext.drewN wz nq)
                  have hxz' := hxz.grow (Ext.drewN wz nq)
                  clear hN hxz
                  generalize wz.drewN nq = wq at *
                  have hb5 : wk.heap.size ≤ (wq.alloc (.cells #[.bool false] 4)).heap.size := by have := hxz'.size; simp; omega
                  go_wp2_with (refine app_bool rfl _ _ rfl wk.heap.size _ ((List.range j).map (nx (zs ts) r f)) false (hN'.ext0 (Ext.alloc _ _)) rfl wq.heap.size rfl (cells1 (blk_new _ _)) (by rw [range_map_len]; omega) hb5 ?_)
                  intro v6 w6 hB6 hx6
                  have hx6' := (hxz'.grow (Ext.alloc wq (.cells #[.bool false] 4))).trans hx6 fun i hi hb => by have := (hN'.lt i hb).1; omega
                  have hB7 := hend w6 false hx6' (by rw [Hnx.out]) v6 hB6
                  clear hB6 hx6 hb5 hend
                  go_wp2
                  exact ⟨⟨j + 1, by omega, by simp, hB7, hx6'⟩, by simp [RowKit.intOf]; omega⟩
                · obtain ⟨j0, hj0⟩ : ∃ j0, j = j0 + 1 := ⟨j - 1, by omega⟩
                  have hgt : decide (0 < (j : Int)) = true := decide_eq_true (by omega)
                  have hn0 : 0 < j := by omega
                  obtain ⟨t, ht⟩ : ∃ t, ts[j0]? = some t := ⟨_, List.getElem?_eq_getElem (by omega)⟩
                  have htz := zs_get ht
                  have hcj : (j : Int) - 1 = (j0 : Int) := by omega
                  have htc := cell_ext0 hxz (hRt.cell j0 t htz)
                  have hfc := cell_ext0 hxz (hRBc j0 (by omega))
                  have ha1 := hRt.addr (by rw [zs_len]; omega)
                  subst ha1
                  simp only [Nat.zero_add] at htc
                  have Htz := Lib.hid htz
                  have Hj0 := Lib.hid hj0
                  clear htz ht hj0 h0
                  by_cases hh : r = 63 ∨ r = t
                  · have Hnx : Hid (nx (zs ts) r f j = f j0) := Lib.hid (by
                      have h2 := H42.out
                      rw [Hj0.out]; unfold nx; rw [if_neg h2, Htz.out]
                      rcases hh with hh | hh
                      · rw [decide_eq_true (show (r : Int) = 63 by omega)]; rfl
                      · rw [decide_eq_true (show some (r : Int) = some (t : Int) by rw [hh]), Bool.or_true]; rfl)
                    by_cases h63 : r = 63
                    · have h63d : ((r : Int) == 63) = true := by simp [h63]
                      clear hh h63
                      go_wp2_with fail
                      go_quiet (fail)
                      have hN' := hN.ext0 (Ext.drewN wz nq)
                      have hxz' := hxz.grow (Ext.drewN wz nq)
                      have hfq := cell_ext0 (Ext.drewN wz nq) hfc
                      clear hN hxz hfc
                      generalize wz.drewN nq = wq at *
                      have hb5 : wk.heap.size ≤ (wq.alloc (.cells #[.bool (f j0)] 4)).heap.size := by have := hxz'.size; simp; omega
                      go_wp2_with (refine app_bool rfl _ _ rfl wk.heap.size _ ((List.range j).map (nx (zs ts) r f)) (f j0) (hN'.ext0 (Ext.alloc _ _)) rfl wq.heap.size rfl (cells1 (blk_new _ _)) (by rw [range_map_len]; omega) hb5 ?_)
                      intro v6 w6 hB6 hx6
                      have hx6' := (hxz'.grow (Ext.alloc wq (.cells #[.bool (f j0)] 4))).trans hx6 fun i hi hb => by have := (hN'.lt i hb).1; omega
                      have hB7 := hend w6 (f j0) hx6' (by rw [Hnx.out]) v6 hB6
                      clear hB6 hx6 hb5 hend
                      go_wp2
                      exact ⟨⟨j + 1, by omega, by simp, hB7, hx6'⟩, by simp [RowKit.intOf]; omega⟩
                    · have h63d : ((r : Int) == 63) = false := by simp; omega
                      have hrt : ((r : Int) == (t : Int)) = true := by
                        rcases hh with hh | hh
                        · exact absurd hh h63
                        · simp [hh]
                      clear hh h63
                      go_wp2_with fail
                      go_quiet (fail)
                      have hN' := hN.ext0 (Ext.drewN wz nq)
                      have hxz' := hxz.grow (Ext.drewN wz nq)
                      have hfq := cell_ext0 (Ext.drewN wz nq) hfc
                      clear hN hxz hfc
                      generalize wz.drewN nq = wq at *
                      have hb5 : wk.heap.size ≤ (wq.alloc (.cells #[.bool (f j0)] 4)).heap.size := by have := hxz'.size; simp; omega
                      go_wp2_with (refine app_bool rfl _ _ rfl wk.heap.size _ ((List.range j).map (nx (zs ts) r f)) (f j0) (hN'.ext0 (Ext.alloc _ _)) rfl wq.heap.size rfl (cells1 (blk_new _ _)) (by rw [range_map_len]; omega) hb5 ?_)
                      intro v6 w6 hB6 hx6
                      have hx6' := (hxz'.grow (Ext.alloc wq (.cells #[.bool (f j0)] 4))).trans hx6 fun i hi hb => by have := (hN'.lt i hb).1; omega
                      have hB7 := hend w6 (f j0) hx6' (by rw [Hnx.out]) v6 hB6
                      clear hB6 hx6 hb5 hend
                      go_wp2
                      exact ⟨⟨j + 1, by omega, by simp, hB7, hx6'⟩, by simp [RowKit.intOf]; omega⟩
                  · have h63d : ((r : Int) == 63) = false := by simp; omega
                    have hrt : ((r : Int) == (t : Int)) = false := by simp; omega
                    have Hnx : Hid (nx (zs ts) r f j = false) := Lib.hid (by
                      have h2 := H42.out
                      rw [Hj0.out]; unfold nx; rw [if_neg h2, Htz.out, decide_eq_false (show ¬ (r : Int) = 63 by omega), decide_eq_false (show ¬ some (r : Int) = some (t : Int) by simp; omega)]; rfl)
                    clear hh
                    go_wp2_with fail
                    go_quiet (fail)
                    have hN' := hN.ext0 (Ext.drewN wz nq)
                    have hxz' := hxz.grow (Ext.drewN wz nq)
                    have hfq := cell_ext0 (Ext.drewN wz nq) hfc
                    clear hN hxz hfc
                    generalize wz.drewN nq = wq at *
                    have hb5 : wk.heap.size ≤ (wq.alloc (.cells #[.bool false] 4)).heap.size := by have := hxz'.size; simp; omega
                    go_wp2_with (refine app_bool rfl _ _ rfl wk.heap.size _ ((List.range j).map (nx (zs ts) r f)) false (hN'.ext0 (Ext.alloc _ _)) rfl wq.heap.size rfl (cells1 (blk_new _ _)) (by rw [range_map_len]; omega) hb5 ?_)
                    intro v6 w6 hB6 hx6
                    have hx6' := (hxz'.grow (Ext.alloc wq (.cells #[.bool false] 4))).trans hx6 fun i hi hb => by have := (hN'.lt i hb).1; omega
                    have hB7 := hend w6 false hx6' (by rw [Hnx.out]) v6 hB6
                    clear hB6 hx6 hb5 hend
                    go_wp2
                    exact ⟨⟨j + 1, by omega, by simp, hB7, hx6'⟩, by simp [RowKit.intOf]; omega⟩
            · have hjn : j = ts.length + 1 := by omega
              subst hjn
              have hdj : decide (((ts.length + 1 : Nat) : Int) ≤ (ts.length : Int)) = false := decide_eq_false (by omega)
              go_wp2
              exact ⟨⟨k + 1, by omega, by simp, by rw [Htk.out]; exact hN.base hlt2, hx.grow hxz⟩, by simp [RowKit.intOf]; omega⟩
        · have hkn : k = ps.length := by omega
          subst hkn
          have hcl := hRBc ts.length (Nat.le_refl _)
          have hlp : likeP (zs ts) (zs ps) = (((zs ps).take ps.length).foldl (fun f p => nx (zs ts) p f) first) ts.length := by
            unfold likeP; rw [zs_len, List.take_of_length_le (by rw [zs_len]; omega)]
          rw [← hlp] at hcl
          have Hl := Lib.hid hlp
          clear hlp hRBc hB hRB
          generalize hq : likeP (zs ts) (zs ps) = q at *
          have Hq := Lib.hid hq
          clear hq
          go_wp2
          go_ret
          exact ⟨ret_bool (by rw [Hts.out, Hps.out, Hq.out]), hx2'.grow hx⟩

end Go.Proofs.YtocjidlbjmghdaaDoor
