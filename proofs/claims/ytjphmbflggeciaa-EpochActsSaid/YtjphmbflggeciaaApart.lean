/- The walk of EpochApart. -/
import Derived.Test.YtjphmbflggeciaaWaits
namespace Go.Proofs.Ytjphmbflggeciaa
open Go.RowKit Go.Cw

/-- one Act, read -/
structure A where
  kind : Int
  s : Z

/-- A slice's address reads as these Acts. -/
structure AR (w : World) (a : Option Addr) (xs : List A) (b off : Nat) : Prop where
  addr : 0 < xs.length → a = some ⟨b, off, none⟩
  cell : ∀ (j : Nat) (x : A), xs[j]? = some x → w.cell? ⟨b, off + j * 2, none⟩ = some (.int .i64 x.kind) ∧ w.cell? ⟨b, off + j * 2 + 1, none⟩ = some (.int .i64 x.s.1)
theorem AR.ext0 {w w' : World} {a : Option Addr} {xs : List A} {b off : Nat} (h : AR w a xs b off) (hx : Ext none_ w w') : AR w' a xs b off :=
  ⟨h.addr, fun j x hj => let ⟨c0, c1⟩ := h.cell j x hj; ⟨cell_ext0 hx c0, cell_ext0 hx c1⟩⟩

theorem TableIs.ext {F : Nat → Prop} {w w' : World} {base g mb : Nat} {ss gl : Int} {M : List (Z × Int)} (h : TableIs w base g mb ss gl M) (hx : Ext F w w') (h1 : ¬ F g) (h2 : ¬ F mb) : TableIs w' base g mb ss gl M :=
  ⟨hx.blk h.blk h1, h.map.ext hx h2, h.gb, h.mb⟩

theorem wf5 (k : Nat) (h : k < 5) : (Lit.int .i64 (k : Int)).wf = true := by
  match k, h with
  | 0, _ => decide
  | 1, _ => decide
  | 2, _ => decide
  | 3, _ => decide
  | 4, _ => decide
def zN (k : Nat) (h : k < 5) : Z := ⟨(k : Int), wf5 k h⟩

/-- an array of five holds these answers up to k -/
def Holds (w : World) (b : Nat) (t : TypeId) (k : Nat) (f : Z → Value) : Prop :=
  ∃ c : Array Value, c.size = 5 ∧ w.heap[b]? = some (.cells c t (0, 0)) ∧ ∀ (j : Nat) (h : j < 5), j < k → c[j]? = some (f (zN j h))
theorem Holds.cell {w : World} {b : Nat} {t : TypeId} {k : Nat} {f : Z → Value} (h : Holds w b t k f) {j : Nat} (hj : j < 5) (hk : j < k) : w.cell? ⟨b, j, none⟩ = some (f (zN j hj)) := by
  obtain ⟨c, _, hb, hc⟩ := h
  rw [cell_of hb]; exact hc j hj hk
theorem Holds.some {w : World} {b : Nat} {t : TypeId} {k : Nat} {f : Z → Value} (h : Holds w b t k f) {j : Nat} (hj : j < 5) : ∃ v, w.cell? ⟨b, j, none⟩ = some v := by
  obtain ⟨c, hs, hb, hc⟩ := h
  rw [cell_of hb]; exact ⟨c[j], Array.getElem?_eq_getElem (by omega)⟩
theorem Holds.frozen {w : World} {b : Nat} {t : TypeId} {k : Nat} {f : Z → Value} (h : Holds w b t k f) (j : Nat) : w.frozen? ⟨b, j, none⟩ = false := by
  obtain ⟨c, _, hb, hc⟩ := h
  exact frozen_of hb j
theorem Holds.blk_lt {w : World} {b : Nat} {t : TypeId} {k : Nat} {f : Z → Value} (h : Holds w b t k f) : b < w.heap.size := by
  obtain ⟨c, _, hb, hc⟩ := h
  exact Cw.blk_lt hb
theorem Holds.set {w : World} {b : Nat} {t : TypeId} {k : Nat} {f : Z → Value} (h : Holds w b t k f) (hk : k < 5) {v : Value} (hv : v = f (zN k hk)) : Holds (w.setCell ⟨b, k, none⟩ v) b t (k + 1) f := by
  obtain ⟨c, hs, hb, hc⟩ := h
  refine ⟨c.setIfInBounds k v, by simp [hs], blk_set hb k v, fun j hj hjk => ?_⟩
  rw [Array.getElem?_setIfInBounds]
  by_cases e : k = j
  · subst e; rw [if_pos rfl, if_pos (by omega), hv]
  · rw [if_neg e]; exact hc j hj (by omega)
theorem Holds.ext {F : Nat → Prop} {w w' : World} {b : Nat} {t : TypeId} {k : Nat} {f : Z → Value} (h : Holds w b t k f) (hx : Ext F w w') (hF : ¬ F b) : Holds w' b t k f := by
  obtain ⟨c, hs, hb, hc⟩ := h
  exact ⟨c, hs, hx.blk hb hF, hc⟩

/-- the sessions' answers stand, but one's -/
def Same (who : Int) (M M' : List (Z × Int)) : Prop := ∀ x : Z, x.1 ≠ who → mget M' x = mget M x
theorem Same.refl (who : Int) (M : List (Z × Int)) : Same who M M := fun _ _ => rfl
theorem same_enter (ss gl : Int) (M : List (Z × Int)) (s : Z) : Same s.1 M (enterM ss gl M s) := fun x hx => by
  unfold enterM
  split
  · rw [mget_put, if_neg (fun e => hx (by rw [e]))]
  · rfl
theorem same_leave {ss : Int} {M : List (Z × Int)} (hn : (M.map (·.1)).Nodup) (s : Z) : Same s.1 M (leaveM ss M s) := fun x hx => by
  unfold leaveM
  split
  · rw [mget_del hn, if_neg (fun e => hx (by rw [e]))]
  · rfl
theorem same_ref {ss gl : Int} {M : List (Z × Int)} (hn : (M.map (·.1)).Nodup) (s : Z) : Same s.1 M (refM ss gl M s) := fun x hx => by
  unfold refM
  split
  · rw [same_enter ss gl _ s x hx, same_leave hn s x hx]
  · exact same_leave hn s x hx
theorem mput_len (M : List (Z × Int)) (x : Z) (v : Int) : (mput M x v).length ≤ M.length + 1 := by
  have := congrArg List.length (mput_keys M x v)
  split at this <;> simp at this <;> omega
theorem mdel_len (M : List (Z × Int)) (x : Z) : (mdel M x).length ≤ M.length := by
  induction M with
  | nil => simp [mdel]
  | cons p r ih => obtain ⟨y, u⟩ := p; simp only [mdel]; split <;> simp <;> omega
theorem enter_len (ss gl : Int) (M : List (Z × Int)) (s : Z) : (enterM ss gl M s).length ≤ M.length + 1 := by
  unfold enterM; split
  · exact mput_len _ _ _
  · omega
theorem leave_len (ss : Int) (M : List (Z × Int)) (s : Z) : (leaveM ss M s).length ≤ M.length := by
  unfold leaveM; split
  · exact mdel_len _ _
  · omega
theorem ref_len (ss gl : Int) (M : List (Z × Int)) (s : Z) : (refM ss gl M s).length ≤ M.length + 1 := by
  unfold refM; split
  · have := enter_len ss gl (leaveM ss M s) s; have := leave_len ss M s; omega
  · have := leave_len ss M s; omega
theorem ref_ok {ss gl : Int} {M : List (Z × Int)} {s : Z} (h : refE ss M s = 0) : refN ss gl M s = gl := by
  unfold refE at h
  unfold refN
  split at h
  · rename_i h1
    rw [if_pos h1]; unfold enterN; rw [if_pos h]
  · rename_i h1; exact absurd h h1
theorem advG_bd {gl m : Int} : gl ≤ advG gl m ∧ advG gl m ≤ gl + 1 := by
  unfold advG; split
  · omega
  · split <;> omega

set_option maxHeartbeats 4000000 in
set_option maxRecDepth 100000 in
theorem apart_any (w : World) (a : Option Addr) (xs : List A) (b off c : Nat) (z : Int) (hA : AR w a xs b off) (hn : xs.length ≤ 100) :
    Calls Try.prog 4 #[.slice a xs.length c, .int .i64 z] w fun e w' => e = .returned (.bool true) ∧ Ext none_ w w' := by
  have hd : decide ((100 : Int) < (xs.length : Int)) = false := by simp; omega
  go_enter Try.func4, Try.ntmps4
  go_wp2_with fail
  refine (awake_any w).mono ?_
  rintro e w1 ⟨rfl, hx1⟩
  go_wp2_with fail
  refine (new_any w1 w.heap.size 5 3 hx1.size (by omega) (by omega)).mono ?_
  rintro e w2 ⟨g, mb, rfl, hT2, hx2⟩
  have hx2' := hx1.grow hx2
  clear hx1 hx2 hd
  go_wp2_with fail
  go_loopw [7] (fun i wr => ∃ (k : Nat) (gl : Int) (M : List (Z × Int)), k ≤ xs.length ∧ i = .int .i64 k ∧ TableIs wr w.heap.size g mb 5 gl M ∧ Ext none_ w wr ∧ 3 ≤ gl ∧ gl ≤ 3 + k ∧ M.length ≤ k) (fun i _ => xs.length - (RowKit.intOf i).toNat)
  case atStart => exact ⟨0, 3, [], Nat.zero_le _, rfl, hT2, hx2', by omega, by simp, by simp⟩
  case round =>
    obtain ⟨k, gl, M, hk, rfl, hTr, hx, hg1, hg2, hml⟩ := hrel
    clear hT2 hx2'
    by_cases hlt : k < xs.length
    · obtain ⟨act, hak⟩ : ∃ x, xs[k]? = some x := ⟨_, List.getElem?_eq_getElem hlt⟩
      have ha := hA.addr (by omega)
      subst ha
      go_wp2_with fail
      have hgw := Cw.blk_lt hTr.blk
      have hmw := hTr.map.lt
      have hbw := hx.size
      have hxa := (Ext.alloc wr (.cells #[.int .i64 0, .int .i64 0, .int .i64 0, .int .i64 0, .int .i64 0] 34)).grow (Ext.alloc _ (.cells #[.bool false, .bool false, .bool false, .bool false, .bool false] 35))
      have hW0 : Holds ((wr.alloc (.cells #[.int .i64 0, .int .i64 0, .int .i64 0, .int .i64 0, .int .i64 0] 34)).alloc (.cells #[.bool false, .bool false, .bool false, .bool false, .bool false] 35)) wr.heap.size 34 0 (fun x => .int .i64 ((mget M x).getD 0)) :=
        ⟨_, rfl, blk_old (blk_new wr _) _, fun j _ hj => absurd hj (by omega)⟩
      have hI0 : Holds ((wr.alloc (.cells #[.int .i64 0, .int .i64 0, .int .i64 0, .int .i64 0, .int .i64 0] 34)).alloc (.cells #[.bool false, .bool false, .bool false, .bool false, .bool false] 35)) (wr.heap.size + 1) 35 0 (fun x => .bool (mget M x).isSome) :=
        ⟨_, rfl, by have := blk_new (wr.alloc (.cells #[.int .i64 0, .int .i64 0, .int .i64 0, .int .i64 0, .int .i64 0] 34)) (.cells #[.bool false, .bool false, .bool false, .bool false, .bool false] 35); simpa using this, fun j _ hj => absurd hj (by omega)⟩
      have hT3 := hTr.ext0 hxa
      have hx3 := hx.grow hxa
      have hbs : wr.heap.size < wr.heap.size + 1 := by omega
      generalize (wr.alloc (.cells #[.int .i64 0, .int .i64 0, .int .i64 0, .int .i64 0, .int .i64 0] 34)).alloc (.cells #[.bool false, .bool false, .bool false, .bool false, .bool false] 35) = w3 at *
      generalize hib : wr.heap.size + 1 = ib at *
      generalize wr.heap.size = wb at *
      clear hib hxa hTr hx
      go_loopw [10] (fun i w4 => ∃ (j : Nat), j ≤ 5 ∧ i = .int .i64 j ∧ TableIs w4 w.heap.size g mb 5 gl M ∧ Holds w4 wb 34 j (fun x => .int .i64 ((mget M x).getD 0)) ∧ Holds w4 ib 35 j (fun x => .bool (mget M x).isSome) ∧ Ext none_ w w4) (fun i _ => 5 - (RowKit.intOf i).toNat)
      case atStart => exact ⟨0, by omega, rfl, hT3, hW0, hI0, hx3⟩
      case round =>
        obtain ⟨j, hj, rfl, hT4, hW4, hI4, hx4⟩ := hrel
        clear hT3 hW0 hI0 hx3
        by_cases hj5 : j < 5
        · go_wp2_with fail
          refine (in_any _ _ _ _ _ _ _ (zN j hj5) hT4).mono ?_
          rintro e w5 ⟨rfl, rfl⟩
          obtain ⟨v1, hv1⟩ := hW4.some hj5
          obtain ⟨v2, hv2⟩ := hI4.some hj5
          have hf1 := hW4.frozen j
          have hf2 := hI4.frozen j
          have hW5 := hW4.set hj5 rfl
          have hy5 := Ext.setCell wr ⟨wb, j, none⟩ (.int .i64 ((mget M (zN j hj5)).getD 0))
          have hI5 := hI4.ext hy5 (by simp; omega)
          have hT5 := hT4.ext hy5 (by simp; omega) (by simp; omega)
          have hx5 := hx4.trans hy5 fun i hi e => by simp at e; omega
          have hv2' : (wr.setCell ⟨wb, j, none⟩ (.int .i64 ((mget M (zN j hj5)).getD 0))).cell? ⟨ib, j, none⟩ = some v2 := (World.cell?_of_block (a := ⟨ib, j, none⟩) (hy5.block ib hI4.blk_lt (by simp; omega))).trans hv2
          have hf3 := hI5.frozen j
          have hI6 := hI5.set hj5 rfl
          have hy6 := Ext.setCell (wr.setCell ⟨wb, j, none⟩ (.int .i64 ((mget M (zN j hj5)).getD 0))) ⟨ib, j, none⟩ (.bool (mget M (zN j hj5)).isSome)
          have hW6 := hW5.ext hy6 (by simp; omega)
          have hT6 := hT5.ext hy6 (by simp; omega) (by simp; omega)
          have hx6 := hx5.trans hy6 fun i hi e => by simp at e; omega
          clear hW4 hI4 hW5 hI5 hT4 hT5 hx4 hx5 hy5 hy6
          go_wp2_with fail
          exact ⟨⟨j + 1, by omega, by simp, hT6, hW6, hI6, hx6⟩, by simp [RowKit.intOf]; omega⟩
        · have hj5' : j = 5 := by omega
          subst hj5'
          rw [show ((5 : Nat) : Int) = 5 from rfl]
          have hnd := hT4.map.nodup
          have hHnd := Lib.hid hnd
          clear hnd
          obtain ⟨c0, c1⟩ := (hA.ext0 hx4).cell k act hak
          obtain ⟨kind, sw⟩ := act
          simp only at c0 c1
          have hfw : ¬ Foot g mb wb := by rintro (e | e) <;> omega
          have hfi : ¬ Foot g mb ib := by rintro (e | e) <;> omega
          by_cases hk0 : kind = 0
          · subst hk0
            go_wp2_with fail
            refine (enter_any wr _ _ _ _ _ _ sw hT4).mono ?_
            rintro e w5 ⟨rfl, hT5, hy5⟩
            have hx5 := hT4.since hx4 hy5
            have hW5 := hW4.ext hy5 hfw
            have hI5 := hI4.ext hy5 hfi
            have Hsm := Lib.hid (same_enter 5 gl M sw)
            have hl5 := enter_len 5 gl M sw
            generalize enterM 5 gl M sw = M5 at *
            generalize enterN 5 gl M sw = N5 at *
            generalize isE 5 M sw false 31 = E5 at *
            clear hy5
            clear hT4 hx4 hW4 hI4 c0 c1
            go_wp2_with fail
            go_loopw [14] (fun i w6 => ∃ (j : Nat), j ≤ 5 ∧ i = .int .i64 j ∧ Ext none_ w5 w6) (fun i _ => 5 - (RowKit.intOf i).toNat)
            case atStart => exact ⟨0, by omega, rfl, Ext.refl _ _⟩
            case round =>
              obtain ⟨j, hj, rfl, hx6⟩ := hrel
              by_cases hj5 : j < 5
              · have hT6 := hT5.ext0 hx6
                have hc1 := (hW5.ext hx6 id).cell hj5 (by omega)
                have hc2 := (hI5.ext hx6 id).cell hj5 (by omega)
                by_cases hjw : (j : Int) = sw.1
                · have hbb : ((j : Int) != sw.1) = false := by simp [hjw]
                  have Hjw := Lib.hid hjw
                  clear hjw
                  go_wp2_with fail
                  refine (in_any _ _ _ _ _ _ _ (zN j hj5) hT6).mono ?_
                  rintro e w7 ⟨rfl, rfl⟩
                  generalize mget M5 (zN j hj5) = mg at *
                  go_wp2
                  exact ⟨⟨j + 1, by omega, by simp, hx6⟩, by simp [RowKit.intOf]; omega⟩
                · have hbb : ((j : Int) != sw.1) = true := by simp [hjw]
                  have hsm := Hsm.out (zN j hj5) hjw
                  have Hsm2 := Lib.hid hsm
                  clear hjw hsm
                  go_wp2_with fail
                  refine (in_any _ _ _ _ _ _ _ (zN j hj5) hT6).mono ?_
                  rw [Hsm2.out]
                  rintro e w7 ⟨rfl, rfl⟩
                  generalize mget M (zN j hj5) = mg at *
                  go_wp2
                  exact ⟨⟨j + 1, by omega, by simp, hx6⟩, by simp [RowKit.intOf]; omega⟩
              · have hT6 := hT5.ext0 hx6
                have hx6' := hx5.grow hx6
                have hj5e : j = 5 := by omega
                subst hj5e
                go_wp2
                exact ⟨⟨k + 1, gl, M5, by omega, by simp, hT6, hx6', by omega, by omega, by omega⟩, by simp [RowKit.intOf]; omega⟩
          · have hb0 : (kind == 0) = false := by simp [hk0]
            by_cases hk1 : kind = 1
            · subst hk1
              go_wp2_with fail
              refine (leave_any wr _ _ _ _ _ _ sw hT4).mono ?_
              rintro e w5 ⟨rfl, hT5, hy5⟩
              have hx5 := hT4.since hx4 hy5
              have hW5 := hW4.ext hy5 hfw
              have hI5 := hI4.ext hy5 hfi
              have Hsm := Lib.hid (same_leave (ss := 5) hHnd.out sw)
              have hl5 := leave_len 5 M sw
              generalize leaveM 5 M sw = M5 at *
              generalize isE 5 M sw true 51 = E5 at *
              clear hy5
              clear hT4 hx4 hW4 hI4 c0 c1
              go_wp2_with fail
              go_loopw [14] (fun i w6 => ∃ (j : Nat), j ≤ 5 ∧ i = .int .i64 j ∧ Ext none_ w5 w6) (fun i _ => 5 - (RowKit.intOf i).toNat)
              case atStart => exact ⟨0, by omega, rfl, Ext.refl _ _⟩
              case round =>
                obtain ⟨j, hj, rfl, hx6⟩ := hrel
                by_cases hj5 : j < 5
                · have hT6 := hT5.ext0 hx6
                  have hc1 := (hW5.ext hx6 id).cell hj5 (by omega)
                  have hc2 := (hI5.ext hx6 id).cell hj5 (by omega)
                  by_cases hjw : (j : Int) = sw.1
                  · have hbb : ((j : Int) != sw.1) = false := by simp [hjw]
                    have Hjw := Lib.hid hjw
                    clear hjw
                    go_wp2_with fail
                    refine (in_any _ _ _ _ _ _ _ (zN j hj5) hT6).mono ?_
                    rintro e w7 ⟨rfl, rfl⟩
                    generalize mget M5 (zN j hj5) = mg at *
                    go_wp2
                    exact ⟨⟨j + 1, by omega, by simp, hx6⟩, by simp [RowKit.intOf]; omega⟩
                  · have hbb : ((j : Int) != sw.1) = true := by simp [hjw]
                    have hsm := Hsm.out (zN j hj5) hjw
                    have Hsm2 := Lib.hid hsm
                    clear hjw hsm
                    go_wp2_with fail
                    refine (in_any _ _ _ _ _ _ _ (zN j hj5) hT6).mono ?_
                    rw [Hsm2.out]
                    rintro e w7 ⟨rfl, rfl⟩
                    generalize mget M (zN j hj5) = mg at *
                    go_wp2
                    exact ⟨⟨j + 1, by omega, by simp, hx6⟩, by simp [RowKit.intOf]; omega⟩
                · have hT6 := hT5.ext0 hx6
                  have hx6' := hx5.grow hx6
                  have hj5e : j = 5 := by omega
                  subst hj5e
                  go_wp2
                  exact ⟨⟨k + 1, gl, M5, by omega, by simp, hT6, hx6', by omega, by omega, by omega⟩, by simp [RowKit.intOf]; omega⟩
            · have hb1 : (kind == 1) = false := by simp [hk1]
              by_cases hk2 : kind = 2
              · subst hk2
                go_wp2_with fail
                refine (refresh_any wr _ _ _ _ _ _ sw hT4).mono ?_
                rintro e w5 ⟨rfl, hT5, hy5⟩
                have hx5 := hT4.since hx4 hy5
                have hW5 := hW4.ext hy5 hfw
                have hI5 := hI4.ext hy5 hfi
                have Hsm := Lib.hid (same_ref (ss := 5) (gl := gl) hHnd.out sw)
                have hl5 := ref_len 5 gl M sw
                have Hok := Lib.hid (@ref_ok 5 gl M sw)
                generalize refM 5 gl M sw = M5 at *
                generalize refN 5 gl M sw = N5 at *
                generalize refE 5 M sw = E5 at *
                clear hy5
                by_cases hE5 : E5 = 0
                · have hN5 := Hok.out hE5
                  subst hE5 hN5
                  go_wp2_with fail
                  refine (global_any w5 _ _ _ _ _ _ hT5).mono ?_
                  rintro e w6 ⟨rfl, rfl⟩
                  clear hT4 hx4 hW4 hI4 c0 c1
                  go_wp2_with fail
                  go_loopw [14] (fun i w6 => ∃ (j : Nat), j ≤ 5 ∧ i = .int .i64 j ∧ Ext none_ w5 w6) (fun i _ => 5 - (RowKit.intOf i).toNat)
                  case atStart => exact ⟨0, by omega, rfl, Ext.refl _ _⟩
                  case round =>
                    obtain ⟨j, hj, rfl, hx6⟩ := hrel
                    by_cases hj5 : j < 5
                    · have hT6 := hT5.ext0 hx6
                      have hc1 := (hW5.ext hx6 id).cell hj5 (by omega)
                      have hc2 := (hI5.ext hx6 id).cell hj5 (by omega)
                      by_cases hjw : (j : Int) = sw.1
                      · have hbb : ((j : Int) != sw.1) = false := by simp [hjw]
                        have Hjw := Lib.hid hjw
                        clear hjw
                        go_wp2_with fail
                        refine (in_any _ _ _ _ _ _ _ (zN j hj5) hT6).mono ?_
                        rintro e w7 ⟨rfl, rfl⟩
                        generalize mget M5 (zN j hj5) = mg at *
                        go_wp2
                        exact ⟨⟨j + 1, by omega, by simp, hx6⟩, by simp [RowKit.intOf]; omega⟩
                      · have hbb : ((j : Int) != sw.1) = true := by simp [hjw]
                        have hsm := Hsm.out (zN j hj5) hjw
                        have Hsm2 := Lib.hid hsm
                        clear hjw hsm
                        go_wp2_with fail
                        refine (in_any _ _ _ _ _ _ _ (zN j hj5) hT6).mono ?_
                        rw [Hsm2.out]
                        rintro e w7 ⟨rfl, rfl⟩
                        generalize mget M (zN j hj5) = mg at *
                        go_wp2
                        exact ⟨⟨j + 1, by omega, by simp, hx6⟩, by simp [RowKit.intOf]; omega⟩
                    · have hT6 := hT5.ext0 hx6
                      have hx6' := hx5.grow hx6
                      have hj5e : j = 5 := by omega
                      subst hj5e
                      go_wp2
                      exact ⟨⟨k + 1, N5, M5, by omega, by simp, hT6, hx6', by omega, by omega, by omega⟩, by simp [RowKit.intOf]; omega⟩
                · have hbE : (E5 == 0) = false := by simp [hE5]
                  have HE5 := Lib.hid hE5
                  clear hE5
                  clear hT4 hx4 hW4 hI4 c0 c1
                  go_wp2_with fail
                  go_loopw [14] (fun i w6 => ∃ (j : Nat), j ≤ 5 ∧ i = .int .i64 j ∧ Ext none_ w5 w6) (fun i _ => 5 - (RowKit.intOf i).toNat)
                  case atStart => exact ⟨0, by omega, rfl, Ext.refl _ _⟩
                  case round =>
                    obtain ⟨j, hj, rfl, hx6⟩ := hrel
                    by_cases hj5 : j < 5
                    · have hT6 := hT5.ext0 hx6
                      have hc1 := (hW5.ext hx6 id).cell hj5 (by omega)
                      have hc2 := (hI5.ext hx6 id).cell hj5 (by omega)
                      by_cases hjw : (j : Int) = sw.1
                      · have hbb : ((j : Int) != sw.1) = false := by simp [hjw]
                        have Hjw := Lib.hid hjw
                        clear hjw
                        go_wp2_with fail
                        refine (in_any _ _ _ _ _ _ _ (zN j hj5) hT6).mono ?_
                        rintro e w7 ⟨rfl, rfl⟩
                        generalize mget M5 (zN j hj5) = mg at *
                        go_wp2
                        exact ⟨⟨j + 1, by omega, by simp, hx6⟩, by simp [RowKit.intOf]; omega⟩
                      · have hbb : ((j : Int) != sw.1) = true := by simp [hjw]
                        have hsm := Hsm.out (zN j hj5) hjw
                        have Hsm2 := Lib.hid hsm
                        clear hjw hsm
                        go_wp2_with fail
                        refine (in_any _ _ _ _ _ _ _ (zN j hj5) hT6).mono ?_
                        rw [Hsm2.out]
                        rintro e w7 ⟨rfl, rfl⟩
                        generalize mget M (zN j hj5) = mg at *
                        go_wp2
                        exact ⟨⟨j + 1, by omega, by simp, hx6⟩, by simp [RowKit.intOf]; omega⟩
                    · have hT6 := hT5.ext0 hx6
                      have hx6' := hx5.grow hx6
                      have hj5e : j = 5 := by omega
                      subst hj5e
                      go_wp2
                      exact ⟨⟨k + 1, gl, M5, by omega, by simp, hT6, hx6', by omega, by omega, by omega⟩, by simp [RowKit.intOf]; omega⟩
              · have hb2 : (kind == 2) = false := by simp [hk2]
                by_cases hk3 : kind = 3
                · subst hk3
                  go_wp2_with fail
                  refine (advance_any wr _ _ _ _ _ _ hT4 (by omega) (by omega)).mono ?_
                  rintro e w5 ⟨m, hm, rfl, hT5, hy5⟩
                  have hx5 := hT4.since hx4 hy5
                  have hW5 := hW4.ext hy5 hfw
                  have hI5 := hI4.ext hy5 hfi
                  have Hsm := Lib.hid (Same.refl (-1) M)
                  obtain ⟨hg5, hg6⟩ := @advG_bd gl m
                  generalize advG gl m = gl5 at *
                  generalize advN gl m = N5 at *
                  generalize advE gl m = E5 at *
                  clear hy5 hm
                  clear hT4 hx4 hW4 hI4 c0 c1
                  go_wp2_with fail
                  go_loopw [14] (fun i w6 => ∃ (j : Nat), j ≤ 5 ∧ i = .int .i64 j ∧ Ext none_ w5 w6) (fun i _ => 5 - (RowKit.intOf i).toNat)
                  case atStart => exact ⟨0, by omega, rfl, Ext.refl _ _⟩
                  case round =>
                    obtain ⟨j, hj, rfl, hx6⟩ := hrel
                    by_cases hj5 : j < 5
                    · have hT6 := hT5.ext0 hx6
                      have hc1 := (hW5.ext hx6 id).cell hj5 (by omega)
                      have hc2 := (hI5.ext hx6 id).cell hj5 (by omega)
                      by_cases hjw : (j : Int) = (-1)
                      · omega
                      · have hbb : ((j : Int) != (-1)) = true := by simp [hjw]
                        have hsm := Hsm.out (zN j hj5) hjw
                        have Hsm2 := Lib.hid hsm
                        clear hjw hsm
                        go_wp2_with fail
                        refine (in_any _ _ _ _ _ _ _ (zN j hj5) hT6).mono ?_
                        rintro e w7 ⟨rfl, rfl⟩
                        generalize mget M (zN j hj5) = mg at *
                        go_wp2
                        exact ⟨⟨j + 1, by omega, by simp, hx6⟩, by simp [RowKit.intOf]; omega⟩
                    · have hT6 := hT5.ext0 hx6
                      have hx6' := hx5.grow hx6
                      have hj5e : j = 5 := by omega
                      subst hj5e
                      go_wp2
                      exact ⟨⟨k + 1, gl5, M, by omega, by simp, hT6, hx6', by omega, by omega, by omega⟩, by simp [RowKit.intOf]; omega⟩
                · have hb3 : (kind == 3) = false := by simp [hk3]
                  clear hk0 hk1 hk2 hk3
                  have Hsm := Lib.hid (Same.refl (-1) M)
                  have hW5 := hW4
                  have hI5 := hI4
                  have hT5 := hT4
                  have hx5 := hx4
                  generalize hw5 : wr = w5 at *
                  clear hw5
                  clear hT4 hx4 hW4 hI4
                  go_wp2_with fail
                  clear hb0 hb1 hb2 hb3
                  go_loopw [14] (fun i w6 => ∃ (j : Nat), j ≤ 5 ∧ i = .int .i64 j ∧ Ext none_ w5 w6) (fun i _ => 5 - (RowKit.intOf i).toNat)
                  case atStart => exact ⟨0, by omega, rfl, Ext.refl _ _⟩
                  case round =>
                    obtain ⟨j, hj, rfl, hx6⟩ := hrel
                    by_cases hj5 : j < 5
                    · have hT6 := hT5.ext0 hx6
                      have hc1 := (hW5.ext hx6 id).cell hj5 (by omega)
                      have hc2 := (hI5.ext hx6 id).cell hj5 (by omega)
                      by_cases hjw : (j : Int) = (-1)
                      · omega
                      · have hbb : ((j : Int) != (-1)) = true := by simp [hjw]
                        have hsm := Hsm.out (zN j hj5) hjw
                        have Hsm2 := Lib.hid hsm
                        clear hjw hsm
                        go_wp2_with fail
                        refine (in_any _ _ _ _ _ _ _ (zN j hj5) hT6).mono ?_
                        rintro e w7 ⟨rfl, rfl⟩
                        generalize mget M (zN j hj5) = mg at *
                        go_wp2
                        exact ⟨⟨j + 1, by omega, by simp, hx6⟩, by simp [RowKit.intOf]; omega⟩
                    · have hT6 := hT5.ext0 hx6
                      have hx6' := hx5.grow hx6
                      have hj5e : j = 5 := by omega
                      subst hj5e
                      go_wp2
                      exact ⟨⟨k + 1, gl, M, by omega, by simp, hT6, hx6', by omega, by omega, by omega⟩, by simp [RowKit.intOf]; omega⟩
    · have hkn : k = xs.length := by omega
      subst hkn
      go_wp2_with fail
      refine (global_any wr _ _ _ _ _ _ hTr).mono ?_
      rintro e w3 ⟨rfl, rfl⟩
      have hd3 : decide (3 ≤ gl) = true := decide_eq_true hg1
      go_wp2
      go_ret
      exact ⟨by simp, hx⟩

end Go.Proofs.Ytjphmbflggeciaa
