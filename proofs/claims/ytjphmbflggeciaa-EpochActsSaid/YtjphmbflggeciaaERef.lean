/- The walks of the reference's table: New, Enter, Leave, Least, Advance. -/
import Derived.Test.YtjphmbflggeciaaActsPlain
namespace Go.Proofs.Ytjphmbflggeciaa
open Go.RowKit Go.Cw

theorem own_ext {F : Nat → Prop} {w w' : World} {base n : Nat} {v : Value} {xs : List Value} (h : w.ownsRow base 3 1 v n xs) (hx : Ext F w w') (hF : ∀ b, v.ownBlock = some b → ¬ F b) : w'.ownsRow base 3 1 v n xs := by
  obtain ⟨h1, h2⟩ := h
  refine ⟨h1, ?_⟩
  rcases h2 with h2 | ⟨g, cap, cur, rfl, hb, hg, rest⟩
  · exact .inl h2
  · exact .inr ⟨g, cap, cur, rfl, hb, hx.blk hg (hF g rfl), rest⟩

/-- the reference's table at block g, its row at block i -/
structure RTab (w : World) (base g i c : Nat) (gl : Int) (R : List Int) : Prop where
  blk : w.heap[g]? = some (.cells #[.int .i64 gl, .slice (some ⟨i, 0, none⟩) R.length c] 60 (0, 0))
  row : ∃ cur, w.heap[i]? = some (.cells cur 3 (0, 0)) ∧ ∀ (j : Nat) (e : Int), R[j]? = some e → cur[j]? = some (.int .i64 e)
  gb : base ≤ g
  ib : base ≤ i
  ne : i ≠ g
theorem RTab.ext {F : Nat → Prop} {w w' : World} {base g i c : Nat} {gl : Int} {R : List Int} (h : RTab w base g i c gl R) (hx : Ext F w w') (h1 : ¬ F g) (h2 : ¬ F i) : RTab w' base g i c gl R := by
  obtain ⟨cur, hc, hr⟩ := h.row
  exact ⟨hx.blk h.blk h1, ⟨cur, hx.blk hc h2, hr⟩, h.gb, h.ib, h.ne⟩
theorem RTab.ext0 {w w' : World} {base g i c : Nat} {gl : Int} {R : List Int} (h : RTab w base g i c gl R) (hx : Ext none_ w w') : RTab w' base g i c gl R := h.ext hx id id
theorem RTab.cell {w : World} {base g i c : Nat} {gl : Int} {R : List Int} (h : RTab w base g i c gl R) {j : Nat} {e : Int} (hj : R[j]? = some e) : w.cell? ⟨i, j, none⟩ = some (.int .i64 e) := by
  obtain ⟨cur, hc, hr⟩ := h.row
  rw [cell_of hc]; exact hr j e hj
theorem RTab.frozen {w : World} {base g i c : Nat} {gl : Int} {R : List Int} (h : RTab w base g i c gl R) (j : Nat) : w.frozen? ⟨i, j, none⟩ = false := by
  obtain ⟨cur, hc, hr⟩ := h.row
  exact frozen_of hc j
theorem RTab.set {w : World} {base g i c : Nat} {gl : Int} {R : List Int} (h : RTab w base g i c gl R) {j : Nat} (v : Int) : RTab (w.setCell ⟨i, j, none⟩ (.int .i64 v)) base g i c gl (R.set j v) := by
  obtain ⟨cur, hc, hr⟩ := h.row
  refine ⟨by rw [List.length_set]; exact blk_set_ne h.blk (fun e => h.ne e.symm) j _, ⟨_, blk_set hc j _, fun k e hk => ?_⟩, h.gb, h.ib, h.ne⟩
  rw [List.getElem?_set] at hk
  rw [Array.getElem?_setIfInBounds]
  by_cases e1 : j = k
  · rw [if_pos e1] at hk ⊢
    split at hk
    · rename_i hl
      obtain ⟨u, hu⟩ : ∃ u, R[k]? = some u := ⟨_, List.getElem?_eq_getElem (by omega)⟩
      have h3 := (Array.getElem?_eq_some_iff.1 (hr k u hu)).1
      rw [if_pos (by omega), Option.some.inj hk]
    · cases hk
  · rw [if_neg e1] at hk ⊢
    exact hr k e hk

set_option maxHeartbeats 2000000 in
theorem rnew_any (w : World) (n : Nat) (first : Int) (h1 : 1 ≤ n) (h64 : n ≤ 64) :
    Calls Try.prog 15 #[.int .i64 n, .int .i64 first] w fun e w' => ∃ g i c, e = .returned (.pointer (some ⟨g, 0, none⟩)) ∧ RTab w' w.heap.size g i c first (List.replicate n (-1)) ∧ Ext none_ w w' := by
  have hx1 := Ext.alloc w (.cells #[.int .i64 first, .slice none 0 0] 60)
  have hb1 := blk_new w (.cells #[.int .i64 first, .slice none 0 0] 60)
  have hsz : (w.alloc (.cells #[.int .i64 first, .slice none 0 0] 60)).heap.size = w.heap.size + 1 := by simp
  have Hsz := Lib.hid hsz
  clear hsz
  go_enter Try.func15, Try.ntmps15
  go_wp2_with fail
  generalize w.alloc (.cells #[.int .i64 first, .slice none 0 0] 60) = w1 at *
  go_loopw [6] (fun i wr => ∃ (k : Nat) (v : Value), k ≤ n ∧ i = .int .i64 k ∧ wr.heap[w.heap.size]? = some (.cells #[.int .i64 first, v] 60 (0, 0)) ∧ wr.ownsRow w1.heap.size 3 1 v (List.replicate k (-1 : Int)).length ((List.replicate k (-1 : Int)).map (Value.int .i64)) ∧ Ext none_ w wr) (fun i _ => n - (RowKit.intOf i).toNat)
  case atStart => exact ⟨0, _, by omega, rfl, hb1, ⟨rfl, .inl ⟨rfl, rfl⟩⟩, hx1⟩
  case round =>
    obtain ⟨k, v, hk, rfl, hb, ho, hx⟩ := hrel
    obtain ⟨c0, c1⟩ := cells2 hb
    by_cases hlt : k < n
    · have hd : decide ((k : Int) < (n : Int)) = true := decide_eq_true (by omega)
      have hlen : (List.replicate k (-1 : Int)).length ≤ 1000000 := by rw [List.length_replicate]; omega
      have hcb := cells1' (blk_new wr (.cells #[.int .i64 (-1)] 3))
      have ho2 := World.ownsRow.alloc ho (.cells #[.int .i64 (-1)] 3)
      have hx2 := hx.grow (Ext.alloc wr (.cells #[.int .i64 (-1)] 3))
      have hb2 := (Ext.alloc wr (.cells #[.int .i64 (-1)] 3)).blk0 hb
      have hsz2 : w1.heap.size ≤ (wr.alloc (.cells #[.int .i64 (-1)] 3)).heap.size := by have := Hsz.out; have := hx2.size; have := blk_lt hb2; omega
      have hvb : ∀ i, v.ownBlock = some i → w.heap.size < i := fun i hi => by have := (ho.lt i hi).1; have := Hsz.out; omega
      go_wp2_with (refine app_int rfl _ _ rfl w1.heap.size v _ (-1) ho2 rfl wr.heap.size rfl hcb hlen hsz2 ?_)
      intro v6 w6 ho6 hx6
      have hb6 := hx6.blk hb2 (fun e => by have := hvb _ e; omega)
      have hx6' := hx2.trans hx6 fun i hi e => by have := hvb _ e; omega
      have hv6 : ∀ i, v6.ownBlock = some i → w.heap.size < i := fun i hi => by have := (ho6.lt i hi).1; have := Hsz.out; omega
      have ho6 : w6.ownsRow w1.heap.size 3 1 v6 (List.replicate (k + 1) (-1 : Int)).length ((List.replicate (k + 1) (-1 : Int)).map (Value.int .i64)) := by
        rw [List.length_replicate, List.map_replicate, List.replicate_succ']
        exact ho6
      obtain ⟨d0, d1⟩ := cells2 hb6
      have hz := frozen_of hb6
      have hst := Ext.setCell w6 ⟨w.heap.size, 1, none⟩ v6
      have hb7 := blk_set hb6 1 v6
      have ho7 := own_ext ho6 hst (fun i hi e => by have h2 : i = w.heap.size := e; have := hv6 i hi; omega)
      have hx7 := hx6'.trans hst fun i hi e => by have h2 : i = w.heap.size := e; omega
      have hv1 : ∃ a n c, v6 = .slice a n c := by
        rcases ho6.2 with ⟨rfl, _⟩ | ⟨g, cap, cur, rfl, _⟩
        · exact ⟨_, _, _, rfl⟩
        · exact ⟨_, _, _, rfl⟩
      obtain ⟨pa, pn, pc, rfl⟩ := hv1
      clear hb hb2 ho ho2 ho6 hx2 hx6 hcb hsz2 c0 c1 hst
      go_wp2
      exact ⟨⟨k + 1, _, by omega, by simp, hb7, ho7, hx7⟩, by simp [RowKit.intOf]; omega⟩
    · have hd : decide ((k : Int) < (n : Int)) = false := decide_eq_false (by omega)
      have hkn : k = n := by omega
      rw [hkn] at ho
      clear hkn
      have hfin : ∃ i c, v = .slice (some ⟨i, 0, none⟩) (List.replicate n (-1 : Int)).length c ∧ ∃ cur, wr.heap[i]? = some (.cells cur 3 (0, 0)) ∧ (∀ (j : Nat) (e : Int), (List.replicate n (-1 : Int))[j]? = some e → cur[j]? = some (.int .i64 e)) ∧ w.heap.size < i := by
        rcases ho.2 with ⟨_, h0⟩ | ⟨g, cap, cur, rfl, hbg, hg, hc1, hc2, hc3, hc4⟩
        · rw [List.length_replicate] at h0; omega
        · refine ⟨g, cap, rfl, cur, hg, fun j e hj => ?_, by have := Hsz.out; omega⟩
          have hj' : ((List.replicate n (-1 : Int)).map (Value.int .i64))[j]? = some (.int .i64 e) := by rw [List.getElem?_map, hj]; rfl
          rw [← hc4, List.getElem?_take] at hj'
          split at hj'
          · simpa using hj'
          · cases hj'
      obtain ⟨i, c, rfl, cur, hcur, hr, hgi⟩ := hfin
      go_wp2
      go_ret
      exact ⟨_, i, c, rfl, ⟨hb, ⟨cur, hcur, hr⟩, Nat.le_refl _, by omega, by omega⟩, hx⟩

def enN (gl : Int) (R : List Int) (s : Int) : Int := if rE R s = 0 then gl else 0
def enR (gl : Int) (R : List Int) (s : Int) : List Int := if rE R s = 0 then R.set s.toNat gl else R
def lvN (again : Bool) (gl : Int) (R : List Int) (s : Int) : Int := if rL R s = 0 then if again then gl else 0 else 0
def lvR (again : Bool) (gl : Int) (R : List Int) (s : Int) : List Int := if rL R s = 0 then if again then (R.set s.toNat (-1)).set s.toNat gl else R.set s.toNat (-1) else R

set_option maxHeartbeats 2000000 in
theorem renter_any (w : World) (base g i c : Nat) (gl s : Int) (R : List Int) (hT : RTab w base g i c gl R) :
    Calls Try.prog 16 #[.pointer (some ⟨g, 0, none⟩), .int .i64 s] w fun e w' => e = .returned (.tuple #[.int .i64 (enN gl R s), .int .i64 (rE R s)]) ∧ RTab w' base g i c gl (enR gl R s) ∧ Ext (Foot g i) w w' := by
  obtain ⟨c0, c1⟩ := cells2 hT.blk
  by_cases h1 : s < 0
  · have hd : decide (s < 0) = true := decide_eq_true h1
    have Hr : Hid (rE R s = 2) := Lib.hid (by unfold rE; rw [if_pos (.inl h1)])
    have HN : Hid (enN gl R s = 0) := Lib.hid (by unfold enN; rw [Hr.out]; rfl)
    have HR : Hid (enR gl R s = R) := Lib.hid (by unfold enR; rw [Hr.out]; rfl)
    clear h1
    go_enter Try.func16, Try.ntmps16
    go_wp2
    go_ret2
    exact ⟨by rw [HN.out, Hr.out]; rfl, by rw [HR.out]; exact hT, Ext.refl _ _⟩
  · obtain ⟨k, rfl⟩ : ∃ k : Nat, s = k := ⟨s.toNat, by omega⟩
    have hd : decide ((k : Int) < 0) = false := decide_eq_false h1
    by_cases h2 : R.length ≤ k
    · have hd2 : decide ((R.length : Int) ≤ (k : Int)) = true := decide_eq_true (by omega)
      have Hr : Hid (rE R k = 2) := Lib.hid (by unfold rE; rw [if_pos (.inr (by omega))])
      have HN : Hid (enN gl R k = 0) := Lib.hid (by unfold enN; rw [Hr.out]; rfl)
      have HR : Hid (enR gl R k = R) := Lib.hid (by unfold enR; rw [Hr.out]; rfl)
      clear h1
      go_enter Try.func16, Try.ntmps16
      go_wp2
      go_ret2
      exact ⟨by rw [HN.out, Hr.out]; rfl, by rw [HR.out]; exact hT, Ext.refl _ _⟩
    · have hd2 : decide ((R.length : Int) ≤ (k : Int)) = false := decide_eq_false (by omega)
      have hlt : k < R.length := by omega
      obtain ⟨x, hx⟩ : ∃ x, R[k]? = some x := ⟨_, List.getElem?_eq_getElem hlt⟩
      have hcx := hT.cell hx
      have hg : R.getD (k : Int).toNat 0 = x := by rw [List.getD_eq_getElem?_getD, show (k : Int).toNat = k by omega, hx]; rfl
      by_cases h3 : 0 ≤ x
      · have hd3 : decide (0 ≤ x) = true := decide_eq_true h3
        have Hr : Hid (rE R k = 31) := Lib.hid (by unfold rE; rw [if_neg (by omega), hg, if_pos h3])
        have HN : Hid (enN gl R k = 0) := Lib.hid (by unfold enN; rw [Hr.out]; rfl)
        have HR : Hid (enR gl R k = R) := Lib.hid (by unfold enR; rw [Hr.out]; rfl)
        clear h1 h3 hx hg
        go_enter Try.func16, Try.ntmps16
        go_wp2
        go_ret2
        exact ⟨by rw [HN.out, Hr.out]; rfl, by rw [HR.out]; exact hT, Ext.refl _ _⟩
      · have hd3 : decide (0 ≤ x) = false := decide_eq_false h3
        have Hr : Hid (rE R k = 0) := Lib.hid (by unfold rE; rw [if_neg (by omega), hg, if_neg h3])
        have HN : Hid (enN gl R k = gl) := Lib.hid (by unfold enN; rw [Hr.out]; rfl)
        have HR : Hid (enR gl R k = R.set k gl) := Lib.hid (by unfold enR; rw [Hr.out]; rfl)
        have hxd := Ext.drew w
        have hT1 := hT.ext0 hxd
        have hcx1 := hT1.cell hx
        clear h1 h3 hx hg
        go_enter Try.func16, Try.ntmps16
        go_wp2_with fail
        clear c0 c1 hcx
        refine wp_region_hoist (Still w.drew) 10 [0, 1, 2, 3, 4, 5, 6, 7, 8, 9] [10] mixed (by kernel_rfl) rfl ?_
        simp only [List.filterMap_cons, List.filterMap_nil, List.getElem?_cons_zero, List.getElem?_cons_succ]
        generalize w.drew = w2 at *
        have hF := fun i => Still.fam (w := w2) i
        have hnn := Still.ne w2
        obtain ⟨g0, g1⟩ := cells2 hT1.blk
        repeat (refine wpV_step (fun K hK => ?_); go_simp; refine hK _ ?_; clear hK K)
        refine wpV_nil (wpCh_last ?_)
        clear hF hnn
        have hz := hT1.frozen k
        have hT2 := hT1.set (j := k) gl
        have hx2 := hxd.grow (Ext.refl none_ w2)
        have hx3 := (hxd.mono fun _ _ h => h.elim : Ext (Foot g i) w w2).trans (Ext.setCell w2 ⟨i, k, none⟩ (.int .i64 gl)) fun j _ e => .inr e
        rw [← HR.out] at hT2
        obtain ⟨e0, e1⟩ := cells2 hT2.blk
        go_wp2
        go_ret2
        exact ⟨by rw [HN.out, Hr.out]; rfl, hT2, hx3⟩

set_option maxHeartbeats 2000000 in
theorem rleave_any (w : World) (base g i c : Nat) (gl s : Int) (R : List Int) (again : Bool) (hT : RTab w base g i c gl R) :
    Calls Try.prog 17 #[.pointer (some ⟨g, 0, none⟩), .int .i64 s, .bool again] w fun e w' => e = .returned (.tuple #[.int .i64 (lvN again gl R s), .int .i64 (rL R s)]) ∧ RTab w' base g i c gl (lvR again gl R s) ∧ Ext (Foot g i) w w' := by
  obtain ⟨c0, c1⟩ := cells2 hT.blk
  by_cases h1 : s < 0
  · have hd : decide (s < 0) = true := decide_eq_true h1
    have Hr : Hid (rL R s = 2) := Lib.hid (by unfold rL; rw [if_pos (.inl h1)])
    have HN : Hid (lvN again gl R s = 0) := Lib.hid (by unfold lvN; rw [Hr.out]; rfl)
    have HR : Hid (lvR again gl R s = R) := Lib.hid (by unfold lvR; rw [Hr.out]; rfl)
    clear h1
    go_enter Try.func17, Try.ntmps17
    go_wp2
    go_ret2
    exact ⟨by rw [HN.out, Hr.out]; rfl, by rw [HR.out]; exact hT, Ext.refl _ _⟩
  · obtain ⟨k, rfl⟩ : ∃ k : Nat, s = k := ⟨s.toNat, by omega⟩
    have hd : decide ((k : Int) < 0) = false := decide_eq_false h1
    by_cases h2 : R.length ≤ k
    · have hd2 : decide ((R.length : Int) ≤ (k : Int)) = true := decide_eq_true (by omega)
      have Hr : Hid (rL R k = 2) := Lib.hid (by unfold rL; rw [if_pos (.inr (by omega))])
      have HN : Hid (lvN again gl R k = 0) := Lib.hid (by unfold lvN; rw [Hr.out]; rfl)
      have HR : Hid (lvR again gl R k = R) := Lib.hid (by unfold lvR; rw [Hr.out]; rfl)
      clear h1
      go_enter Try.func17, Try.ntmps17
      go_wp2
      go_ret2
      exact ⟨by rw [HN.out, Hr.out]; rfl, by rw [HR.out]; exact hT, Ext.refl _ _⟩
    · have hd2 : decide ((R.length : Int) ≤ (k : Int)) = false := decide_eq_false (by omega)
      have hlt : k < R.length := by omega
      obtain ⟨x, hx⟩ : ∃ x, R[k]? = some x := ⟨_, List.getElem?_eq_getElem hlt⟩
      have hcx := hT.cell hx
      have hg : R.getD (k : Int).toNat 0 = x := by rw [List.getD_eq_getElem?_getD, show (k : Int).toNat = k by omega, hx]; rfl
      by_cases h3 : x < 0
      · have hd3 : decide (x < 0) = true := decide_eq_true h3
        have Hr : Hid (rL R k = 51) := Lib.hid (by unfold rL; rw [if_neg (by omega), hg, if_pos h3])
        have HN : Hid (lvN again gl R k = 0) := Lib.hid (by unfold lvN; rw [Hr.out]; rfl)
        have HR : Hid (lvR again gl R k = R) := Lib.hid (by unfold lvR; rw [Hr.out]; rfl)
        clear h1 h3 hx hg
        go_enter Try.func17, Try.ntmps17
        go_wp2
        go_ret2
        exact ⟨by rw [HN.out, Hr.out]; rfl, by rw [HR.out]; exact hT, Ext.refl _ _⟩
      · have hd3 : decide (x < 0) = false := decide_eq_false h3
        have Hr : Hid (rL R k = 0) := Lib.hid (by unfold rL; rw [if_neg (by omega), hg, if_neg h3])
        have hz := hT.frozen k
        have hT0 := hT.set (j := k) (-1)
        have hx0 := (Ext.setCell w ⟨i, k, none⟩ (.int .i64 (-1))).mono (fun j _ e => .inr e : ∀ j, j < w.heap.size → j = i → Foot g i j)
        cases again
        · have HN : Hid (lvN false gl R k = 0) := Lib.hid (by unfold lvN; rw [Hr.out]; rfl)
          have HR : Hid (lvR false gl R k = R.set k (-1)) := Lib.hid (by unfold lvR; rw [Hr.out]; rfl)
          rw [← HR.out] at hT0
          clear h1 h3 hx hg
          go_enter Try.func17, Try.ntmps17
          go_wp2
          go_ret2
          exact ⟨by rw [HN.out, Hr.out]; rfl, hT0, hx0⟩
        · have HN : Hid (lvN true gl R k = gl) := Lib.hid (by unfold lvN; rw [Hr.out]; rfl)
          have HR : Hid (lvR true gl R k = (R.set k (-1)).set k gl) := Lib.hid (by unfold lvR; rw [Hr.out]; rfl)
          have hx1 : (R.set k (-1))[k]? = some (-1) := List.getElem?_set_self hlt
          have hlt1 : k < (R.set k (-1)).length := by rw [List.length_set]; exact hlt
          clear h1 h3 hx hg
          obtain ⟨d0, d1⟩ := cells2 hT0.blk
          go_enter Try.func17, Try.ntmps17
          go_wp2_with fail
          clear c0 c1 hcx d0 d1 hz
          generalize w.setCell ⟨i, k, none⟩ (.int .i64 (-1)) = w1 at *
          generalize R.set k (-1) = R1 at *
          have hxd := Ext.drew w1
          have hT1 := hT0.ext0 hxd
          have hcx1 := hT1.cell hx1
          refine wp_region_hoist (Still w1.drew) 10 [0, 1, 2, 3, 4, 5, 6, 7, 8, 9] [10] mixed (by kernel_rfl) rfl ?_
          simp only [List.filterMap_cons, List.filterMap_nil, List.getElem?_cons_zero, List.getElem?_cons_succ]
          generalize w1.drew = w2 at *
          have hF := fun i => Still.fam (w := w2) i
          have hnn := Still.ne w2
          obtain ⟨g0, g1⟩ := cells2 hT1.blk
          repeat (refine wpV_step (fun K hK => ?_); go_simp; refine hK _ ?_; clear hK K)
          refine wpV_nil (wpCh_last ?_)
          clear hF hnn
          have hz := hT1.frozen k
          have hT2 := hT1.set (j := k) gl
          have hx3 := (hx0.grow hxd).trans (Ext.setCell w2 ⟨i, k, none⟩ (.int .i64 gl)) fun j _ e => .inr e
          rw [← HR.out] at hT2
          obtain ⟨e0, e1⟩ := cells2 hT2.blk
          go_wp2
          go_ret2
          exact ⟨by rw [HN.out, Hr.out]; rfl, hT2, hx3⟩

end Go.Proofs.Ytjphmbflggeciaa
