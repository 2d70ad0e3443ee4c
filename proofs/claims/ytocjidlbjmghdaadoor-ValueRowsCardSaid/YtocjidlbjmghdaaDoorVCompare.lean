/- The walks of the order of values, and of the reference's. -/
import Derived.Test.YtocjidlbjmghdaaDoorVThing
import Derived.Test.YtocjidlbjmghdaaDoorCompare
import Derived.Test.YtocjidlbjmghdaaDoorHoistT
import Derived.Test.YtocjidlbjmghdaaDoorCutPlain
namespace Go.Proofs.YtocjidlbjmghdaaDoor
open Go.RowKit Go.Cw

/-- a text's bytes as numbers -/
def bytesI (s : ByteArray) : List Int := s.data.toList.map fun b => (b.toNat : Int)
theorem bytesI_len (s : ByteArray) : (bytesI s).length = s.size := by
  unfold bytesI; rw [List.length_map]; exact Array.length_toList
theorem bytesI_get {s : ByteArray} {k : Nat} (h : k < s.size) : (bytesI s)[k]? = some ((s[k]'h).toNat : Int) := by
  unfold bytesI
  rw [List.getElem?_map, List.getElem?_eq_getElem (by rw [show s.data.toList.length = s.size from Array.length_toList]; exact h)]; rfl
theorem u8int_inj {a b : UInt8} (h : (a.toNat : Int) = (b.toNat : Int)) : a = b := UInt8.toNat_inj.1 (by omega)
theorem map_inj : ∀ {a b : List UInt8}, a.map (fun x => (x.toNat : Int)) = b.map (fun x => (x.toNat : Int)) → a = b
  | [], [], _ => rfl
  | [], _ :: _, h => by cases h
  | _ :: _, [], h => by cases h
  | x :: xs, y :: ys, h => by
    simp only [List.map_cons, List.cons.injEq] at h
    rw [u8int_inj h.1, map_inj h.2]
theorem bytesI_inj {s t : ByteArray} (h : bytesI s = bytesI t) : s = t := by
  apply bytes_ext
  unfold bytesI at h
  exact map_inj h
/-- what a value is compared by -/
def Vl.key (v : Vl) : List Int := v.k :: v.n :: bytesI v.s
def vcmp (a b : Vl) : Int := cmpP a.key b.key
theorem vcmp_eq (a b : Vl) : vcmp a b = 0 ↔ a = b := by
  unfold vcmp
  rw [cmpP_eq]
  constructor
  · intro h
    obtain ⟨k, n, s⟩ := a
    obtain ⟨k', n', s'⟩ := b
    unfold Vl.key at h
    simp only [List.cons.injEq] at h
    obtain ⟨rfl, rfl, h3⟩ := h
    rw [bytesI_inj h3]
  · rintro rfl; rfl
def orP : List Int → Int
  | [] => 0
  | x :: xs => if x = 0 then orP xs else x
theorem cmp3_cases (x y : Int) : (x < y ∧ cmp3 x y = -1) ∨ (y < x ∧ ¬ x < y ∧ cmp3 x y = 1) ∨ (x = y ∧ cmp3 x y = 0) := by
  unfold cmp3
  by_cases h : x < y
  · exact .inl ⟨h, if_pos h⟩
  · by_cases h2 : y < x
    · exact .inr (.inl ⟨h2, h, by rw [if_neg h, if_pos h2]⟩)
    · exact .inr (.inr ⟨by omega, by rw [if_neg h, if_neg h2]⟩)
theorem vcmp_or (a b : Vl) : orP [cmp3 a.k b.k, cmp3 a.n b.n, cmpP (bytesI a.s) (bytesI b.s)] = vcmp a b := by
  unfold vcmp Vl.key
  show orP _ = if a.k < b.k then -1 else if b.k < a.k then 1 else if a.n < b.n then -1 else if b.n < a.n then 1 else cmpP (bytesI a.s) (bytesI b.s)
  unfold orP
  rcases cmp3_cases a.k b.k with ⟨h, e⟩ | ⟨h, h', e⟩ | ⟨h, e⟩
  · rw [e, if_neg (by decide), if_pos h]
  · rw [e, if_neg (by decide), if_neg h', if_pos h]
  · rw [e, if_pos rfl, if_neg (by omega), if_neg (by omega)]
    unfold orP
    rcases cmp3_cases a.n b.n with ⟨h, e⟩ | ⟨h, h', e⟩ | ⟨h, e⟩
    · rw [e, if_neg (by decide), if_pos h]
    · rw [e, if_neg (by decide), if_neg h', if_pos h]
    · rw [e, if_pos rfl, if_neg (by omega), if_neg (by omega)]
      unfold orP
      split
      · rename_i h0; rw [h0]; rfl
      · rfl

set_option maxHeartbeats 1000000 in
theorem nani_any (w : World) (x : Int) : Calls Tryd.prog 98 #[.int .i64 x] w fun e w' => e = .returned (.bool false) ∧ w' = w := by
  go_enter Tryd.func98, Tryd.ntmps98
  go_wp2
  go_ret
  exact ⟨by simp, rfl⟩
set_option maxHeartbeats 2000000 in
theorem cmpi_any (w : World) (x y : Int) : Calls Tryd.prog 76 #[.int .i64 x, .int .i64 y] w fun e w' => e = .returned (.int .i64 (cmp3 x y)) ∧ w' = w := by
  go_enter Tryd.func76, Tryd.ntmps76
  go_wp2_with fail
  refine (nani_any w x).mono ?_
  rintro e w1 ⟨rfl, rfl⟩
  go_wp2_with fail
  refine (nani_any _ y).mono ?_
  rintro e w2 ⟨rfl, rfl⟩
  by_cases h : x < y
  · have hd : decide (x < y) = true := decide_eq_true h
    have Hc : Hid (cmp3 x y = -1) := Lib.hid (by unfold cmp3; rw [if_pos h])
    clear h
    go_wp2
    go_ret
    exact ⟨ret_i64 Hc.out.symm, rfl⟩
  · have hd : decide (x < y) = false := decide_eq_false h
    by_cases h2 : y < x
    · have hd2 : decide (y < x) = true := decide_eq_true h2
      have Hc : Hid (cmp3 x y = 1) := Lib.hid (by unfold cmp3; rw [if_neg h, if_pos h2])
      clear h h2
      go_wp2
      go_ret
      exact ⟨ret_i64 Hc.out.symm, rfl⟩
    · have hd2 : decide (y < x) = false := decide_eq_false h2
      have Hc : Hid (cmp3 x y = 0) := Lib.hid (by unfold cmp3; rw [if_neg h, if_neg h2])
      clear h h2
      go_wp2
      go_ret
      exact ⟨ret_i64 Hc.out.symm, rfl⟩

set_option maxHeartbeats 2000000 in
/-- cmp.Or of three -/
theorem or_any (w : World) (b : Nat) (x y z : Int) (hc : w.heap[b]? = some (.cells #[.int .i64 x, .int .i64 y, .int .i64 z] 3 (0, 0))) :
    Calls Tryd.prog 75 #[.slice (some ⟨b, 0, none⟩) 3 3] w fun e w' => e = .returned (.int .i64 (orP [x, y, z])) ∧ w' = w := by
  obtain ⟨c0, c1, c2⟩ := cells3 hc
  go_enter Tryd.func75, Tryd.ntmps75
  go_wp2_with fail
  go_loopw [8] (fun i wr => ∃ k : Nat, k ≤ 3 ∧ i = .int .i64 k ∧ wr = w ∧ Hid (orP ([x, y, z].drop k) = orP [x, y, z])) (fun i _ => 3 - (RowKit.intOf i).toNat)
  case atStart => exact ⟨0, by omega, rfl, rfl, Lib.hid rfl⟩
  case round =>
    obtain ⟨k, hk, rfl, e, Hk⟩ := hrel
    subst e
    match k, hk with
    | 0, _ =>
      by_cases h : x = 0
      · have hb : (x != 0) = false := by simp [h]
        have Hn : Hid (orP [y, z] = orP [x, y, z]) := Lib.hid (by conv => rhs; unfold orP; rw [if_pos h])
        clear h
        go_wp2
        exact ⟨⟨1, by omega, rfl, trivial, Hn⟩, by simp [RowKit.intOf]⟩
      · have hb : (x != 0) = true := by simp [h]
        have Hn : Hid (x = orP [x, y, z]) := Lib.hid (by conv => rhs; unfold orP; rw [if_neg h])
        clear h
        go_wp2
        go_ret
        exact ⟨ret_i64 Hn.out, rfl⟩
    | 1, _ =>
      have hk1 : orP [y, z] = orP [x, y, z] := Hk.out
      by_cases h : y = 0
      · have hb : (y != 0) = false := by simp [h]
        have Hn : Hid (orP [z] = orP [x, y, z]) := Lib.hid (by rw [← hk1]; conv => rhs; unfold orP; rw [if_pos h])
        clear h hk1
        go_wp2
        exact ⟨⟨2, by omega, rfl, trivial, Hn⟩, by simp [RowKit.intOf]⟩
      · have hb : (y != 0) = true := by simp [h]
        have Hn : Hid (y = orP [x, y, z]) := Lib.hid (by rw [← hk1]; conv => rhs; unfold orP; rw [if_neg h])
        clear h hk1
        go_wp2
        go_ret
        exact ⟨ret_i64 Hn.out, rfl⟩
    | 2, _ =>
      have hk1 : orP [z] = orP [x, y, z] := Hk.out
      by_cases h : z = 0
      · have hb : (z != 0) = false := by simp [h]
        have Hn : Hid (orP [] = orP [x, y, z]) := Lib.hid (by rw [← hk1]; conv => rhs; unfold orP; rw [if_pos h])
        clear h hk1
        go_wp2
        exact ⟨⟨3, by omega, rfl, trivial, Hn⟩, by simp [RowKit.intOf]⟩
      · have hb : (z != 0) = true := by simp [h]
        have Hn : Hid (z = orP [x, y, z]) := Lib.hid (by rw [← hk1]; conv => rhs; unfold orP; rw [if_neg h])
        clear h hk1
        go_wp2
        go_ret
        exact ⟨ret_i64 Hn.out, rfl⟩
    | 3, _ =>
      have Hn : Hid (0 = orP [x, y, z]) := Lib.hid (by rw [← Hk.out]; rfl)
      go_wp2
      go_ret
      exact ⟨ret_i64 Hn.out, rfl⟩


theorem cmpB_eq : ∀ a b : List UInt8, Lib.compareBytes a b = cmpP (a.map fun x => (x.toNat : Int)) (b.map fun x => (x.toNat : Int))
  | [], [] => rfl
  | [], _ :: _ => rfl
  | _ :: _, [] => rfl
  | a :: la, b :: lb => by
    show (if a < b then -1 else if b < a then 1 else Lib.compareBytes la lb) = if (a.toNat : Int) < (b.toNat : Int) then -1 else if (b.toNat : Int) < (a.toNat : Int) then 1 else cmpP _ _
    have h1 : a < b ↔ (a.toNat : Int) < (b.toNat : Int) := by rw [UInt8.lt_iff_toNat_lt]; omega
    have h2 : b < a ↔ (b.toNat : Int) < (a.toNat : Int) := by rw [UInt8.lt_iff_toNat_lt]; omega
    rw [cmpB_eq la lb]
    simp only [h1, h2]
theorem scmp_any (w : World) (a b : ByteArray) : Calls Tryd.prog 77 #[.string a, .string b] w fun e w' => e = .returned (.int .i64 (cmpP (bytesI a) (bytesI b))) ∧ w' = w := by
  have h := scompare a b w
  rw [cmpB_eq] at h
  exact h

theorem mixedV : Tryd.prog.follows .mixedOrders = true := by kernel_rfl
theorem sign_any (w : World) (q : Bool) : Calls Tryd.prog 78 #[.bool q] w fun e w' => e = .returned (.int .i64 (if q then -1 else 1)) ∧ w' = w := by
  go_enter Tryd.func78, Tryd.ntmps78
  cases q
  · go_wp2
    go_ret
    exact ⟨rfl, rfl⟩
  · go_wp2
    go_ret
    exact ⟨rfl, rfl⟩

set_option maxHeartbeats 4000000 in
theorem vcompare_any (w : World) (x y : Vl) : Calls Tryd.prog 45 #[x.val, y.val] w fun e w' => e = .returned (.int .i64 (vcmp x y)) ∧ Ext none_ w w' := by
  have Hor := Lib.hid (vcmp_or x y)
  obtain ⟨hx1, c0, c1, c2⟩ := vbox w x.k x.n x.s
  obtain ⟨hx2, d0, d1, d2⟩ := vbox (w.alloc (.cells #[.int .i64 x.k, .int .i64 x.n, .string x.s] 49)) y.k y.n y.s
  have hsz : (w.alloc (.cells #[.int .i64 x.k, .int .i64 x.n, .string x.s] 49)).heap.size = w.heap.size + 1 := by simp
  rw [hsz] at d0 d1 d2
  have c0' := cell_ext0 hx2 c0
  have c1' := cell_ext0 hx2 c1
  have c2' := cell_ext0 hx2 c2
  have hx2' := hx1.grow hx2
  clear hx1 hx2 hsz c0 c1 c2
  unfold Vl.val
  generalize x.k = k at *
  generalize x.n = n at *
  generalize x.s = s at *
  generalize y.k = k' at *
  generalize y.n = n' at *
  generalize y.s = s' at *
  go_enter Tryd.func45, Tryd.ntmps45
  go_wp2_with fail
  generalize (w.alloc (.cells #[.int .i64 k, .int .i64 n, .string s] 49)).alloc (.cells #[.int .i64 k', .int .i64 n', .string s'] 49) = w2 at *
  have hF := Ext.drew w2
  have e0 := fun i : Fam (fun w' => Ext none_ w2 w') => cell_ext0 i.h c0'
  have e1 := fun i : Fam (fun w' => Ext none_ w2 w') => cell_ext0 i.h c1'
  have e2 := fun i : Fam (fun w' => Ext none_ w2 w') => cell_ext0 i.h c2'
  have f0 := fun i : Fam (fun w' => Ext none_ w2 w') => cell_ext0 i.h d0
  have f1 := fun i : Fam (fun w' => Ext none_ w2 w') => cell_ext0 i.h d1
  have f2 := fun i : Fam (fun w' => Ext none_ w2 w') => cell_ext0 i.h d2
  refine wp_region_hoistT (fun w' => Ext none_ w2 w') 18 [0, 1, 2, 3, 5, 6, 7, 8, 10, 11, 12, 13] 6 mixedV (by kernel_rfl) hF ?_
  simp only [List.filterMap_cons, List.filterMap_nil, List.getElem?_cons_zero, List.getElem?_cons_succ]
  have hnn := Fam.ne hF
  generalize w2.drew = w3 at *
  repeat (refine wpV_step (fun K hK => ?_); go_simp; refine hK _ ?_; clear hK K)
  refine wpV_nil ?_
  clear e0 e1 e2 f0 f1 f2 c0' c1' c2' d0 d1 d2
  refine wpAnyC_step [4] (by kernel_rfl) (by simp) ?_
  intro j hj
  simp only [List.mem_cons, List.not_mem_nil, or_false] at hj
  subst hj
  refine ⟨_, rfl, ?_⟩
  go_wp2_with fail
  refine (cmpi_any _ k k').mono ?_
  rintro e w4 ⟨rfl, rfl⟩
  go_wp2_with fail
  refine ⟨.inr hF, ?_⟩
  refine wpAnyC_step [9] (by kernel_rfl) (by simp) ?_
  intro j hj
  simp only [List.mem_cons, List.not_mem_nil, or_false] at hj
  subst hj
  refine ⟨_, rfl, ?_⟩
  go_wp2_with fail
  refine (cmpi_any _ n n').mono ?_
  rintro e w4 ⟨rfl, rfl⟩
  go_wp2_with fail
  refine ⟨.inr hF, ?_⟩
  refine wpAnyC_step [14] (by kernel_rfl) (by simp) ?_
  intro j hj
  simp only [List.mem_cons, List.not_mem_nil, or_false] at hj
  subst hj
  refine ⟨_, rfl, ?_⟩
  go_wp2_with fail
  refine (scmp_any _ s s').mono ?_
  rintro e w4 ⟨rfl, rfl⟩
  go_wp2_with fail
  refine ⟨.inr hF, ?_⟩
  generalize cmp3 k k' = x1 at *
  generalize cmp3 n n' = x2 at *
  generalize cmpP (bytesI s) (bytesI s') = x3 at *
  refine wpAnyC_step [15] (by kernel_rfl) (by simp) ?_
  intro j hj
  simp only [List.mem_cons, List.not_mem_nil, or_false] at hj
  subst hj
  refine ⟨_, rfl, ?_⟩
  go_wp2_with fail
  have hF5 := hF.grow (Ext.alloc _ (.cells #[.int .i64 x1, .int .i64 x2, .int .i64 x3] 3))
  refine ⟨.inr hF5, ?_⟩
  refine wpAnyC_step [16] (by kernel_rfl) (by simp) ?_
  intro j hj
  simp only [List.mem_cons, List.not_mem_nil, or_false] at hj
  subst hj
  refine ⟨_, rfl, ?_⟩
  go_wp2_with fail
  refine (or_any _ _ x1 x2 x3 (blk_new _ _)).mono ?_
  rintro e w6 ⟨rfl, rfl⟩
  rw [Hor.out]
  go_wp2_with fail
  refine ⟨.inr hF5, ?_⟩
  refine wpAnyC_step [17] (by kernel_rfl) (by simp) ?_
  intro j hj
  simp only [List.mem_cons, List.not_mem_nil, or_false] at hj
  subst hj
  refine ⟨_, rfl, ?_⟩
  go_wp2_with fail
  refine ⟨.inr hF5, wpAnyC_end (by kernel_rfl) ?_⟩
  go_wp2
  go_ret
  exact ⟨rfl, hx2'.grow hF5⟩

set_option maxHeartbeats 4000000 in
theorem order_any (w : World) (s t : ByteArray) (hs : s.size ≤ maxLen) (ht : t.size ≤ maxLen) :
    Calls Tryd.prog 47 #[.string s, .string t] w fun e w' => e = .returned (.int .i64 (cmpP (bytesI s) (bytesI t))) ∧ Ext none_ w w' := by
  unfold maxLen at hs ht
  have hsl := bytesI_len s
  have htl := bytesI_len t
  have Hsg := Lib.hid fun (k : Nat) (h : k < s.size) => bytesI_get h
  have Htg := Lib.hid fun (k : Nat) (h : k < t.size) => bytesI_get h
  generalize bytesI s = xs at *
  generalize bytesI t = ys at *
  go_enter Tryd.func47, Tryd.ntmps47
  go_wp2_with fail
  go_loopw [5] (fun i wr => ∃ k : Nat, k ≤ s.size ∧ k ≤ t.size ∧ i = .int .i64 k ∧ Ext none_ w wr ∧ Hid (cmpP (xs.drop k) (ys.drop k) = cmpP xs ys)) (fun i _ => s.size - (RowKit.intOf i).toNat)
  case atStart => exact ⟨0, by omega, by omega, rfl, Ext.refl _ _, Lib.hid rfl⟩
  case round =>
    obtain ⟨k, hkx, hky, rfl, hx, Hk⟩ := hrel
    by_cases hlt : k < s.size ∧ k < t.size
    · obtain ⟨hl1, hl2⟩ := hlt
      have hd1 : decide ((k : Int) < (s.size : Int)) = true := decide_eq_true (by omega)
      have hd2 : decide ((k : Int) < (t.size : Int)) = true := decide_eq_true (by omega)
      have Hst := Lib.hid (cmp_step (Hsg.out k hl1) (Htg.out k hl2))
      obtain ⟨x, hxe⟩ : ∃ x : Int, ((s[k]'hl1).toNat : Int) = x := ⟨_, rfl⟩
      obtain ⟨y, hye⟩ : ∃ y : Int, ((t[k]'hl2).toNat : Int) = y := ⟨_, rfl⟩
      have Hst2 : Hid (cmpP (xs.drop k) (ys.drop k) = if x < y then -1 else if y < x then 1 else cmpP (xs.drop (k + 1)) (ys.drop (k + 1))) := Lib.hid (by rw [Hst.out, hxe, hye])
      clear Hst
      have hi1 : (k : Int) < (s.size : Int) := by omega
      have hi2 : (k : Int) < (t.size : Int) := by omega
      by_cases heq : x = y
      · have hne : (x != y) = false := by simp [heq]
        have Hn : Hid (cmpP (xs.drop (k + 1)) (ys.drop (k + 1)) = cmpP xs ys) := Lib.hid (by rw [← Hk.out, Hst2.out, if_neg (by omega), if_neg (by omega)])
        clear heq
        go_wp2_with fail
        go_quiet (fail)
        have hxq := hx.grow (Ext.drewN wr nq)
        clear hx
        generalize wr.drewN nq = w5 at *
        go_wp2
        exact ⟨⟨k + 1, by omega, by omega, by simp, hxq, Hn⟩, by simp [RowKit.intOf]; omega⟩
      · have hne : (x != y) = true := by simp [heq]
        by_cases hxy : x < y
        · have hd3 : decide (x < y) = true := decide_eq_true hxy
          have Hc : Hid (cmpP xs ys = -1) := Lib.hid (by rw [← Hk.out, Hst2.out, if_pos hxy])
          clear heq
          go_wp2_with fail
          go_quiet (fail)
          have hxq := hx.grow (Ext.drewN wr nq)
          clear hx
          generalize wr.drewN nq = w5 at *
          go_wp2_with fail
          go_quiet (first | (go_at_call 78; exact Calls.quiet_of_same (sign_any _ _)))
          have hxr := hxq.grow (Ext.drewN w5 nq)
          go_wp2
          go_ret
          exact ⟨ret_i64 Hc.out.symm, hxr⟩
        · have hd3 : decide (x < y) = false := decide_eq_false hxy
          have Hc : Hid (cmpP xs ys = 1) := Lib.hid (by rw [← Hk.out, Hst2.out, if_neg hxy, if_pos (by omega)])
          clear heq
          go_wp2_with fail
          go_quiet (fail)
          have hxq := hx.grow (Ext.drewN wr nq)
          clear hx
          generalize wr.drewN nq = w5 at *
          go_wp2_with fail
          go_quiet (first | (go_at_call 78; exact Calls.quiet_of_same (sign_any _ _)))
          have hxr := hxq.grow (Ext.drewN w5 nq)
          go_wp2
          go_ret
          exact ⟨ret_i64 Hc.out.symm, hxr⟩
    · have hxl : ¬ (k < s.size ∧ k < t.size) := hlt
      have Hend : Hid (cmpP xs ys = if s.size = t.size then 0 else if decide ((s.size : Int) < (t.size : Int)) then -1 else 1) := Lib.hid (by
        rw [← Hk.out]
        by_cases h1 : s.size = t.size
        · rw [if_pos h1]; exact cmp_none (by omega) (by omega)
        · rw [if_neg h1]
          by_cases h2 : s.size < t.size
          · rw [if_pos (decide_eq_true (by omega))]; exact cmp_less (by omega) (by omega)
          · rw [if_neg (by simp; omega)]; exact cmp_more (by omega) (by omega))
      have hstop : (decide ((k : Int) < (s.size : Int)) = false ∧ ¬ k < s.size) ∨ (decide ((k : Int) < (s.size : Int)) = true ∧ k < s.size ∧ decide ((k : Int) < (t.size : Int)) = false ∧ ¬ k < t.size) := by
        by_cases h : k < s.size
        · exact .inr ⟨decide_eq_true (by omega), h, decide_eq_false (by omega), by omega⟩
        · exact .inl ⟨decide_eq_false (by omega), h⟩
      clear hlt hxl
      by_cases h1 : s.size = t.size
      · have hb : ((s.size : Int) == (t.size : Int)) = true := by simp [h1]
        have He : Hid (cmpP xs ys = 0) := Lib.hid (by rw [Hend.out, if_pos h1])
        clear h1
        rcases hstop with ⟨hd1, hk1⟩ | ⟨hd1, hk1, hd2, hk2⟩
        all_goals
          go_wp2
          go_ret
          exact ⟨ret_i64 He.out.symm, hx⟩
      · have hb : ((s.size : Int) == (t.size : Int)) = false := by simp; omega
        by_cases h2 : s.size < t.size
        · have hd3 : decide ((s.size : Int) < (t.size : Int)) = true := decide_eq_true (by omega)
          have He : Hid (cmpP xs ys = -1) := Lib.hid (by rw [Hend.out, if_neg h1, if_pos hd3])
          clear h1 Hend
          rcases hstop with ⟨hd1, hk1⟩ | ⟨hd1, hk1, hd2, hk2⟩
          all_goals
            go_wp2_with fail
            refine (sign_any _ _).mono ?_
            rintro e w5 ⟨rfl, rfl⟩
            go_wp2
            go_ret
            exact ⟨ret_i64 He.out.symm, hx⟩
        · have hd3 : decide ((s.size : Int) < (t.size : Int)) = false := decide_eq_false (by omega)
          have He : Hid (cmpP xs ys = 1) := Lib.hid (by rw [Hend.out, if_neg h1, if_neg (by rw [hd3]; decide)])
          clear h1 Hend
          rcases hstop with ⟨hd1, hk1⟩ | ⟨hd1, hk1, hd2, hk2⟩
          all_goals
            go_wp2_with fail
            refine (sign_any _ _).mono ?_
            rintro e w5 ⟨rfl, rfl⟩
            go_wp2
            go_ret
            exact ⟨ret_i64 He.out.symm, hx⟩

end Go.Proofs.YtocjidlbjmghdaaDoor
