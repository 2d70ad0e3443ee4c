/- The walk of the law package's own awake: it returns true. -/
import Derived.Test.YtfjlclloddbkmaaTake
namespace Go.Proofs.Ytfjlclloddbkmaa
open Go.RowKit Go.Cw

theorem take_eq_iff {xs ys : List K} (hl : xs.length = ys.length) : xs = ys ↔ ∀ (j : Nat) (x y : K), xs[j]? = some x → ys[j]? = some y → x = y := by
  constructor
  · rintro rfl j x y h1 h2; rw [h1] at h2; exact Option.some.inj h2
  · intro h
    refine List.ext_getElem hl fun j h1 h2 => ?_
    exact h j _ _ (List.getElem?_eq_getElem h1) (List.getElem?_eq_getElem h2)

set_option maxHeartbeats 1000000 in
theorem same_any (w : World) (a1 a2 : Option Addr) (xs ys : List K) (b1 o1 b2 o2 c1 c2 : Nat) (h1 : KR w a1 xs b1 o1) (h2 : KR w a2 ys b2 o2) (hm1 : xs.length ≤ 1000000) (hm2 : ys.length ≤ 1000000) :
    Calls Try.prog 14 #[.slice a1 xs.length c1, .slice a2 ys.length c2] w fun e w' => e = .returned (.bool (decide (xs = ys))) ∧ Ext none_ w w' := by
  by_cases hl : xs.length = ys.length
  · have hlb : (((xs.length : Nat) : Int) != (ys.length : Int)) = false := by simp [hl]
    have HL := Lib.hid hl
    have Hlb := Lib.hid hlb
    clear hl
    go_enter Try.func14, Try.ntmps14
    go_wp2
    · clear hlb
      go_loopw [5] (fun i wr => ∃ k : Nat, k ≤ xs.length ∧ i = .int .i64 k ∧ Ext none_ w wr ∧ ∀ j, j < k → ∀ x y, xs[j]? = some x → ys[j]? = some y → x = y) (fun i _ => xs.length - (intOf i).toNat)
      case atStart => exact ⟨0, Nat.zero_le _, rfl, Ext.refl _ _, fun j hj => absurd hj (by omega)⟩
      case round =>
        obtain ⟨k, hk, rfl, hx, hall⟩ := hrel
        by_cases hlt : k < xs.length
        · have hlt2 : k < ys.length := by rw [← HL.out]; exact hlt
          obtain ⟨x, hxk⟩ : ∃ x, xs[k]? = some x := ⟨_, List.getElem?_eq_getElem hlt⟩
          obtain ⟨y, hyk⟩ : ∃ y, ys[k]? = some y := ⟨_, List.getElem?_eq_getElem hlt2⟩
          obtain ⟨c0, c1, c2, c3⟩ := (h1.ext0 hx).cell k x hxk
          obtain ⟨d0, d1, d2, d3⟩ := (h2.ext0 hx).cell k y hyk
          have ha1 := h1.addr (by omega)
          have ha2 := h2.addr (by omega)
          subst ha1 ha2
          have hne := key_neq x y
          unfold K.val at hne
          have Hall := Lib.hid hall
          clear hall
          go_wp2
          go_quiet (fail)
          clear hne
          have hx2 := hx.grow (Ext.drewN wr nq)
          by_cases hxy : x = y
          · have Hxy := Lib.hid hxy
            simp only [hxy, decide_true, Bool.not_true]
            clear hxy
            go_wp2
            refine ⟨⟨k + 1, by omega, by simp, hx2, fun j hj x' y' hx' hy' => ?_⟩, by simp [intOf]; omega⟩
            by_cases hjk : j = k
            · subst hjk; rw [hxk] at hx'; rw [hyk] at hy'; cases hx'; cases hy'; exact Hxy.out
            · exact Hall.out j (by omega) x' y' hx' hy'
          · have Hxy := Lib.hid hxy
            simp only [hxy, decide_false, Bool.not_false]
            clear hxy
            go_wp2
            go_ret
            refine ⟨?_, hx2⟩
            have : xs ≠ ys := fun e => Hxy.out (by subst e; rw [hxk] at hyk; exact Option.some.inj hyk)
            simp [this]
        · have hkn : k = xs.length := by omega
          subst hkn
          have Hall := Lib.hid hall
          clear hall
          go_wp2
          go_ret
          refine ⟨?_, hx⟩
          have : xs = ys := (take_eq_iff HL.out).2 fun j x y h3 h4 => Hall.out j (List.getElem?_eq_some_iff.1 h3).1 x y h3 h4
          simp [this]
  · have hlb : (((xs.length : Nat) : Int) != (ys.length : Int)) = true := by simp; omega
    have HL := Lib.hid hl
    clear hl
    go_enter Try.func14, Try.ntmps14
    go_wp2
    go_ret
    refine ⟨?_, Ext.refl _ _⟩
    have : xs ≠ ys := fun e => HL.out (by rw [e])
    simp [this]

theorem wf1 : (Lit.int .i64 1).wf = true := by decide
theorem wf0 : (Lit.int .i64 0).wf = true := by decide
def keyK (n : Int) (hn : (Lit.int .i64 n).wf = true) : K := ⟨1, n, 0, .empty, wf1, hn, wf0, by decide⟩

theorem key_any (n : Int) (hn : (Lit.int .i64 n).wf = true) (w : World) :
    Calls Try.prog 20 #[.int .i64 n] w fun e w' => e = .returned (keyK n hn).val ∧ Ext none_ w w' := by
  go_enter Try.func20, Try.ntmps20
  go_wp2
  exact bodyPost_ret (v := .agg #[.int .i64 1, .int .i64 n, .int .i64 0, .string ⟨#[]⟩]) (by simp [results, Try.results20, go_sem]) rfl ⟨rfl, Ext.alloc _ _⟩

/-- what the example comes to -/
theorem awake_plain {a b : K} (h : a ≠ b) : rets 5 (rets 3 ([], []) [a, b]) [a] = ([b, a], [(a, 5), (b, 3)]) := by
  have h' : ¬ b = a := fun e => h e.symm
  have hm : max (3 : Int) 5 = 5 := by decide
  simp [rets, ret1, mget, mput, h, h', hm]

/-- a row of one key, two keys, that a literal has made -/
theorem KR.one (w : World) (x : K) : KR (w.alloc (.cells #[.int .i64 x.k, .int .i64 x.a, .int .i64 x.b, .string x.s] 30)) (some ⟨w.heap.size, 0, none⟩) [x] w.heap.size 0 := by
  refine ⟨fun _ => rfl, fun j y hj => ?_⟩
  have hc := cell_of (blk_new w (.cells #[.int .i64 x.k, .int .i64 x.a, .int .i64 x.b, .string x.s] 30))
  match j, hj with
  | 0, hj => simp at hj; subst hj; exact ⟨hc 0, hc 1, hc 2, hc 3⟩
theorem KR.two (w : World) (x y : K) : KR (w.alloc (.cells #[.int .i64 x.k, .int .i64 x.a, .int .i64 x.b, .string x.s, .int .i64 y.k, .int .i64 y.a, .int .i64 y.b, .string y.s] 30)) (some ⟨w.heap.size, 0, none⟩) [x, y] w.heap.size 0 := by
  refine ⟨fun _ => rfl, fun j z hj => ?_⟩
  have hc := cell_of (blk_new w (.cells #[.int .i64 x.k, .int .i64 x.a, .int .i64 x.b, .string x.s, .int .i64 y.k, .int .i64 y.a, .int .i64 y.b, .string y.s] 30))
  match j, hj with
  | 0, hj => simp at hj; subst hj; exact ⟨hc 0, hc 1, hc 2, hc 3⟩
  | 1, hj => simp at hj; subst hj; exact ⟨hc 4, hc 5, hc 6, hc 7⟩

theorem LimboIs.foot_lt {w : World} {base g mb : Nat} {rv : Value} {row : List K} {M : List (K × Int)} (h : LimboIs w base g mb rv row M) {b : Nat} (hf : Foot g mb rv b) : b < w.heap.size := by
  rcases hf with rfl | rfl | hf
  · exact blk_lt h.blk
  · exact h.map.lt
  · exact (h.own.lt _ hf).2

/-- 'l.Retire(e, x)', 'l.Retire(e, x, y)', the row made by the literal -/
theorem retire_lit {w : World} {base g mb : Nat} {rv : Value} {row : List K} {M : List (K × Int)} {e : Int} {xs : List K} {o : Obj} (hL : LimboIs w base g mb rv row M) (hbw : base ≤ w.heap.size) (hn : row.length + xs.length ≤ 50000)
    (hr : KR (w.alloc o) (some ⟨w.heap.size, 0, none⟩) xs w.heap.size 0) (c : Nat) :
    Calls Try.prog 8 #[.pointer (some ⟨g, 0, none⟩), .int .i64 e, .slice (some ⟨w.heap.size, 0, none⟩) xs.length c] (w.alloc o) fun en w' => ∃ rv', en = .returned (.tuple #[]) ∧ LimboIs w' base g mb rv' (rets e (row, M) xs).1 (rets e (row, M) xs).2 ∧
      Ext (Foot g mb rv) w w' ∧ (∀ k, rv'.ownBlock = some k → rv.ownBlock = some k ∨ w.heap.size ≤ k) := by
  refine (retire_any _ base g mb rv row M e _ c xs _ _ (hL.ext0 (Ext.alloc _ _)) hr (fun _ hf => ?_) (Nat.le_trans hbw (Ext.alloc w o).size) hn).mono ?_
  · have := hL.foot_lt hf; omega
  · rintro en w' ⟨rv', rfl, h1, h2, h3⟩
    refine ⟨rv', rfl, h1, ((Ext.alloc w o).mono fun _ _ h => h.elim).trans h2 fun _ _ h => h, fun k hk => ?_⟩
    rcases h3 k hk with h | h
    · exact .inl h
    · right; have := (Ext.alloc w o).size; omega

/-- from a limbo's footprint to what the law began with -/
theorem LimboIs.since {W w w' : World} {g mb : Nat} {rv : Value} {row : List K} {M : List (K × Int)} (h : LimboIs w W.heap.size g mb rv row M) (hW : Ext none_ W w) (hx : Ext (Foot g mb rv) w w') : Ext none_ W w' :=
  hW.trans hx fun i hi hf => by
    rcases hf with rfl | rfl | hf
    · have := h.gb; omega
    · have := h.mb; omega
    · have := (h.own.lt _ hf).1; omega

theorem awake_take4 {a b : K} (h : a ≠ b) : [b, a].filter (fun x => decide ((mget [(a, (5 : Int)), (b, 3)] x).getD 0 < 4)) = [b] ∧ [b, a].filter (fun x => !decide ((mget [(a, (5 : Int)), (b, 3)] x).getD 0 < 4)) = [a] ∧ dels [(a, (5 : Int)), (b, 3)] [b] = [(a, 5)] := by
  refine ⟨by simp [mget, h], by simp [mget, h], by simp [dels, mdel, h]⟩
theorem awake_take5 {a : K} : [a].filter (fun x => decide ((mget [(a, (5 : Int))] x).getD 0 < 5)) = [] ∧ [a].filter (fun x => !decide ((mget [(a, (5 : Int))] x).getD 0 < 5)) = [a] ∧ dels [(a, (5 : Int))] [] = [(a, 5)] := by
  refine ⟨?_, ?_, ?_⟩ <;> simp [mget, dels]
theorem awake_take6 {a : K} : [a].filter (fun x => decide ((mget [(a, (5 : Int))] x).getD 0 < 6)) = [a] := by
  simp [mget]

set_option maxHeartbeats 2000000 in
theorem awake_any (w : World) : Calls Try.prog 6 #[] w fun e w' => e = .returned (.bool true) ∧ Ext none_ w w' := by
  go_enter Try.func6, Try.ntmps6
  go_wp2_with (go_at_call 7; refine (new_any w w.heap.size (Nat.le_refl _)).mono ?_)
  rintro e w1 ⟨g, mb, rfl, hL1, hx1, hg, hmb⟩
  go_wp2_with fail
  refine (key_any 1 wf1 _).mono ?_
  rintro e w2 ⟨rfl, hx2⟩
  have hL2 := hL1.ext0 hx2
  go_wp2_with fail
  refine (key_any 2 (by decide) _).mono ?_
  rintro e w3 ⟨rfl, hx3⟩
  have hL3 := hL2.ext0 hx3
  have hx3' := (hx1.grow hx2).grow hx3
  have hk : keyK 1 wf1 ≠ keyK 2 (by decide) := fun e => by
    have := congrArg K.a e
    simp [keyK] at this
  have hp := awake_plain hk
  have ht := awake_take4 hk
  generalize hk1 : keyK 1 wf1 = k1 at *
  generalize hk2 : keyK 2 (by decide) = k2 at *
  have Hk1 := Lib.hid hk1
  have Hk2 := Lib.hid hk2
  have Hp := Lib.hid hp
  have Ht := Lib.hid ht
  clear hk hk1 hk2 hL1 hL2 hx1 hx2 hx3 hp ht
  unfold K.val
  go_wp2_with fail
  refine (retire_lit (xs := [k1, k2]) hL3 hx3'.size (by simp) (KR.two w3 k1 k2) 2).mono ?_
  rintro e w5 ⟨rv5, rfl, hL5, hx5, ho5⟩
  have hx5' := hL3.since hx3' hx5
  clear hL3 hx3' hx5 ho5
  go_wp2_with fail
  refine (key_any 1 wf1 _).mono ?_
  rw [Hk1.out]
  rintro e w6 ⟨rfl, hx6⟩
  have hL6 := hL5.ext0 hx6
  have hx6' := hx5'.grow hx6
  clear hL5 hx5' hx6
  unfold K.val
  go_wp2_with fail
  refine (retire_lit (xs := [k1]) hL6 hx6'.size (by have := rets_len 3 ([], []) [k1, k2]; simp at this ⊢; omega) (KR.one w6 k1) 1).mono ?_
  rintro e w7 ⟨rv7, rfl, hL7, hx7, ho7⟩
  have hx7' := hL6.since hx6' hx7
  change LimboIs w7 w.heap.size g mb rv7 (rets 5 (rets 3 ([], []) [k1, k2]) [k1]).1 (rets 5 (rets 3 ([], []) [k1, k2]) [k1]).2 at hL7
  rw [Hp.out] at hL7
  clear hL6 hx6' hx7 ho7
  go_wp2_with fail
  refine (take_any w7 w.heap.size g mb rv7 _ _ 4 hL7 hx7'.size (by simp)).mono ?_
  rintro e w8 ⟨gv8, rv8, rfl, hL8, hg8, hne8, hx8, ho8⟩
  simp only [Ht.out.1, Ht.out.2.1, Ht.out.2.2] at hL8 hg8
  have hx8' := hL7.since hx7' hx8
  clear hL7 hx7' hx8
  go_wp2_with fail
  refine (take_any w8 w.heap.size g mb rv8 _ _ 5 hL8 hx8'.size (by simp)).mono ?_
  rintro e w9 ⟨gv9, rv9, rfl, hL9, hg9, hne9, hx9, ho9⟩
  simp only [awake_take5.1, awake_take5.2.1, awake_take5.2.2] at hL9 hg9
  have hx9' := hL8.since hx8' hx9
  have hg8' := hg8.ext hx9 (fun b hb hf => by
    rcases hf with rfl | rfl | hf
    · exact hg8.ne_blk hL8.blk (by decide) hb
    · exact hg8.ne_map hL8.map hb
    · exact hne8 b hb hf)
  have hb8 := fun b hb => (hg8.lt b hb).2
  clear hL8 hx8' hx9 hg8 hne8 ho8
  go_wp2_with fail
  refine (take_any w9 w.heap.size g mb rv9 _ _ 6 hL9 hx9'.size (by simp)).mono ?_
  rintro e w10 ⟨gv10, rv10, rfl, hL10, hg10, hne10, hx10, ho10⟩
  rw [awake_take6] at hg10
  have hx10' := hL9.since hx9' hx10
  have hg8'' := hg8'.ext hx10 (fun b hb hf => by
    rcases hf with rfl | rfl | hf
    · exact hg8'.ne_blk hL9.blk (by decide) hb
    · exact hg8'.ne_map hL9.map hb
    · have := hb8 b hb
      have := ho9 b hf
      omega)
  clear hL9 hx9' hx10 hg8' hL10 hne9 hne10 ho9 ho10 hb8
  obtain ⟨a8, c8, b8, rfl, hr8, _⟩ := hg8''.read
  obtain ⟨a9, c9, b9, rfl, hr9, _⟩ := hg9.read
  obtain ⟨a10, c10, b10, rfl, hr10, _⟩ := hg10.read
  clear hr9 hg9 hg8'' hg10
  go_wp2_with fail
  refine (key_any 2 (by decide) _).mono ?_
  rw [Hk2.out]
  rintro e w11 ⟨rfl, hx11⟩
  have hr8' := hr8.ext0 hx11
  have hr10' := hr10.ext0 hx11
  have hx11' := hx10'.grow hx11
  clear hr8 hr10 hx10' hx11
  unfold K.val
  go_wp2_with fail
  refine (same_any _ a8 _ [k2] [k2] _ _ _ _ c8 1 (hr8'.ext0 (Ext.alloc _ _)) (KR.one w11 k2) (by simp) (by simp)).mono ?_
  rintro e w12 ⟨rfl, hx12⟩
  have hr10'' := (hr10'.ext0 (Ext.alloc _ _)).ext0 hx12
  have hx12' := (hx11'.grow (Ext.alloc _ _)).grow hx12
  clear hr8' hr10' hx11' hx12
  simp only [decide_true]
  go_wp2_with fail
  refine (key_any 1 wf1 _).mono ?_
  rw [Hk1.out]
  rintro e w13 ⟨rfl, hx13⟩
  have hr13 := hr10''.ext0 hx13
  have hx13' := hx12'.grow hx13
  clear hr10'' hx12' hx13
  unfold K.val
  go_wp2_with fail
  refine (same_any _ a10 _ [k1] [k1] _ _ _ _ c10 1 (hr13.ext0 (Ext.alloc _ _)) (KR.one w13 k1) (by simp) (by simp)).mono ?_
  rintro e w14 ⟨rfl, hx14⟩
  simp only [decide_true]
  go_wp2
  go_ret
  exact ⟨rfl, (hx13'.grow (Ext.alloc _ _)).grow hx14⟩

end Go.Proofs.Ytfjlclloddbkmaa
