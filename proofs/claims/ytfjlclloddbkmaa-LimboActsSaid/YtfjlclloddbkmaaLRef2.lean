/- The walks of the reference's limbo: Retire and Back. -/
import Derived.Test.YtfjlclloddbkmaaLRef1
import Derived.Deep.CutRange
namespace Go.Proofs.Ytfjlclloddbkmaa
open Go.RowKit Go.Cw

set_option maxHeartbeats 1000000 in
theorem rback_any (w : World) (base f : Nat) (sv : Value) (L : List (K × Int)) (x : K) (hR : RefIs w base f sv L) (hn : L.length ≤ 10000) (hbw : base ≤ w.heap.size) (hnd : (L.map (·.1)).Nodup) :
    Calls Try.prog 16 #[.pointer (some ⟨f, 0, none⟩), x.val] w fun e w' => ∃ (sv' : Value) (r : Nat), e = .returned (.int .i64 r) ∧ RefIs w' base f sv' (L.filter fun z => !decide (z.1 = x)) ∧ Ext (· = f) w w' ∧
      (∀ b, sv'.ownBlock = some b → sv.ownBlock = some b ∨ w.heap.size ≤ b) ∧ r + (L.filter fun z => !decide (z.1 = x)).length = L.length := by
  have hx1 := Ext.alloc w (.cells #[.int .i64 x.k, .int .i64 x.a, .int .i64 x.b, .string x.s] 30)
  obtain ⟨k0, k1, k2, k3⟩ := cells4 (blk_new w (.cells #[.int .i64 x.k, .int .i64 x.a, .int .i64 x.b, .string x.s] 30))
  have hR1 := hR.ext0 hx1
  unfold K.val
  go_enter Try.func16, Try.ntmps16
  go_wp2_with fail
  generalize w.alloc (.cells #[.int .i64 x.k, .int .i64 x.a, .int .i64 x.b, .string x.s] 30) = w1 at *
  refine (find_any w1 base f sv L x hR1 (by omega)).mono ?_
  rintro e w2 ⟨r, rfl, hx2, hc⟩
  have hR2 := hR1.ext0 hx2
  have hx2' := hx1.grow hx2
  clear k0 k1 k2 k3
  rcases hc with ⟨rfl, hno⟩ | ⟨i, v, rfl, hi⟩
  · have Hno := Lib.hid hno
    clear hno
    go_wp2
    go_ret
    have hfe : (L.filter fun z => !decide (z.1 = x)) = L := List.filter_eq_self.2 fun p hp => by simpa using Hno.out p hp
    exact ⟨sv, 0, rfl, by rw [hfe]; exact hR2, hx2'.mono fun _ _ h => h.elim, fun b h => .inl h, by rw [hfe]; omega⟩
  · have hil := (List.getElem?_eq_some_iff.1 hi).1
    have Hi := Lib.hid hi
    clear hi
    go_wp2_with fail
    refine (drop_any w2 base f sv L i hR2 hn hil (Nat.le_trans hbw hx2'.size)).mono ?_
    rintro e w3 ⟨sv', rfl, hR3, hx3, ho3⟩
    rw [drop_eq hnd Hi.out] at hR3
    go_wp2
    go_ret
    have hcnt := drop_count hnd (List.mem_of_getElem? Hi.out)
    exact ⟨sv', 1, rfl, hR3, (hx2'.mono fun _ _ h => h.elim).trans hx3 fun _ _ h => h, fun b h => .inr (Nat.le_trans hx2'.size (ho3 b h)), by omega⟩

/-- the reference's block and the key's, as they are -/
def RF1 (f : Nat) (sv : Value) (kb : Nat) (x : K) (u : World) : Prop := u.heap[f]? = some (.cells #[sv] 44 (0, 0)) ∧ u.heap[kb]? = some (.cells #[.int .i64 x.k, .int .i64 x.a, .int .i64 x.b, .string x.s] 30 (0, 0))
theorem RF1.fam {f kb : Nat} {sv : Value} {x : K} : (∀ i : Fam (RF1 f sv kb x), i.w.cell? ⟨f, 0, none⟩ = some sv) ∧
    (∀ i : Fam (RF1 f sv kb x), i.w.cell? ⟨kb, 0, none⟩ = some (.int .i64 x.k)) ∧ (∀ i : Fam (RF1 f sv kb x), i.w.cell? ⟨kb, 1, none⟩ = some (.int .i64 x.a)) ∧
    (∀ i : Fam (RF1 f sv kb x), i.w.cell? ⟨kb, 2, none⟩ = some (.int .i64 x.b)) ∧ (∀ i : Fam (RF1 f sv kb x), i.w.cell? ⟨kb, 3, none⟩ = some (.string x.s)) :=
  ⟨fun i => cells1 i.h.1, fun i => (cells4 i.h.2).1, fun i => (cells4 i.h.2).2.1, fun i => (cells4 i.h.2).2.2.1, fun i => (cells4 i.h.2).2.2.2⟩

theorem app_item {ops : Array Oper} {rest : List Oper} {o : Oper} {a : Act} {Q : Exit → Act → World → Prop} {w : World} (hgd : o.guard = none) (s y : Operand) (ho : o.op = .call { callee := .builtin .append, args := #[s, y], argTypes := #[42, 42] })
    (base : Nat) (v : Value) (xs : List (K × Int)) (p : K × Int) (hown : GOwn cel 49 5 w base v xs) (hs : a.eval s = v) (hx : a.eval y = .slice (some ⟨w.heap.size, 0, none⟩) 1 1) (hn : xs.length ≤ 100000) (hb : base ≤ w.heap.size)
    (h : ∀ v' w', GOwn cel 49 5 w' base v' (xs ++ [p]) → Ext (fun b => v.ownBlock = some b) w w' → wpList Try.prog ops Q rest (a.put o.dst v') w') :
    wpList Try.prog ops Q (o :: rest) a (w.alloc (.cells #[.int .i64 p.1.k, .int .i64 p.1.a, .int .i64 p.1.b, .string p.1.s, .int .i64 p.2] 49)) := by
  refine app_g (cl := cel) Try.underlying42 info49 rfl (by decide) (by decide) cel_len cel_one hgd s y ho base v xs p (hown.ext0 (Ext.alloc _ _)) hs w.heap.size hx ?_ hn (Nat.le_trans hb (Ext.alloc w _).size) fun v' w' h1 h2 => h v' w' h1 (((Ext.alloc w _).mono fun _ _ h => h.elim).trans h2 fun _ _ h => h)
  intro i u hu
  have := cell_of (blk_new w (.cells #[.int .i64 p.1.k, .int .i64 p.1.a, .int .i64 p.1.b, .string p.1.s, .int .i64 p.2] 49)) i
  rw [this]
  simpa [cel] using hu

theorem rret_no (e : Int) {L : List (K × Int)} {x : K} (h : ∀ p ∈ L, p.1 ≠ x) : rret e L x = L ++ [(x, e)] := by
  have hm : mget L x = none := by
    cases hm : mget L x with
    | none => rfl
    | some v => exact absurd rfl (h _ (mem_of_mget hm))
  have hf : (L.filter fun z => !decide (z.1 = x)) = L := List.filter_eq_self.2 fun p hp => by simpa using h p hp
  unfold rret
  rw [hm, hf]
theorem rret_yes {L : List (K × Int)} (hnd : (L.map (·.1)).Nodup) {i : Nat} {x : K} {v : Int} (hi : L[i]? = some (x, v)) (e : Int) {u : Int} (hu : (if e < v then v else e) = u) : rret e L x = (L.filter fun z => !decide (z.1 = x)) ++ [(x, u)] := by
  have hm : mget L x = some v := mget_mem hnd (List.mem_of_getElem? hi)
  unfold rret
  rw [hm]
  simp only [hu]

set_option maxHeartbeats 1000000 in
/-- the last region of Retire, from the world it enters -/
theorem rretire_any (w : World) (base f : Nat) (sv : Value) (L : List (K × Int)) (e : Int) (x : K) (hR : RefIs w base f sv L) (hn : L.length ≤ 10000) (hbw : base ≤ w.heap.size) (hnd : (L.map (·.1)).Nodup) :
    Calls Try.prog 13 #[.pointer (some ⟨f, 0, none⟩), .int .i64 e, x.val] w fun en w' => ∃ (sv' : Value), en = .returned (.tuple #[]) ∧ RefIs w' base f sv' (rret e L x) ∧ Ext (RFoot f sv) w w' := by
  have hx1 := Ext.alloc w (.cells #[.int .i64 x.k, .int .i64 x.a, .int .i64 x.b, .string x.s] 30)
  have hkb := blk_new w (.cells #[.int .i64 x.k, .int .i64 x.a, .int .i64 x.b, .string x.s] 30)
  obtain ⟨k0, k1, k2, k3⟩ := cells4 hkb
  have hR1 := hR.ext0 hx1
  have hkn : sv.ownBlock ≠ some w.heap.size := fun h => absurd (hR.own.lt _ h).2 (Nat.lt_irrefl _)
  have hfl := blk_lt hR.blk
  unfold K.val
  go_enter Try.func13, Try.ntmps13
  go_wp2_with fail
  generalize w.alloc (.cells #[.int .i64 x.k, .int .i64 x.a, .int .i64 x.b, .string x.s] 30) = w1 at *
  refine (find_any w1 base f sv L x hR1 (by omega)).mono ?_
  rintro en w2 ⟨r, rfl, hx2, hc⟩
  have hR2 := hR1.ext0 hx2
  have hx2' := hx1.grow hx2
  have hkb2 := hx2.blk0 hkb
  clear k0 k1 k2 k3 hx1 hR1 hkb hx2
  go_upto_if 11 with (fail)
  go_cut [1] from 12 to 32 (fun e1 wr => ∃ (sv1 : Value) (L1 : List (K × Int)) (z : Int), e1 = .int .i64 z ∧ RefIs wr base f sv1 L1 ∧ Ext (· = f) w wr ∧ (∀ b, sv1.ownBlock = some b → sv.ownBlock = some b ∨ w.heap.size ≤ b) ∧ L1 ++ [(x, z)] = rret e L x ∧ L1.length ≤ L.length ∧ wr.heap[w.heap.size]? = some (.cells #[.int .i64 x.k, .int .i64 x.a, .int .i64 x.b, .string x.s] 30 (0, 0)))
  case first =>
    rcases hc with ⟨rfl, hno⟩ | ⟨i, v, rfl, hi⟩
    · have Hno := Lib.hid hno
      clear hno
      go_wp2
      go_meet
      exact ⟨sv, L, e, rfl, hR2, hx2'.mono fun _ _ h => h.elim, fun b h => .inl h, (rret_no e Hno.out).symm, Nat.le_refl _, hkb2⟩
    · have hil := (List.getElem?_eq_some_iff.1 hi).1
      have Hi := Lib.hid hi
      obtain ⟨a, c, b, rfl, hG, _, _⟩ := hR2.own.read cel_len
      obtain ⟨_, _, _, _, d4⟩ := hG.item hi
      simp only [Nat.zero_add] at d4
      have ha := hG.addr (by omega)
      subst ha
      have f0 := cells1 hR2.blk
      clear hi hG
      by_cases hve : e < v
      · have hd : decide (e < v) = true := decide_eq_true hve
        go_wp2_with fail
        refine (drop_any w2 base f _ L i hR2 hn hil (Nat.le_trans hbw hx2'.size)).mono ?_
        rintro en w3 ⟨sv', rfl, hR3, hx3, ho3⟩
        rw [drop_eq hnd Hi.out] at hR3
        go_wp2
        go_meet
        exact ⟨sv', _, v, rfl, hR3, (hx2'.mono fun _ _ h => h.elim).trans hx3 fun _ _ h => h, fun b h => .inr (Nat.le_trans hx2'.size (ho3 b h)), (rret_yes hnd Hi.out e (by rw [if_pos hve])).symm, List.length_filter_le _ _, hx3.blk hkb2 (by omega)⟩
      · have hd : decide (e < v) = false := decide_eq_false hve
        go_wp2_with fail
        refine (drop_any w2 base f _ L i hR2 hn hil (Nat.le_trans hbw hx2'.size)).mono ?_
        rintro en w3 ⟨sv', rfl, hR3, hx3, ho3⟩
        rw [drop_eq hnd Hi.out] at hR3
        go_wp2
        go_meet
        exact ⟨sv', _, e, rfl, hR3, (hx2'.mono fun _ _ h => h.elim).trans hx3 fun _ _ h => h, fun b h => .inr (Nat.le_trans hx2'.size (ho3 b h)), (rret_yes hnd Hi.out e (by rw [if_neg (by omega)])).symm, List.length_filter_le _ _, hx3.blk hkb2 (by omega)⟩
  case rest =>
    obtain ⟨sv1, L1, z, rfl, hR3, hx3, ho3, hL1, hl1, hkb3⟩ := hcut
    have HL1 := Lib.hid hL1
    clear hL1 hR2 hc hkb2
    go_wp2_with fail
    have hle : base ≤ wc.heap.size := Nat.le_trans hbw hx3.size
    have hR4 := hR3.ext0 (Ext.drew wc)
    have hkb4 := (Ext.drew wc).blk0 hkb3
    have hx4 := hx3.grow (Ext.drew wc)
    clear hR3 hkb3 hx3
    obtain ⟨ra, rc, rb, rfl, _⟩ := hR4.own.read cel_len
    have hk1 : (Value.slice ra L1.length rc).ownBlock ≠ some w.heap.size := fun h => hR4.own.ne_blk hkb4 (by decide) h
    refine wp_region_hoist (RF1 f (.slice ra L1.length rc) w.heap.size x) 12 [0, 1, 2, 3, 4, 5, 6, 7] [8, 9, 10, 11, 12] mixed (by kernel_rfl) ⟨hR4.blk, hkb4⟩ ?_
    simp only [List.filterMap_cons, List.filterMap_nil, List.getElem?_cons_zero, List.getElem?_cons_succ]
    have hne : Nonempty (Fam (RF1 f (.slice ra L1.length rc) w.heap.size x)) := ⟨⟨_, hR4.blk, hkb4⟩⟩
    obtain ⟨f0, f1, f2, f3, f4⟩ := RF1.fam (f := f) (sv := .slice ra L1.length rc) (kb := w.heap.size) (x := x)
    generalize wc.drew = w4 at *
    repeat (refine wpV_step (fun K hK => ?_); go_simp; refine hK _ ?_; clear hK K)
    refine wpV_nil ?_
    clear f0 f1 f2 f3 f4 hne
    refine wpCh_step ?_
    go_wp2
    refine ⟨⟨blk_old hR4.blk _, blk_old hkb4 _⟩, wpCh_step ?_⟩
    have hle : base ≤ w4.heap.size := Nat.le_trans hbw hx4.size
    go_wp2_with (first | (at_builtin; refine app_item rfl _ _ rfl base _ L1 (x, z) hR4.own rfl rfl (by omega) hle ?_))
    intro v' w5 ho hx5
    have hg5 := hx5.blk hR4.blk (fun h => hR4.own.ne_blk hR4.blk (by decide) h)
    have hk5 := hx5.blk hkb4 (fun h => hk1 h)
    go_wp2
    refine ⟨⟨hg5, hk5⟩, wpCh_step ?_⟩
    go_wp2
    refine ⟨⟨hg5, hk5⟩, wpCh_step ?_⟩
    go_wp2
    refine ⟨⟨hg5, hk5⟩, wpCh_last ?_⟩
    rw [HL1.out] at ho
    obtain ⟨va, vc, vb, rfl, _⟩ := ho.read cel_len
    have g0 := cells1 hg5
    have gf := frozen_of hg5 0
    go_wp2
    go_end0
    have hA : Ext (RFoot f sv) w w4 := hx4.mono fun _ _ h => .inl h
    have hB : Ext (RFoot f sv) w w5 := hA.trans hx5 fun i hi hf => by
      rcases ho3 i hf with h | h
      · exact .inr h
      · omega
    exact ⟨_, rfl, RefIs.store hg5 hR4.fb ho, hB.trans (Ext.setCell _ _ _) fun i _ h => .inl h⟩

end Go.Proofs.Ytfjlclloddbkmaa
