/- What a slice of keys reads as, and the walk of the function that parts a row. -/
import Derived.Test.YtfjlclloddbkmaaKeys
namespace Go.Proofs.Ytfjlclloddbkmaa
open Go.RowKit Go.Cw

/-- the cells of a row of keys -/
def flat (xs : List K) : List Value := xs.flatMap K.cells
theorem flat_nil : flat [] = [] := rfl
theorem flat_append (xs ys : List K) : flat (xs ++ ys) = flat xs ++ flat ys := by simp [flat]
theorem flat_one (x : K) : flat [x] = x.cells := by simp [flat]
theorem flat_length (xs : List K) : (flat xs).length = xs.length * 4 := by
  induction xs with
  | nil => rfl
  | cons x r ih => simp only [flat, List.flatMap_cons, List.length_append, K.cells, List.length_cons, List.length_nil] at ih ⊢; omega

/-- A slice's address reads as these keys, in block b from off on. -/
structure KR (w : World) (a : Option Addr) (xs : List K) (b off : Nat) : Prop where
  addr : 0 < xs.length → a = some ⟨b, off, none⟩
  cell : ∀ (j : Nat) (x : K), xs[j]? = some x → w.cell? ⟨b, off + j * 4, none⟩ = some (.int .i64 x.k) ∧ w.cell? ⟨b, off + j * 4 + 1, none⟩ = some (.int .i64 x.a) ∧
    w.cell? ⟨b, off + j * 4 + 2, none⟩ = some (.int .i64 x.b) ∧ w.cell? ⟨b, off + j * 4 + 3, none⟩ = some (.string x.s)

theorem KR.lt {w : World} {a : Option Addr} {xs : List K} {b off : Nat} (h : KR w a xs b off) (hn : 0 < xs.length) : b < w.heap.size := by
  have := (h.cell 0 xs[0] (by simp)).1
  exact World.block_lt_of_cell? w ⟨b, off + 0 * 4, none⟩ this
theorem KR.ext {F : Nat → Prop} {w w' : World} {a : Option Addr} {xs : List K} {b off : Nat} (h : KR w a xs b off) (hx : Ext F w w') (hF : ¬ F b) : KR w' a xs b off := by
  refine ⟨h.addr, fun j x hj => ?_⟩
  have hlt : b < w.heap.size := h.lt (by have := (List.getElem?_eq_some_iff.1 hj).1; omega)
  have hb := hx.block b hlt hF
  obtain ⟨h0, h1, h2, h3⟩ := h.cell j x hj
  exact ⟨(World.cell?_of_block (a := ⟨b, _, none⟩) hb).trans h0, (World.cell?_of_block (a := ⟨b, _, none⟩) hb).trans h1, (World.cell?_of_block (a := ⟨b, _, none⟩) hb).trans h2, (World.cell?_of_block (a := ⟨b, _, none⟩) hb).trans h3⟩
theorem KR.ext0 {w w' : World} {a : Option Addr} {xs : List K} {b off : Nat} (h : KR w a xs b off) (hx : Ext none_ w w') : KR w' a xs b off := h.ext hx id

/-- A slice that owns its row, which reads as these keys. -/
def KOwn (w : World) (base : Nat) (v : Value) (xs : List K) : Prop := w.ownsRow base 30 4 v xs.length (flat xs)

theorem KOwn.nil (w : World) (base : Nat) : KOwn w base (.slice none 0 0) [] := w.ownsRow_nil base 30 4
theorem KOwn.ext {w w' : World} {base : Nat} {v : Value} {xs : List K} {F : Nat → Prop} (h : KOwn w base v xs) (hx : Ext F w w') (hF : ∀ b, v.ownBlock = some b → ¬ F b) : KOwn w' base v xs := by
  refine ⟨h.1, ?_⟩
  rcases h.2 with hn | ⟨g, cap, cur, rfl, hb, hgg, rest⟩
  · exact .inl hn
  · exact .inr ⟨g, cap, cur, rfl, hb, hx.blk hgg (hF g rfl), rest⟩
theorem KOwn.ext0 {w w' : World} {base : Nat} {v : Value} {xs : List K} (h : KOwn w base v xs) (hx : Ext none_ w w') : KOwn w' base v xs := h.ext hx fun _ _ => id
theorem KOwn.lt {w : World} {base : Nat} {v : Value} {xs : List K} (h : KOwn w base v xs) (b : Nat) (hb : v.ownBlock = some b) : base ≤ b ∧ b < w.heap.size := World.ownsRow.lt h b hb
theorem flat_get {xs : List K} {j : Nat} {x : K} (h : xs[j]? = some x) (i : Nat) (hi : i < 4) : (flat xs)[j * 4 + i]? = x.cells[i]? := by
  induction xs generalizing j with
  | nil => simp at h
  | cons y r ih =>
    have e : flat (y :: r) = y.cells ++ flat r := rfl
    rw [e]
    cases j with
    | zero =>
      simp at h; subst h
      rw [List.getElem?_append_left (by simp [K.cells]; omega)]; simp
    | succ j =>
      simp at h
      rw [List.getElem?_append_right (by simp [K.cells]; omega)]
      have : (j + 1) * 4 + i - y.cells.length = j * 4 + i := by simp [K.cells]; omega
      rw [this]
      exact ih h
/-- as it is read -/
theorem KOwn.read {w : World} {base : Nat} {v : Value} {xs : List K} (h : KOwn w base v xs) : ∃ a c b, v = .slice a xs.length c ∧ KR w a xs b 0 ∧ (v.ownBlock = some b ∨ (v.ownBlock = none ∧ xs = [])) := by
  rcases h.2 with ⟨rfl, hn⟩ | ⟨g, cap, cur, rfl, hb, hgg, h1, h2, h3, h4⟩
  · have : xs = [] := List.length_eq_zero_iff.1 hn
    subst this
    exact ⟨none, 0, 0, rfl, ⟨fun h => absurd h (by simp), fun j x hj => by simp at hj⟩, .inr ⟨rfl, rfl⟩⟩
  · refine ⟨_, _, g, rfl, ⟨fun _ => rfl, fun j x hj => ?_⟩, .inl rfl⟩
    have hjl := (List.getElem?_eq_some_iff.1 hj).1
    have key : ∀ i, i < 4 → w.cell? ⟨g, 0 + j * 4 + i, none⟩ = x.cells[i]? := fun i hi => by
      rw [cell_of hgg, ← flat_get hj i hi, ← h4, List.getElem?_take, if_pos (by omega)]
      simp
    exact ⟨key 0 (by omega), key 1 (by omega), key 2 (by omega), key 3 (by omega)⟩

theorem info30 : (Try.prog.info? 30).map (fun i => (i.zero, i.size, i.bytes)) = some (some (.agg #[.int .i64 0, .int .i64 0, .int .i64 0, .string .empty]), 4, 40) := by kernel_rfl

/-- 'append(s, x)' of a key, onto an owned row. -/
theorem app_key {ops : Array Oper} {rest : List Oper} {o : Oper} {a : Act} {Q : Exit → Act → World → Prop} {w : World} (hgd : o.guard = none) (s y : Operand) (ho : o.op = .call { callee := .builtin .append, args := #[s, y], argTypes := #[22, 22] })
    (base : Nat) (v : Value) (xs : List K) (x : K) (hown : KOwn w base v xs) (hs : a.eval s = v) (hx : a.eval y = .slice (some ⟨w.heap.size, 0, none⟩) 1 1) (hn : xs.length ≤ 1000000) (hb : base ≤ w.heap.size)
    (h : ∀ v' w', KOwn w' base v' (xs ++ [x]) → Ext (fun b => v.ownBlock = some b) w w' → (v'.ownBlock = v.ownBlock ∨ ∀ b, v'.ownBlock = some b → w.heap.size ≤ b) → wpList Try.prog ops Q rest (a.put o.dst v') w') :
    wpList Try.prog ops Q (o :: rest) a (w.alloc (.cells #[.int .i64 x.k, .int .i64 x.a, .int .i64 x.b, .string x.s] 30)) := by
  obtain ⟨i0, hi, hz0, hz1, hz2⟩ := info_parts info30
  refine wpList_append_own_at _ hgd s y 22 ho base 30 i0 _ 4 40 Try.underlying22 hi hz0 hz1 hz2 rfl (by decide) v _ _ hs (World.ownsRow.alloc hown _) ⟨w.heap.size, 0, none⟩ 1 1 x.cells hx rfl ?_ ?_ ?_ ?_ (by simp; omega) ?_
  · intro j u hj
    have hc := cell_of (blk_new w (.cells #[.int .i64 x.k, .int .i64 x.a, .int .i64 x.b, .string x.s] 30)) j
    have ha : (⟨w.heap.size, 0, none⟩ : Addr).add j = ⟨w.heap.size, j, none⟩ := by unfold Addr.add; split <;> simp_all
    rw [ha, hc]
    simpa [K.cells] using hj
  · intro u hu
    simp only [K.cells, List.mem_cons, List.not_mem_nil, or_false] at hu
    rcases hu with rfl | rfl | rfl | rfl <;> rfl
  · unfold maxLen; omega
  · omega
  · intro v' w' h1 h2 h3 h4
    refine h v' w' ?_ ?_ ?_
    · unfold KOwn
      rw [flat_append, flat_one, List.length_append]
      exact h1
    · exact (((Ext.alloc w _).mono fun _ _ h => h.elim : Ext (fun b => v.ownBlock = some b) w _)).trans (Ext.grown h2) fun i hi hf => hf.symm
    · rcases h4 with h4 | h4
      · exact .inl h4
      · refine .inr fun b hb => ?_
        rw [h4] at hb
        simp at hb
        omega


/-- what 'out' is told of a key in each world that has grown from w -/
def Asks (fn : FuncId) (cap : Array Value) (p : K → Bool) (w : World) : Prop :=
  ∀ (x : K) (u : World), Ext none_ w u → Calls Try.prog fn (#[x.val] ++ cap) u fun e u' => e = .returned (.bool (p x)) ∧ Ext none_ u u'

/-- what has been parted after k rounds -/
def sel (p : K → Bool) (xs : List K) (k : Nat) : List K := (xs.take k).filter p
theorem sel_zero (p : K → Bool) (xs : List K) : sel p xs 0 = [] := rfl
theorem sel_le (p : K → Bool) (xs : List K) (k : Nat) : (sel p xs k).length ≤ xs.length := Nat.le_trans (List.length_filter_le _ _) (List.length_take_le' _ _)
theorem sel_yes {p : K → Bool} {xs : List K} {k : Nat} {x : K} (h : xs[k]? = some x) (hp : p x = true) : sel p xs (k + 1) = sel p xs k ++ [x] := by
  obtain ⟨hl, rfl⟩ := List.getElem?_eq_some_iff.1 h
  unfold sel
  rw [List.take_succ_eq_append_getElem hl, List.filter_append]; simp [hp]
theorem sel_no {p : K → Bool} {xs : List K} {k : Nat} {x : K} (h : xs[k]? = some x) (hp : p x = false) : sel p xs (k + 1) = sel p xs k := by
  obtain ⟨hl, rfl⟩ := List.getElem?_eq_some_iff.1 h
  unfold sel
  rw [List.take_succ_eq_append_getElem hl, List.filter_append]; simp [hp]
theorem sel_all (p : K → Bool) (xs : List K) : sel p xs xs.length = xs.filter p := by simp [sel]

set_option maxHeartbeats 1000000 in
theorem out_any (fn : FuncId) (cap : Array Value) (p : K → Bool) (w : World) (g : Nat) (a : Option Addr) (c : Nat) (mv : Value) (xs : List K) (b off : Nat)
    (hfn : ∀ (args : Array Value) (u : World), (callFunc fn args).run Try.prog u = .ok (.enter fn args) u)
    (hg : w.heap[g]? = some (.cells #[.slice a xs.length c, mv] 54 (0, 0))) (hr : KR w a xs b off) (hn : xs.length ≤ 100000) (hp : Asks fn cap p w) :
    Calls Try.prog 21 #[.pointer (some ⟨g, 0, none⟩), .func (.func fn) #[] cap] w fun e w' => ∃ gv lv, e = .returned gv ∧ KOwn w' w.heap.size gv (xs.filter p) ∧ KOwn w' w.heap.size lv (xs.filter (fun x => !p x)) ∧
      (∀ b, gv.ownBlock = some b → lv.ownBlock ≠ some b) ∧ w'.heap[g]? = some (.cells #[lv, mv] 54 (0, 0)) ∧ Ext (· = g) w w' := by
  obtain ⟨g0, g1⟩ := cells2 hg
  have hglt := blk_lt hg
  go_enter Try.func21, Try.ntmps21
  go_wp2
  go_loopw [5, 6, 14] (fun v5 v6 i wr => ∃ k : Nat, k ≤ xs.length ∧ i = .int .i64 k ∧ Ext none_ w wr ∧ KOwn wr w.heap.size v5 (sel p xs k) ∧
      KOwn wr w.heap.size v6 (sel (fun x => !p x) xs k) ∧ (∀ b, v5.ownBlock = some b → v6.ownBlock ≠ some b)) (fun _ _ i _ => xs.length - (intOf i).toNat)
  case atStart => exact ⟨0, Nat.zero_le _, rfl, Ext.refl _ _, KOwn.nil _ _, KOwn.nil _ _, fun b h => by cases h⟩
  case round =>
    obtain ⟨k, hk, rfl, hx, ho5, ho6, hne⟩ := hrel
    by_cases hlt : k < xs.length
    · obtain ⟨x, hxk⟩ : ∃ x, xs[k]? = some x := ⟨_, List.getElem?_eq_getElem hlt⟩
      obtain ⟨c0, c1, c2, c3⟩ := (hr.ext0 hx).cell k x hxk
      have ha := hr.addr (by omega)
      subst ha
      go_wp2_with fail
      refine (hp x _ (hx.grow (Ext.alloc _ _))).mono ?_
      rintro e w1 ⟨rfl, hx1⟩
      obtain ⟨d0, d1, d2, d3⟩ := cells4 (hx1.blk0 (blk_new wr _))
      have hx2 : Ext none_ wr w1 := (Ext.alloc _ _).grow hx1
      have ho5' := ho5.ext0 hx2
      have ho6' := ho6.ext0 hx2
      have hx3 := hx.grow hx2
      have hsz := hx3.size
      have hl5 := sel_le p xs k
      have hl6 := sel_le (fun x => !p x) xs k
      clear ho5 ho6
      cases hpx : p x
      · have H := Lib.hid hpx
        clear hpx
        go_wp2_with (first | (at_builtin; refine app_key rfl _ _ rfl w.heap.size _ _ x ho6' rfl rfl (by omega) hsz ?_))
        intro v' w2 ho hx4 hv
        have ho5'' := ho5'.ext hx4 fun b hb hb' => hne b hb hb'
        go_wp2
        have hb : Ext none_ w w2 := hx3.trans hx4 fun i hi hf => absurd (ho6'.lt i hf).1 (by omega)
        refine ⟨⟨k + 1, by omega, by simp, hb, by rw [sel_no hxk H.out]; exact ho5'', by rw [sel_yes hxk (by rw [H.out]; rfl)]; exact ho, fun b hb5 hb6 => ?_⟩, by simp [intOf]; omega⟩
        rcases hv with hv | hv
        · exact hne b hb5 (hv ▸ hb6)
        · exact absurd (ho5'.lt b hb5).2 (by have := hv b hb6; omega)
      · have H := Lib.hid hpx
        clear hpx
        go_wp2_with (first | (at_builtin; refine app_key rfl _ _ rfl w.heap.size _ _ x ho5' rfl rfl (by omega) hsz ?_))
        intro v' w2 ho hx4 hv
        have ho6'' := ho6'.ext hx4 fun b hb hb' => hne b hb' hb
        go_wp2
        have hb : Ext none_ w w2 := hx3.trans hx4 fun i hi hf => absurd (ho5'.lt i hf).1 (by omega)
        refine ⟨⟨k + 1, by omega, by simp, hb, by rw [sel_yes hxk H.out]; exact ho, by rw [sel_no hxk (by rw [H.out]; rfl)]; exact ho6'', fun b hb5 hb6 => ?_⟩, by simp [intOf]; omega⟩
        rcases hv with hv | hv
        · exact hne b (hv ▸ hb5) hb6
        · exact absurd (ho6'.lt b hb6).2 (by have := hv b hb5; omega)
    · have hkn : k = xs.length := by omega
      subst hkn
      have hgr := hx.blk0 hg
      obtain ⟨g0', g1'⟩ := cells2 hgr
      have gf := frozen_of hgr 0
      clear g0 g1
      rw [sel_all] at ho5 ho6
      obtain ⟨n6, c6, b6, rfl, _⟩ := ho6.read
      go_wp2
      go_ret
      have hne' : ∀ b, some b ≠ (Value.slice n6 (xs.filter (fun x => !p x)).length c6).ownBlock ∨ b ≠ g := fun b => by
        by_cases e : b = g
        · left; intro hb; have := (ho6.lt b hb.symm).1; omega
        · exact .inr e
      refine ⟨_, _, rfl, ho5.ext (Ext.setCell _ _ _) fun b hb hb' => ?_, ho6.ext (Ext.setCell _ _ _) fun b hb hb' => ?_, hne, by simpa using blk_set hgr 0 _, (hx.mono fun _ _ h => h.elim).trans (Ext.setCell _ _ _) fun _ _ h => h⟩
      · have := (ho5.lt b hb).1; simp at hb'; omega
      · have := (ho6.lt b hb).1; simp at hb'; omega
end Go.Proofs.Ytfjlclloddbkmaa
