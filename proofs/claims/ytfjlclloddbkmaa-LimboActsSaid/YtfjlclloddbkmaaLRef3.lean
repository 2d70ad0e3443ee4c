/- The walk of the reference's Take. -/
import Derived.Test.YtfjlclloddbkmaaLRef1
import Derived.Deep.CutRange
namespace Go.Proofs.Ytfjlclloddbkmaa
open Go.RowKit Go.Cw

/-- the first k items, parted -/
def gI (least : Int) (L : List (K × Int)) (k : Nat) : List K := ((L.take k).filter fun z => decide (z.2 < least)).map (·.1)
def lI (least : Int) (L : List (K × Int)) (k : Nat) : List (K × Int) := (L.take k).filter fun z => !decide (z.2 < least)
theorem gI_yes {least : Int} {L : List (K × Int)} {k : Nat} {p : K × Int} (h : L[k]? = some p) (hp : p.2 < least) : gI least L (k + 1) = gI least L k ++ [p.1] ∧ lI least L (k + 1) = lI least L k := by
  obtain ⟨hl, rfl⟩ := List.getElem?_eq_some_iff.1 h
  unfold gI lI
  rw [List.take_succ_eq_append_getElem hl, List.filter_append, List.filter_append]; simp [hp]
theorem gI_no {least : Int} {L : List (K × Int)} {k : Nat} {p : K × Int} (h : L[k]? = some p) (hp : ¬ p.2 < least) : gI least L (k + 1) = gI least L k ∧ lI least L (k + 1) = lI least L k ++ [p] := by
  obtain ⟨hl, rfl⟩ := List.getElem?_eq_some_iff.1 h
  unfold gI lI
  rw [List.take_succ_eq_append_getElem hl, List.filter_append, List.filter_append]; simp [hp]
theorem gI_len (least : Int) (L : List (K × Int)) (k : Nat) : (gI least L k).length ≤ L.length ∧ (lI least L k).length ≤ L.length := by
  unfold gI lI
  rw [List.length_map]
  have h := List.length_take_le' k L
  exact ⟨Nat.le_trans (List.length_filter_le _ _) h, Nat.le_trans (List.length_filter_le _ _) h⟩
theorem app_item2 {ops : Array Oper} {rest : List Oper} {o : Oper} {a : Act} {Q : Exit → Act → World → Prop} {w : World} (hgd : o.guard = none) (s y : Operand) (ho : o.op = .call { callee := .builtin .append, args := #[s, y], argTypes := #[42, 42] })
    (base : Nat) (v : Value) (xs : List (K × Int)) (p : K × Int) (hown : GOwn cel 49 5 w base v xs) (hs : a.eval s = v) (hx : a.eval y = .slice (some ⟨w.heap.size, 0, none⟩) 1 1) (hn : xs.length ≤ 100000) (hb : base ≤ w.heap.size)
    (h : ∀ v' w', GOwn cel 49 5 w' base v' (xs ++ [p]) → Ext (fun b => v.ownBlock = some b) w w' → wpList Try.prog ops Q rest (a.put o.dst v') w') :
    wpList Try.prog ops Q (o :: rest) a (w.alloc (.cells #[.int .i64 p.1.k, .int .i64 p.1.a, .int .i64 p.1.b, .string p.1.s, .int .i64 p.2] 49)) := by
  refine app_g (cl := cel) Try.underlying42 info49 rfl (by decide) (by decide) cel_len cel_one hgd s y ho base v xs p (hown.ext0 (Ext.alloc _ _)) hs w.heap.size hx ?_ hn (Nat.le_trans hb (Ext.alloc w _).size) fun v' w' h1 h2 => h v' w' h1 (((Ext.alloc w _).mono fun _ _ h => h.elim).trans h2 fun _ _ h => h)
  intro i u hu
  have := cell_of (blk_new w (.cells #[.int .i64 p.1.k, .int .i64 p.1.a, .int .i64 p.1.b, .string p.1.s, .int .i64 p.2] 49)) i
  rw [this]
  simpa [cel] using hu
theorem KOwn.ne_g {α : Type} {cl : α → List Value} {e n : Nat} {w : World} {base base' : Nat} {v v' : Value} {xs : List K} {ys : List α} (h : KOwn w base v xs) (h' : GOwn cl e n w base' v' ys) (he : e ≠ 30) {b : Nat} (hb : v.ownBlock = some b) (hb' : v'.ownBlock = some b) : False := by
  rcases h.2 with ⟨rfl, _⟩ | ⟨g, cap, cur, rfl, _, hgg, _⟩
  · cases hb
  · cases hb
    exact h'.ne_blk hgg (fun h => he h.symm) hb'

set_option maxHeartbeats 1000000 in
theorem rtake_any (w : World) (base f : Nat) (sv : Value) (L : List (K × Int)) (least : Int) (hR : RefIs w base f sv L) (hn : L.length ≤ 10000) (hbw : base ≤ w.heap.size) :
    Calls Try.prog 15 #[.pointer (some ⟨f, 0, none⟩), .int .i64 least] w fun en w' => ∃ gv sv', en = .returned gv ∧ RefIs w' base f sv' (L.filter fun z => !decide (z.2 < least)) ∧
      KOwn w' w.heap.size gv ((L.filter fun z => decide (z.2 < least)).map (·.1)) ∧ Ext (· = f) w w' := by
  obtain ⟨a, c, b, rfl, hG, _, _⟩ := hR.own.read cel_len
  have hbl := hR.blk
  have hfl := blk_lt hbl
  have hfb := hR.fb
  clear hR
  go_enter Try.func15, Try.ntmps15
  go_wp2
  go_loopw [5, 6, 7] (fun g l i wr => ∃ k : Nat, k ≤ L.length ∧ i = .int .i64 k ∧ Ext none_ w wr ∧ KOwn wr w.heap.size g (gI least L k) ∧ GOwn cel 49 5 wr w.heap.size l (lI least L k)) (fun _ _ i _ => L.length - (intOf i).toNat)
  case atStart => exact ⟨0, Nat.zero_le _, rfl, Ext.refl _ _, KOwn.nil _ _, GOwn.nil _ _ _ _ _⟩
  case round =>
    obtain ⟨k, hk, rfl, hx, hg, hl⟩ := hrel
    have f0 := cells1 (hx.blk0 hbl)
    by_cases hlt : k < L.length
    · obtain ⟨p, hpk⟩ : ∃ p, L[k]? = some p := ⟨_, List.getElem?_eq_getElem hlt⟩
      obtain ⟨d0, d1, d2, d3, d4⟩ := (hG.ext0 hx).item hpk
      simp only [Nat.zero_add] at d0 d1 d2 d3 d4
      have ha1 := hG.addr (by omega)
      subst ha1
      have hsz := hx.size
      obtain ⟨hgl, hll⟩ := gI_len least L k
      by_cases hp : p.2 < least
      · have hd : decide (p.2 < least) = true := decide_eq_true hp
        obtain ⟨e1, e2⟩ := gI_yes hpk hp
        have E1 := Lib.hid e1
        have E2 := Lib.hid e2
        clear e1 e2
        go_wp2_with (first | (at_builtin; refine app_key rfl _ _ rfl w.heap.size _ _ p.1 hg rfl rfl (by omega) hsz ?_))
        intro v' w2 ho hx4 hv
        go_wp2
        refine ⟨⟨k + 1, by omega, by simp, hx.trans hx4 fun i hi hf => absurd (hg.lt i hf).1 (by omega), by rw [E1.out]; exact ho, by rw [E2.out]; exact hl.ext hx4 fun q h1 h2 => hg.ne_g hl (by decide) h2 h1⟩, by simp [intOf]; omega⟩
      · have hd : decide (p.2 < least) = false := decide_eq_false hp
        obtain ⟨e1, e2⟩ := gI_no hpk hp
        have E1 := Lib.hid e1
        have E2 := Lib.hid e2
        clear e1 e2
        go_wp2_with (first | (at_builtin; refine app_item2 rfl _ _ rfl w.heap.size _ _ p hl rfl rfl (by omega) hsz ?_))
        intro v' w2 ho hx4
        go_wp2
        refine ⟨⟨k + 1, by omega, by simp, hx.trans hx4 fun i hi hf => absurd (hl.lt i hf).1 (by omega), by rw [E1.out]; exact hg.ext hx4 fun q h1 h2 => hg.ne_g hl (by decide) h1 h2, by rw [E2.out]; exact ho⟩, by simp [intOf]; omega⟩
    · have hkn : k = L.length := by omega
      subst hkn
      have hbr := hx.blk0 hbl
      have gf := frozen_of hbr 0
      obtain ⟨a2, c2, b2, rfl, _⟩ := hl.read cel_len
      have e1 : gI least L L.length = (L.filter fun z => decide (z.2 < least)).map (·.1) := by unfold gI; rw [List.take_length]
      have e2 : lI least L L.length = L.filter fun z => !decide (z.2 < least) := by unfold lI; rw [List.take_length]
      have E1 := Lib.hid e1
      have E2 := Lib.hid e2
      clear e1 e2
      go_wp2
      go_ret
      rw [← E1.out, ← E2.out]
      refine ⟨_, _, rfl, RefIs.store hbr hfb (hl.base hbw), hg.ext (Ext.setCell _ _ _) fun q hq hq' => hg.ne_blk hbr (by decide) (by rw [hq]; simp only at hq'; rw [hq']), (hx.mono fun _ _ h => h.elim).trans (Ext.setCell _ _ _) fun _ _ h => h⟩

end Go.Proofs.Ytfjlclloddbkmaa
