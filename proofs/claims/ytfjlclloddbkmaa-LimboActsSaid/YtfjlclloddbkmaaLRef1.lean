/- The walks of the reference's limbo: Find and drop. -/
import Derived.Test.YtfjlclloddbkmaaLSim
namespace Go.Proofs.Ytfjlclloddbkmaa
open Go.RowKit Go.Cw

/-- an item's cells -/
def cel (p : K × Int) : List Value := [.int .i64 p.1.k, .int .i64 p.1.a, .int .i64 p.1.b, .string p.1.s, .int .i64 p.2]
theorem cel_len (p : K × Int) : (cel p).length = 5 := rfl
theorem cel_one (p : K × Int) : ∀ u ∈ cel p, u.oneCell' = true := by
  intro u hu
  simp only [cel, List.mem_cons, List.not_mem_nil, or_false] at hu
  rcases hu with rfl | rfl | rfl | rfl | rfl <;> rfl
/-- the reference's limbo at block f -/
structure RefIs (w : World) (base f : Nat) (sv : Value) (L : List (K × Int)) : Prop where
  blk : w.heap[f]? = some (.cells #[sv] 44 (0, 0))
  own : GOwn cel 49 5 w base sv L
  fb : base ≤ f
def RFoot (f : Nat) (sv : Value) (b : Nat) : Prop := b = f ∨ sv.ownBlock = some b
theorem GOwn.ne_blk {α : Type} {cl : α → List Value} {e n : Nat} {w : World} {base b : Nat} {v : Value} {xs : List α} {c : Array Value} {t : TypeId} {f : Nat × Nat} (h : GOwn cl e n w base v xs) (hb : w.heap[b]? = some (.cells c t f)) (ht : t ≠ e) : v.ownBlock ≠ some b := by
  intro e
  rcases h.2 with ⟨rfl, _⟩ | ⟨g, cap, cur, rfl, _, hgg, _⟩
  · cases e
  · cases e; rw [hb] at hgg; cases hgg; exact ht rfl
theorem RefIs.ext {F : Nat → Prop} {w w' : World} {base f : Nat} {sv : Value} {L : List (K × Int)} (h : RefIs w base f sv L) (hx : Ext F w w') (hF : ∀ b, RFoot f sv b → ¬ F b) : RefIs w' base f sv L :=
  ⟨hx.blk h.blk (hF f (.inl rfl)), h.own.ext hx (fun b hb => hF b (.inr hb)), h.fb⟩
theorem RefIs.ext0 {w w' : World} {base f : Nat} {sv : Value} {L : List (K × Int)} (h : RefIs w base f sv L) (hx : Ext none_ w w') : RefIs w' base f sv L := h.ext hx fun _ _ => id
theorem RefIs.since {W w w' : World} {f : Nat} {sv : Value} {L : List (K × Int)} (h : RefIs w W.heap.size f sv L) (hW : Ext none_ W w) (hx : Ext (RFoot f sv) w w') : Ext none_ W w' :=
  hW.trans hx fun i hi hf => by
    rcases hf with rfl | hf
    · have := h.fb; omega
    · have := (h.own.lt _ hf).1; omega
/-- the row's slice stored back -/
theorem RefIs.store {w : World} {base f : Nat} {sv sv' : Value} {L : List (K × Int)} (hb : w.heap[f]? = some (.cells #[sv] 44 (0, 0))) (hf : base ≤ f) (ho : GOwn cel 49 5 w base sv' L) : RefIs (w.setCell ⟨f, 0, none⟩ sv') base f sv' L :=
  ⟨by simpa using blk_set hb 0 sv', ho.ext (Ext.setCell _ _ _) (fun b hb' e => by simp only at e; subst e; exact ho.ne_blk hb (by decide) hb'), hf⟩
/-- an item read -/
theorem GR.item {w : World} {a : Option Addr} {L : List (K × Int)} {b off : Nat} (h : GR cel 5 w a L b off) {k : Nat} {p : K × Int} (hk : L[k]? = some p) :
    w.cell? ⟨b, off + k * 5, none⟩ = some (.int .i64 p.1.k) ∧ w.cell? ⟨b, off + k * 5 + 1, none⟩ = some (.int .i64 p.1.a) ∧ w.cell? ⟨b, off + k * 5 + 2, none⟩ = some (.int .i64 p.1.b) ∧ w.cell? ⟨b, off + k * 5 + 3, none⟩ = some (.string p.1.s) ∧ w.cell? ⟨b, off + k * 5 + 4, none⟩ = some (.int .i64 p.2) :=
  ⟨h.cell k p hk 0 _ rfl, h.cell k p hk 1 _ rfl, h.cell k p hk 2 _ rfl, h.cell k p hk 3 _ rfl, h.cell k p hk 4 _ rfl⟩

set_option maxHeartbeats 1000000 in
theorem find_any (w : World) (base f : Nat) (sv : Value) (L : List (K × Int)) (x : K) (hR : RefIs w base f sv L) (hn : L.length ≤ 100000) :
    Calls Try.prog 17 #[.pointer (some ⟨f, 0, none⟩), x.val] w fun e w' => ∃ r : Int, e = .returned (.int .i64 r) ∧ Ext none_ w w' ∧ ((r = -1 ∧ ∀ p ∈ L, p.1 ≠ x) ∨ ∃ (i : Nat) (v : Int), r = i ∧ L[i]? = some (x, v)) := by
  have hx1 := Ext.alloc w (.cells #[.int .i64 x.k, .int .i64 x.a, .int .i64 x.b, .string x.s] 30)
  have hb1 := blk_new w (.cells #[.int .i64 x.k, .int .i64 x.a, .int .i64 x.b, .string x.s] 30)
  obtain ⟨a, c, b, rfl, hG, _, _⟩ := hR.own.read cel_len
  have hG1 := hG.ext0 hx1
  have hbl := hR.blk
  clear hG hR
  unfold K.val
  go_enter Try.func17, Try.ntmps17
  go_wp2
  have hbl1 := hx1.blk0 hbl
  generalize w.alloc (.cells #[.int .i64 x.k, .int .i64 x.a, .int .i64 x.b, .string x.s] 30) = w1 at *
  clear hbl
  go_loopw [5] (fun i wr => ∃ k : Nat, k ≤ L.length ∧ i = .int .i64 k ∧ Ext none_ w1 wr ∧ ∀ j, j < k → ∀ p, L[j]? = some p → ¬ p.1 = x) (fun i _ => L.length - (intOf i).toNat)
  case atStart => exact ⟨0, Nat.zero_le _, rfl, Ext.refl _ _, fun j hj => absurd hj (by omega)⟩
  case round =>
    obtain ⟨k, hk, rfl, hx, hall⟩ := hrel
    have f0 := cells1 (hx.blk0 hbl1)
    by_cases hlt : k < L.length
    · obtain ⟨p, hpk⟩ : ∃ p, L[k]? = some p := ⟨_, List.getElem?_eq_getElem hlt⟩
      obtain ⟨d0, d1, d2, d3, d4⟩ := (hG1.ext0 hx).item hpk
      simp only [Nat.zero_add] at d0 d1 d2 d3 d4
      obtain ⟨k0, k1, k2, k3⟩ := cells4 (hx.blk0 hb1)
      have ha1 := hG1.addr (by omega)
      subst ha1
      have hne := key_eql p.1 x
      unfold K.val at hne
      have Hall := Lib.hid hall
      have Hb1 := Lib.hid hb1
      clear hall hb1
      go_wp2
      go_quiet (fail)
      clear hne
      have hx2 := hx.grow (Ext.drewN wr nq)
      by_cases hxy : p.1 = x
      · have Hxy := Lib.hid hxy
        simp only [hxy, decide_true]
        clear hxy
        go_wp2
        go_ret
        refine ⟨_, rfl, hx1.grow hx2, .inr ⟨k, p.2, rfl, ?_⟩⟩
        rw [hpk, ← Hxy.out]
      · have Hxy := Lib.hid hxy
        simp only [hxy, decide_false]
        clear hxy
        go_wp2
        refine ⟨⟨k + 1, by omega, by simp, hx2, fun j hj y' hy' => ?_⟩, by simp [intOf]; omega⟩
        by_cases hjk : j = k
        · subst hjk; rw [hpk] at hy'; cases hy'; exact Hxy.out
        · exact Hall.out j (by omega) y' hy'
    · have hkn : k = L.length := by omega
      subst hkn
      have Hall := Lib.hid hall
      clear hall
      go_wp2
      go_ret
      refine ⟨_, rfl, hx1.grow hx, .inl ⟨rfl, fun p hp e => ?_⟩⟩
      obtain ⟨j, hj⟩ := List.getElem?_of_mem hp
      exact Hall.out j (List.getElem?_eq_some_iff.1 hj).1 p hj e

theorem info49 : (Try.prog.info? 49).map (fun i => (i.zero, i.size, i.bytes)) = some (some (.agg #[.int .i64 0, .int .i64 0, .int .i64 0, .string .empty, .int .i64 0]), 5, 48) := by kernel_rfl

set_option maxHeartbeats 1000000 in
theorem drop_any (w : World) (base f : Nat) (sv : Value) (L : List (K × Int)) (i : Nat) (hR : RefIs w base f sv L) (hn : L.length ≤ 10000) (hi : i < L.length) (hbw : base ≤ w.heap.size) :
    Calls Try.prog 26 #[.pointer (some ⟨f, 0, none⟩), .int .i64 i] w fun e w' => ∃ sv', e = .returned (.tuple #[]) ∧ RefIs w' base f sv' (L.take i ++ L.drop (i + 1)) ∧ Ext (· = f) w w' ∧ (∀ b, sv'.ownBlock = some b → w.heap.size ≤ b) := by
  obtain ⟨a, c, b, rfl, hG, hlc, hac⟩ := hR.own.read cel_len
  have hbl := hR.blk
  have ha := hG.addr (by omega)
  subst ha
  have hfl := blk_lt hbl
  have hfb := hR.fb
  have f0 := cells1 hbl
  have hltk : (L.take i).length = i := by rw [List.length_take]; omega
  have hdtk : (L.drop (i + 1)).length = L.length - (i + 1) := by rw [List.length_drop]
  have hG1 : GR cel 5 w (some ⟨b, 0, none⟩) (L.take i) b 0 := ⟨fun _ => rfl, fun j x hj => hG.cell j x (by rw [List.getElem?_take] at hj; split at hj; exact hj; cases hj)⟩
  have hG2 : GR cel 5 w (if c = i + 1 then some ⟨b, 0, none⟩ else some ⟨b, (i + 1) * 5, none⟩) (L.drop (i + 1)) b ((i + 1) * 5) := ⟨fun h => if_neg (by omega), fun j x hj q u hq => by
    have := hG.cell (i + 1 + j) x (by rw [← List.getElem?_drop]; exact hj) q u hq
    rw [show (i + 1) * 5 + j * 5 + q = 0 + (i + 1 + j) * 5 + q by omega]; exact this⟩
  go_enter Try.func26, Try.ntmps26
  go_wp2_with (first | (at_builtin; refine app_gs (cl := cel) Try.underlying42 info49 rfl (by decide) (by decide) cel_len cel_one rfl _ _ rfl w.heap.size _ [] (L.take i) (GOwn.nil _ _ _ _ _) rfl _ b 0 c (by rw [hltk]; rfl) hG1 (by omega) (fun h => by cases h) (by simp; omega) (Nat.le_refl _) ?_))
  intro out1 w1 ho1 hx1
  have hx1' : Ext none_ w w1 := hx1.mono fun _ _ h => by cases h
  have hbl1 := hx1'.blk0 hbl
  have f1 := cells1 hbl1
  have hG2' := hG2.ext0 hx1'
  have hsz := hx1'.size
  clear f0 hx1
  go_wp2_with (first | (at_builtin; refine app_gs (cl := cel) Try.underlying42 info49 rfl (by decide) (by decide) cel_len cel_one rfl _ _ rfl w.heap.size _ (L.take i) (L.drop (i + 1)) ho1 rfl _ b ((i + 1) * 5) (c - (i + 1)) (by rw [hdtk]; rfl) hG2' (by omega) (fun h => by split at h <;> cases h) (by omega) (by omega) ?_))
  all_goals
    intro out2 w2 ho2 hx2
    have hx2' : Ext none_ w w2 := hx1'.trans hx2 fun q hq h => by have := (ho1.lt q h).1; omega
    have hbl2 := hx2'.blk0 hbl
    have f2 := cells1 hbl2
    have fr := frozen_of hbl2 0
    obtain ⟨L', hL'⟩ : ∃ L', L.take i ++ L.drop (i + 1) = L' := ⟨_, rfl⟩
    rw [hL'] at ho2
    have HL' := Lib.hid hL'
    obtain ⟨a2, c2, b2, rfl, _⟩ := ho2.read cel_len
    clear f1 hL' hltk hdtk
    go_wp2
    go_end0
    rw [HL'.out]
    exact ⟨_, rfl, RefIs.store hbl2 hfb (ho2.base hbw), (hx2'.mono fun _ _ h => h.elim).trans (Ext.setCell _ _ _) fun _ _ h => h, fun q hq => (ho2.lt q hq).1⟩

end Go.Proofs.Ytfjlclloddbkmaa
