/- The walks of the reference's Runes and Right. -/
import Derived.Test.YtocjidlbjmghdaaDoorNames
namespace Go.Proofs.YtocjidlbjmghdaaDoor
open Go.RowKit Go.Cw

theorem info21 : (Tryd.prog.info? 21).map (fun i => (i.zero, i.size, i.bytes)) = some (some (.int .i32 0), 1, 4) := by kernel_rfl

/-- a row of runes that the call owns -/
def ROwn (w : World) (base : Nat) (v : Value) (rs : List Int) : Prop := w.ownsRow base 21 1 v rs.length (rs.map (Value.int .i32))
theorem ROwn.nil (w : World) (base : Nat) : ROwn w base (.slice none 0 0) [] := ⟨rfl, .inl ⟨rfl, rfl⟩⟩
theorem ROwn.lt {w : World} {base : Nat} {v : Value} {rs : List Int} (h : ROwn w base v rs) (k : Nat) (hk : v.ownBlock = some k) : base ≤ k ∧ k < w.heap.size := World.ownsRow.lt h k hk
theorem ROwn.ext {F : Nat → Prop} {w w' : World} {base : Nat} {v : Value} {rs : List Int} (h : ROwn w base v rs) (hx : Ext F w w') (hF : ∀ b, v.ownBlock = some b → ¬ F b) : ROwn w' base v rs := by
  obtain ⟨h1, h2⟩ := h
  refine ⟨h1, ?_⟩
  rcases h2 with h2 | ⟨g, cap, cur, rfl, hb, hg, rest⟩
  · exact .inl h2
  · exact .inr ⟨g, cap, cur, rfl, hb, hx.blk hg (hF g rfl), rest⟩
theorem ROwn.ext0 {w w' : World} {base : Nat} {v : Value} {rs : List Int} (h : ROwn w base v rs) (hx : Ext none_ w w') : ROwn w' base v rs := h.ext hx fun _ _ => id

theorem ROwn.ne_iter {w : World} {base it pos : Nat} {v : Value} {rs : List Int} {s : ByteArray} (h : ROwn w base v rs) (hi : IterIs w it s pos) {b : Nat} (hb : v.ownBlock = some b) : b ≠ it := by
  rintro rfl
  rcases h.2 with ⟨rfl, _⟩ | ⟨g, cap, cur, rfl, _, hg, _⟩
  · cases hb
  · simp only [Value.ownBlock, Option.some.injEq] at hb
    subst hb
    rw [show w.heap[g]? = some (.stringIter s pos) from hi] at hg
    cases hg
theorem IterIs.ext {F : Nat → Prop} {w w' : World} {r pos : Nat} {s : ByteArray} (h : IterIs w r s pos) (hx : Ext F w w') (hF : ¬ F r) : IterIs w' r s pos := hx.blk h hF

/-- A slice's address reads as these runes. -/
structure RR (w : World) (a : Option Addr) (rs : List Int) (b off : Nat) : Prop where
  addr : 0 < rs.length → a = some ⟨b, off, none⟩
  cell : ∀ (j : Nat) (r : Int), rs[j]? = some r → w.cell? ⟨b, off + j, none⟩ = some (.int .i32 r)
theorem RR.ext0 {w w' : World} {a : Option Addr} {rs : List Int} {b off : Nat} (h : RR w a rs b off) (hx : Ext none_ w w') : RR w' a rs b off :=
  ⟨h.addr, fun j s hj => cell_ext0 hx (h.cell j s hj)⟩
theorem ROwn.read {w : World} {base : Nat} {v : Value} {rs : List Int} (h : ROwn w base v rs) : ∃ a c b, v = .slice a rs.length c ∧ RR w a rs b 0 := by
  rcases h.2 with ⟨rfl, h0⟩ | ⟨g, cap, cur, rfl, hb, hg, hc1, hc2, hc3, hc4⟩
  · rw [h0]
    exact ⟨none, 0, 0, rfl, fun h => by omega, fun j r hj => by
      have := (List.getElem?_eq_some_iff.1 hj).1; omega⟩
  · refine ⟨_, cap, g, rfl, fun _ => rfl, fun j z hj => ?_⟩
    rw [cell_of hg, Nat.zero_add]
    have hj' : (rs.map (Value.int .i32))[j]? = some (.int .i32 z) := by simp [hj]
    rw [← hc4, List.getElem?_take] at hj'
    split at hj'
    · simpa using hj'
    · cases hj'

theorem app_rune {ops : Array Oper} {rest : List Oper} {o : Oper} {a : Act} {Q : Exit → Act → World → Prop} {w : World} (hgd : o.guard = none) (s y : Operand) (ho : o.op = .call { callee := .builtin .append, args := #[s, y], argTypes := #[30, 30] })
    (base : Nat) (v : Value) (rs : List Int) (x : Int) (hown : ROwn w base v rs) (hs : a.eval s = v) (bs : Nat) (hx : a.eval y = .slice (some ⟨bs, 0, none⟩) 1 1) (hc : w.cell? ⟨bs, 0, none⟩ = some (.int .i32 x))
    (hn : rs.length ≤ 1000000) (hb : base ≤ w.heap.size)
    (h : ∀ v' w', ROwn w' base v' (rs ++ [x]) → Ext (fun b => v.ownBlock = some b) w w' → wpList Tryd.prog ops Q rest (a.put o.dst v') w') :
    wpList Tryd.prog ops Q (o :: rest) a w := by
  obtain ⟨i0, hi, hz0, hz1, hz2⟩ := info_parts info21
  refine wpList_append_own w hgd s y 30 ho base 21 i0 _ 1 4 Tryd.underlying30 hi hz0 hz1 hz2 rfl (by decide) v _ _ hs hown ⟨bs, 0, none⟩ 1 1 [.int .i32 x] hx rfl ?_ ?_ ?_ ?_ hb ?_
  · intro j u hj
    match j, hj with
    | 0, hj => simp at hj; subst hj; simpa [Addr.add] using hc
  · intro u hu; simp at hu; subst hu; rfl
  · unfold maxLen; omega
  · omega
  · intro v' w' h1 h2 _
    refine h v' w' ?_ ?_
    · unfold ROwn
      rw [List.length_append, List.map_append]
      exact h1
    · exact (Ext.grown h2).mono fun _ _ h => h.symm

/-- a text's runes, as numbers -/
def zs (rs : List Nat) : List Int := rs.map (Int.ofNat ·)
theorem cells1 {w : World} {b : Nat} {c0 : Value} {e : TypeId} {f : Nat × Nat} (hb : w.heap[b]? = some (.cells #[c0] e f)) : w.cell? ⟨b, 0, none⟩ = some c0 := by
  rw [cell_of hb]; rfl

set_option maxHeartbeats 2000000 in
set_option maxRecDepth 100000 in
theorem runes_any (w : World) (s : ByteArray) (hs : s.size ≤ 100000) : Calls Tryd.prog 23 #[.string s] w fun e w' => ∃ v, e = .returned v ∧ ROwn w' w.heap.size v (zs (runes s)) ∧ Ext none_ w w' := by
  have hlen := runes_len s
  go_enter Tryd.func23, Tryd.ntmps23
  go_wp2_with fail
  have hit : IterIs (w.iter s 0) w.heap.size s 0 := World.iter_heap w s 0
  have hx0 : Ext none_ w (w.iter s 0) := Ext.alloc w _
  have hsz0 : w.heap.size < (w.iter s 0).heap.size := hit.lt
  generalize w.iter s 0 = w1 at *
  generalize hil : w.heap.size = it at *
  have hil' : w.heap.size ≤ it := by omega
  have hil2 : it ≤ w.heap.size := by omega
  have Hil := Lib.hid hil
  clear hil
  go_loopw [3] (fun v wr => ∃ (pos : Nat) (pre : List Nat), IterIs wr it s pos ∧ Ext none_ w wr ∧ ROwn wr it v (zs pre) ∧ Hid (pre ++ rest s pos = runes s) ∧ pre.length ≤ 100000) (fun _ wr => s.size - wr.iterPos it)
  case atStart => exact ⟨0, [], hit, hx0, ROwn.nil _ _, Lib.hid (by rw [rest_zero]; rfl), by simp⟩
  case round =>
    obtain ⟨pos, pre, hir, hx, hown, Hok, hpl⟩ := hrel
    go_wp2_with (refine wpList_nextStr rfl _ rfl rfl hir ?_ ?_)
    · intro hpos
      have hpe : ¬ pos < s.size := by omega
      have Hre := Lib.hid (rest_end hpe)
      clear hpe
      go_wp2
      go_ret
      refine ⟨_, rfl, ?_, hx⟩
      have := Hok.out
      rw [Hre.out, List.append_nil] at this
      rw [← this, Hil.out]; exact hown
    · intro hpos
      have hrm := rest_more hpos
      have Hrm := Lib.hid hrm
      have hge := decode_ge s pos hpos
      have hir' := hir.set (pos + (Utf8.decode s pos).2)
      have hsx := setIter_ext wr it s (pos + (Utf8.decode s pos).2)
      have hown' := hown.ext hsx fun b hb e => hown.ne_iter hir hb e
      have hx' := hx.trans hsx fun i hi e => by omega
      clear hrm hsx
      have Hpl : Hid (pre.length + 1 ≤ 100000) := Lib.hid (by
        have := congrArg List.length Hok.out
        rw [Hrm.out] at this
        simp only [List.length_append, List.length_cons] at this
        omega)
      generalize setIter wr it s (pos + (Utf8.decode s pos).2) = w5 at *
      generalize (Utf8.decode s pos).2 = d at *
      generalize (Utf8.decode s pos).1 = r at *
      have hzl : (zs pre).length ≤ 1000000 := by unfold zs; rw [List.length_map]; omega
      have hb5 : it ≤ (w5.alloc (.cells #[.int .i32 (r : Int)] 21)).heap.size := by have := hir'.lt; simp; omega
      go_wp2_with (refine app_rune rfl _ _ rfl it _ (zs pre) (r : Int) (hown'.ext0 (Ext.alloc _ _)) rfl w5.heap.size rfl (cells1 (blk_new _ _)) hzl hb5 ?_)
      intro v6 w6 hown6 hx6
      have hx5 := hx'.grow (Ext.alloc w5 (.cells #[.int .i32 (r : Int)] 21))
      have hi5 := IterIs.ext hir' (Ext.alloc w5 (.cells #[.int .i32 (r : Int)] 21)) id
      have hi6 := IterIs.ext hi5 hx6 fun hb => hown'.ne_iter hir' hb rfl
      have hx6' := hx5.trans hx6 fun i hi hb => by have := (hown'.lt i hb).1; omega
      go_wp2
      refine ⟨⟨pos + d, pre ++ [r], hi6, hx6', ?_, Lib.hid ?_, by rw [List.length_append]; exact Hpl.out⟩, ?_⟩
      · unfold zs at hown6 ⊢; rw [List.map_append]; exact hown6
      · rw [← Hok.out, Hrm.out, List.append_assoc]; rfl
      · rw [iterPos_of hi6, iterPos_of hir]; omega

end Go.Proofs.YtocjidlbjmghdaaDoor
