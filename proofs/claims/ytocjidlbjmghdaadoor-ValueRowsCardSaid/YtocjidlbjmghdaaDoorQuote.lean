/- The walk of Quote: a Builder is written byte by byte and rune by rune. -/
import Derived.Test.YtocjidlbjmghdaaDoorUtf
import Derived.Test.YtocjidlbjmghdaaDoorShelf
namespace Go.Proofs.YtocjidlbjmghdaaDoor
open Go.RowKit Go.Cw

/-- what a rune is between quotation marks -/
def qr (r : Int) : List UInt8 := if r = 34 ∨ r = 92 then 92 :: Lib.encodeRune r else if r = 10 then [92, 110] else Lib.encodeRune r
def quoteP (rs : List Nat) : List UInt8 := (34 :: (zs rs).flatMap qr) ++ [34]

/-- block b is a Builder that holds these bytes -/
def Bd (w : World) (B b : Nat) (l : List UInt8) : Prop := Lib.IsBuilderF 95 5 B b (Lib.byteCells l) w
theorem Bd.ext0 {w w' : World} {B b : Nat} {l : List UInt8} (h : Bd w B b l) (hx : Ext none_ w w') : Bd w' B b l := by
  rcases h with ⟨hB, v, hv, hown, hne⟩ | ⟨hB, v, hv, hown, hne⟩
  · exact .inl ⟨hB, v, hx.blk0 hv, hown.kept (row := none) ⟨hx.os, hx.tape, hx.output, hx.size, fun k hk _ => hx.block k hk id⟩ (Classical.em _), hne⟩
  · exact .inr ⟨hB, v, hx.blk0 hv, hown.kept (row := none) ⟨hx.os, hx.tape, hx.output, hx.size, fun k hk _ => hx.block k hk id⟩ (Classical.em _), hne⟩
theorem Bd.fresh (w : World) : Bd (w.alloc (.cells #[.pointer none, .slice none 0 0] 95)) w.heap.size w.heap.size [] := Lib.IsBuilderF.of (Lib.fresh_isBuilder 95 5 w)
theorem rowF_ne_iter {w : World} {B it pos n : Nat} {v : Value} {xs : List Value} {s : ByteArray} (h : w.ownsRowF B 5 1 v n xs) (hi : IterIs w it s pos) : v.ownBlock = none ∨ v.ownBlock ≠ some it := by
  rcases h.2 with ⟨rfl, _⟩ | ⟨g, cap, cur, fz, rfl, _, hg, _⟩
  · exact .inl rfl
  · refine .inr fun e => ?_
    simp only [Value.ownBlock, Option.some.injEq] at e
    subst e
    rw [show w.heap[g]? = some (.stringIter s pos) from hi] at hg
    cases hg
theorem Bd.ne_iter {w : World} {B b it pos : Nat} {l : List UInt8} {s : ByteArray} (h : Bd w B b l) (hi : IterIs w it s pos) : b ≠ it := by
  rintro rfl
  rcases h with ⟨_, v, hv, _⟩ | ⟨_, v, hv, _⟩ <;>
  · rw [show w.heap[b]? = some (.stringIter s pos) from hi] at hv
    cases hv
theorem Bd.iter {w : World} {B b it pos : Nat} {l : List UInt8} {s : ByteArray} (h : Bd w B b l) (hi : IterIs w it s pos) (p : Nat) : Bd (setIter w it s p) B b l := by
  have hx := setIter_ext w it s p
  have hne := h.ne_iter hi
  have hg : w.grownBy (setIter w it s p) (some it) := ⟨rfl, rfl, rfl, by simp [setIter], fun k hk hn => hx.block k hk fun e => hn (by rw [e])⟩
  rcases h with ⟨hB, v, hv, hown, hn⟩ | ⟨hB, v, hv, hown, hn⟩
  · exact .inl ⟨hB, v, hx.blk hv hne, hown.kept hg (rowF_ne_iter hown hi), hn⟩
  · exact .inr ⟨hB, v, hx.blk hv hne, hown.kept hg (rowF_ne_iter hown hi), hn⟩

theorem IterIs.others {w w' : World} {b it pos : Nat} {s : ByteArray} (hi : IterIs w it s pos) (h : Lib.OthersKept 5 (some b) w w') (hne : b ≠ it) : IterIs w' it s pos :=
  h it _ hi (by simpa using fun e => hne e.symm) (by simp)

theorem bd_byte {B b : Nat} {l : List UInt8} (c : Int) (hc : 0 ≤ c ∧ c < 256) {w : World} (h : Bd w B b l) (hlen : l.length + 1 ≤ 140737488355328) (hBw : B ≤ w.heap.size) :
    Calls Tryd.prog 62 #[.pointer (some ⟨b, 0, none⟩), .int .u8 c] w fun e w' => e = .returned .nilIface ∧ Bd w' B b (l ++ [c.toNat.toUInt8]) ∧ Below B w w' ∧ Lib.OthersKept 5 (some b) w w' := by
  refine (wbyte B b _ c w h (by rw [Lib.byteCells_length]; exact hlen) hBw).mono ?_
  rintro e w' ⟨rfl, h1, h2, h3⟩
  refine ⟨rfl, .inr ?_, h2, h3⟩
  rw [Lib.byteCells_append]
  have : Lib.byteCells [c.toNat.toUInt8] = [.int .u8 c] := by
    simp only [Lib.byteCells, List.map_cons, List.map_nil]
    rw [u8nat (by omega)]
    congr 2; omega
  rw [this]; exact h1
theorem bd_rune {B b : Nat} {l : List UInt8} (r : Int) (hr0 : -2147483648 ≤ r) (hr1 : r ≤ 2147483647) {w : World} (h : Bd w B b l) (hlen : l.length + 4 ≤ 140737488355328) (hBw : B ≤ w.heap.size) :
    Calls Tryd.prog 63 #[.pointer (some ⟨b, 0, none⟩), .int .i32 r] w fun e w' => (∃ v, e = .returned v) ∧ Bd w' B b (l ++ Lib.encodeRune r) ∧ Below B w w' ∧ Lib.OthersKept 5 (some b) w w' := by
  refine (wrune B b _ r hr0 hr1 w h (by rw [Lib.byteCells_length]; exact hlen) hBw).mono ?_
  rintro e w' ⟨rfl, h1, h2, h3⟩
  refine ⟨⟨_, rfl⟩, .inr ?_, h2, h3⟩
  rw [Lib.byteCells_append, Lib.byteCells_encodeRune]; exact h1
theorem bd_str {B b : Nat} {l : List UInt8} (s : ByteArray) {w : World} (h : Bd w B b l) (hlen : l.length + s.size ≤ 140737488355328) (hBw : B ≤ w.heap.size) :
    Calls Tryd.prog 65 #[.pointer (some ⟨b, 0, none⟩), .string s] w fun e w' => (∃ v, e = .returned v) ∧ Bd w' B b (l ++ s.data.toList) ∧ Below B w w' ∧ Lib.OthersKept 5 (some b) w w' := by
  refine (wstr B b _ s w h (by rw [Lib.byteCells_length]; exact hlen) hBw).mono ?_
  rintro e w' ⟨rfl, h1, h2, h3⟩
  refine ⟨⟨_, rfl⟩, .inr ?_, h2, h3⟩
  rw [Lib.byteCells_append, ← Lib.strCells_eq]; exact h1
theorem ext_of_below {w w' : World} (h : Below w.heap.size w w') : Ext none_ w w' := ⟨h.os, h.tape, h.output, h.size, fun k hk _ => h.block k hk⟩

theorem qr_len (r : Int) : (qr r).length ≤ 5 := by
  have := (enc_len r).2
  unfold qr
  split
  · simp; omega
  · split
    · simp
    · omega
theorem qflat_len : ∀ rs : List Int, (rs.flatMap qr).length ≤ 5 * rs.length
  | [] => by simp
  | r :: rs => by
    have := qr_len r
    have := qflat_len rs
    simp only [List.flatMap_cons, List.length_append, List.length_cons]; omega

set_option maxHeartbeats 4000000 in
set_option maxRecDepth 100000 in
theorem quote_any (w : World) (s : ByteArray) (hs : s.size ≤ 100000) :
    Calls Tryd.prog 32 #[.string s] w fun e w' => e = .returned (.string ⟨(quoteP (runes s)).toArray⟩) ∧ Ext none_ w w' := by
  go_enter Tryd.func32, Tryd.ntmps32
  go_wp2_with fail
  have hb1 := Bd.fresh w
  have hbl1 : Below w.heap.size w (w.alloc (.cells #[.pointer none, .slice none 0 0] 95)) := (Below.refl _ w).alloc (Nat.le_refl _) _
  have hsz1 : w.heap.size ≤ (w.alloc (.cells #[.pointer none, .slice none 0 0] 95)).heap.size := hbl1.size
  generalize w.alloc (.cells #[.pointer none, .slice none 0 0] 95) = w1 at *
  refine (bd_byte 34 (by omega) hb1 (by simp) hsz1).mono ?_
  rintro e w2 ⟨rfl, hb2, hbl2, _⟩
  have hb2' : Bd w2 w.heap.size w.heap.size (34 :: (zs []).flatMap qr) := hb2
  have hbl2' := hbl1.trans hbl2
  clear hb2 hb1 hbl1 hsz1 hbl2
  go_wp2_with fail
  have hit : IterIs (w2.iter s 0) w2.heap.size s 0 := World.iter_heap w2 s 0
  have hx0 : Ext none_ w2 (w2.iter s 0) := Ext.alloc w2 _
  have hb3 := hb2'.ext0 hx0
  have hbl3 : Below w.heap.size w (w2.iter s 0) := hbl2'.trans (hx0.toBelow.mono hbl2'.size)
  have hitw : w.heap.size ≤ w2.heap.size := hbl2'.size
  generalize w2.iter s 0 = w3 at *
  generalize w2.heap.size = it at *
  clear hx0 hb2' hbl2'
  go_loopw [9] (fun _ wr => ∃ (pos : Nat) (pre : List Nat), IterIs wr it s pos ∧ Bd wr w.heap.size w.heap.size (34 :: (zs pre).flatMap qr) ∧ Below w.heap.size w wr ∧ Hid (pre ++ rest s pos = runes s)) (fun _ wr => s.size - wr.iterPos it)
  case atStart => exact ⟨0, [], hit, hb3, hbl3, Lib.hid (by rw [rest_zero]; rfl)⟩
  case round =>
    obtain ⟨pos, pre, hir, hb, hbl, Hok⟩ := hrel
    have hn := runes_len s
    have hpl : (34 :: (zs pre).flatMap qr).length ≤ 500001 := by
      have h1 := congrArg List.length Hok.out
      have h2 := qflat_len (zs pre)
      rw [zs_len] at h2
      rw [List.length_append] at h1
      rw [List.length_cons]
      omega
    go_wp2_with (refine wpList_nextStr rfl _ rfl rfl hir ?_ ?_)
    · intro hpos
      have Hre := Lib.hid (rest_end (show ¬ pos < s.size by omega))
      go_wp2_with fail
      refine (bd_byte 34 (by omega) hb (by omega) hbl.size).mono ?_
      rintro e w5 ⟨rfl, hb5, hbl5, _⟩
      have hbl5' := hbl.trans hbl5
      go_wp2_with fail
      refine (bstring _ _ _ w5 hb5 hbl5'.size).mono ?_
      rintro e w6 ⟨rfl, _, hbl6, _⟩
      have hq : 34 :: ((zs pre).flatMap qr ++ [34]) = quoteP (runes s) := by
        have := Hok.out
        rw [Hre.out, List.append_nil] at this
        rw [this]; rfl
      have Hq := Lib.hid hq
      clear hq
      go_wp2
      go_ret
      exact ⟨by rw [Hq.out]; rfl, ext_of_below (hbl5'.trans hbl6)⟩
    · intro hpos
      have Hrm := Lib.hid (rest_more hpos)
      have hge := decode_ge s pos hpos
      have hv := (runes_valid s (Utf8.decode s pos).1 (by rw [← Hok.out, Hrm.out]; simp)).2
      have hir' := hir.set (pos + (Utf8.decode s pos).2)
      have hsx := setIter_ext wr it s (pos + (Utf8.decode s pos).2)
      have hb' := hb.iter hir (pos + (Utf8.decode s pos).2)
      have hne := hb'.ne_iter hir'
      have hbl' : Below w.heap.size w (setIter wr it s (pos + (Utf8.decode s pos).2)) := ⟨hbl.os, hbl.tape, hbl.output, Nat.le_trans hbl.size hsx.size, fun k hk => (hsx.block k (by have := hbl.size; omega) (by omega)).trans (hbl.block k hk)⟩
      have hip := iterPos_of hir
      clear hsx hir hb hbl
      generalize setIter wr it s (pos + (Utf8.decode s pos).2) = w5 at *
      generalize (Utf8.decode s pos).2 = d at *
      generalize (Utf8.decode s pos).1 = r at *
      have hsn : ∀ (l : List UInt8) (wz : World), Bd wz w.heap.size w.heap.size l → l = (34 :: (zs pre).flatMap qr) ++ qr r → IterIs wz it s (pos + d) → Below w.heap.size w wz →
          (∃ (pos : Nat) (pre : List Nat), IterIs wz it s pos ∧ Bd wz w.heap.size w.heap.size (34 :: (zs pre).flatMap qr) ∧ Below w.heap.size w wz ∧ Hid (pre ++ rest s pos = runes s)) ∧ s.size - wz.iterPos it < s.size - wr.iterPos it := by
        intro l wz h1 h2 h3 h4
        refine ⟨⟨pos + d, pre ++ [r], h3, ?_, h4, Lib.hid (by rw [← Hok.out, Hrm.out, List.append_assoc]; rfl)⟩, by rw [iterPos_of h3, hip]; omega⟩
        rw [h2] at h1
        have : (zs (pre ++ [r])).flatMap qr = (zs pre).flatMap qr ++ qr r := by simp [zs]
        rw [this]; exact h1
      have Hsn := Lib.hid hsn
      clear hsn
      by_cases h34 : r = 34 ∨ r = 92
      · have hq : qr (r : Int) = 92 :: Lib.encodeRune r := by unfold qr; rw [if_pos (by omega)]
        have Hq := Lib.hid hq
        clear hq
        rcases h34 with h34 | h34
        all_goals
          have hd : ((r : Int) == 34) = decide (r = 34) := by simp [h34]
          have hd2 : ((r : Int) == 92) = decide (r = 92) := by simp [h34]
          simp only [h34, decide_true, show decide (92 = 34) = false from rfl, show decide (34 = 92) = false from rfl] at hd hd2
          go_wp2_with fail
          refine (bd_byte 92 (by omega) hb' (by omega) hbl'.size).mono ?_
          rintro e w6 ⟨rfl, hb6, hbl6, ho6⟩
          have hi6 := IterIs.others hir' ho6 hne
          have hbl6' := hbl'.trans hbl6
          go_wp2_with fail
          refine (bd_rune _ (by omega) (by omega) hb6 (by rw [List.length_append]; simp only [List.length_cons, List.length_nil] at hpl ⊢; omega) hbl6'.size).mono ?_
          rintro e w7 ⟨⟨v7, rfl⟩, hb7, hbl7, ho7⟩
          have hi7 := IterIs.others hi6 ho7 hne
          go_wp2
          exact Hsn.out _ w7 hb7 (by rw [Hq.out, List.append_assoc, h34]; rfl) hi7 (hbl6'.trans hbl7)
      · have hd : ((r : Int) == 34) = false := by simp; omega
        have hd2 : ((r : Int) == 92) = false := by simp; omega
        by_cases h10 : r = 10
        · have hd3 : ((r : Int) == 10) = true := by simp [h10]
          have hq : qr (r : Int) = [92, 110] := by unfold qr; rw [if_neg (by omega), if_pos (by omega)]
          have Hq := Lib.hid hq
          clear hq h34
          go_wp2_with fail
          refine (bd_str _ hb' (by show _ + 2 ≤ _; omega) hbl'.size).mono ?_
          rintro e w6 ⟨⟨v6, rfl⟩, hb6, hbl6, ho6⟩
          have hi6 := IterIs.others hir' ho6 hne
          have hbl6' := hbl'.trans hbl6
          go_wp2
          exact Hsn.out _ w6 hb6 (by rw [Hq.out]) hi6 hbl6'
        · have hd3 : ((r : Int) == 10) = false := by simp; omega
          have hq : qr (r : Int) = Lib.encodeRune r := by unfold qr; rw [if_neg (by omega), if_neg (by omega)]
          have Hq := Lib.hid hq
          clear hq h34 h10
          go_wp2_with fail
          refine (bd_rune _ (by omega) (by omega) hb' (by omega) hbl'.size).mono ?_
          rintro e w6 ⟨⟨v6, rfl⟩, hb6, hbl6, ho6⟩
          have hi6 := IterIs.others hir' ho6 hne
          have hbl6' := hbl'.trans hbl6
          go_wp2
          exact Hsn.out _ w6 hb6 (by rw [Hq.out]) hi6 hbl6'

end Go.Proofs.YtocjidlbjmghdaaDoor
