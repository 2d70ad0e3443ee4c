/- The walk of Unquote. -/
import Derived.Test.YtocjidlbjmghdaaDoorUnqPlain
import Derived.Test.YtocjidlbjmghdaaDoorCut
namespace Go.Proofs.YtocjidlbjmghdaaDoor
open Go.RowKit Go.Cw

/-- what the call gives: the text, or ErrForm -/
def unqV : Option (List UInt8) → Value
  | some t => .tuple #[.string ⟨t.toArray⟩, .int .i64 0]
  | none => .tuple #[.string ⟨#[]⟩, .int .i64 10]

theorem get_list {s : ByteArray} {i : Nat} (h : i < s.size) : s.data.toList[i]? = some (s[i]'h) := by
  have hl : i < s.data.toList.length := by rw [show s.data.toList.length = s.size from Array.length_toList]; exact h
  rw [List.getElem?_eq_getElem hl]; rfl

theorem u8_ne34 {c : UInt8} (h : c ≠ 34) : ((c.toNat : Int) != 34) = true := by
  rw [bne_iff_ne]
  intro e
  refine h (UInt8.toNat_inj.1 ?_)
  have h2 : (34 : UInt8).toNat = 34 := rfl
  rw [h2]; omega

set_option maxHeartbeats 4000000 in
set_option maxRecDepth 100000 in
theorem unquote_any (w : World) (s : ByteArray) (hs : s.size ≤ 20000) :
    Calls Tryd.prog 30 #[.string s] w fun e w' => e = .returned (unqV (unquoteP s)) ∧ Ext none_ w w' := by
  go_enter Tryd.func30, Tryd.ntmps30
  by_cases h2 : s.size < 2
  · have hd : decide ((s.size : Int) < 2) = true := decide_eq_true (by omega)
    have Hu : Hid (unquoteP s = none) := Lib.hid (by unfold unquoteP; rw [if_pos (.inl h2)])
    go_wp2
    go_ret2
    exact ⟨by rw [Hu.out]; rfl, Ext.refl _ _⟩
  · have hd : decide ((s.size : Int) < 2) = false := decide_eq_false (by omega)
    have hg0 := get_list (s := s) (i := 0) (by omega)
    have hg1 := get_list (s := s) (i := s.size - 1) (by omega)
    by_cases h0 : s.data.toList[0]? = some 34
    · have hn0 : (((s[0]'(by omega)).toNat : Int) != 34) = false := by
        rw [hg0] at h0
        rw [Option.some.inj h0]; rfl
      by_cases h1 : s.data.toList[s.size - 1]? = some 34
      · have hn1 : (((s[s.size - 1]'(by omega)).toNat : Int) != 34) = false := by
          rw [hg1] at h1
          rw [Option.some.inj h1]; rfl
        have Hu : Hid (unquoteP s = (unqL false [] (runes (mid s))).bind fun t => if quoteP (runesL t) = s.data.toList then some t else none) := Lib.hid (by
          unfold unquoteP; rw [if_neg]; intro hc; rcases hc with hc | hc | hc
          · exact h2 hc
          · exact hc h0
          · exact hc h1)
        clear hg0 hg1 h0 h1
        have hml : (mid s).size ≤ 20000 := by unfold mid; rw [ByteArray.size_extract]; omega
        have hmd : s.extract 1 (s.size - 1) = mid s := rfl
        go_wp2_with fail
        clear hmd
        generalize mid s = m at *
        have hb1 := Bd.fresh w
        have hbl1 : Below w.heap.size w (w.alloc (.cells #[.pointer none, .slice none 0 0] 95)) := (Below.refl _ w).alloc (Nat.le_refl _) _
        have hs1 : w.heap.size + 1 = (w.alloc (.cells #[.pointer none, .slice none 0 0] 95)).heap.size := by simp
        generalize w.alloc (.cells #[.pointer none, .slice none 0 0] 95) = w2 at *
        have hit : IterIs (w2.iter m 0) w2.heap.size m 0 := World.iter_heap w2 m 0
        have hx0 : Ext none_ w2 (w2.iter m 0) := Ext.alloc w2 _
        have hb3 := hb1.ext0 hx0
        have hbl3 : Below w.heap.size w (w2.iter m 0) := hbl1.trans (hx0.toBelow.mono hbl1.size)
        have hitw : w.heap.size ≤ w2.heap.size := hbl1.size
        rw [hs1]
        generalize w2.iter m 0 = w3 at *
        generalize w2.heap.size = it at *
        clear hx0 hb1 hbl1 hs1 h2 hd hn0 hn1
        go_loopw [5] (fun q wr => ∃ (pos : Nat) (back : Bool) (acc : List UInt8), q = .bool back ∧ IterIs wr it m pos ∧ Bd wr w.heap.size w.heap.size acc ∧ Below w.heap.size w wr ∧ Hid (unqL back acc (rest m pos) = unqL false [] (runes m)) ∧ acc.length ≤ 4 * pos ∧ pos ≤ m.size) (fun _ wr => m.size - wr.iterPos it)
        case atStart => exact ⟨0, false, [], rfl, hit, hb3, hbl3, Lib.hid (by rw [rest_zero]), by simp, by omega⟩
        case round =>
          obtain ⟨pos, back, acc, rfl, hir, hb, hbl, Hok, hal, hps⟩ := hrel
          go_wp2_with (refine wpList_nextStr rfl _ rfl rfl hir ?_ ?_)
          · intro hpos
            have Hre := Lib.hid (rest_end (show ¬ pos < m.size by omega))
            cases back
            · have Hu2 : Hid (unqL false [] (runes m) = some acc) := Lib.hid (by rw [← Hok.out, Hre.out]; rfl)
              go_wp2_with fail
              refine (bstring _ _ _ wr hb hbl.size).mono ?_
              rintro e w5 ⟨rfl, hb5, hbl5, _⟩
              have hbl5' := hbl.trans hbl5
              go_wp2_with fail
              refine (quote_any w5 _ (show acc.toArray.size ≤ 100000 by simp; omega)).mono ?_
              rintro e w6 ⟨rfl, hx6⟩
              have hrl : runes ⟨acc.toArray⟩ = runesL acc := rfl
              rw [hrl]
              have hb6 := Bd.ext0 (B := w.heap.size) (b := w.heap.size) (l := acc) hb5 hx6
              have hbl6 := hbl5'.trans (hx6.toBelow.mono hbl5'.size)
              by_cases hq : quoteP (runesL acc) = s.data.toList
              · have hqb : (quoteP (runesL acc) == s.toList) = true := by rw [ByteArray.toList_eq, hq]; exact beq_self_eq_true _
                have Hq := Lib.hid hq
                clear hq hb5
                go_wp2_with fail
                refine (bstring _ _ _ w6 hb6 hbl6.size).mono ?_
                rintro e w7 ⟨rfl, _, hbl7, _⟩
                go_wp2
                go_ret2
                refine ⟨?_, ext_of_below (hbl6.trans hbl7)⟩
                rw [Hu.out, Hu2.out]
                show _ = Ending.returned (unqV (if quoteP (runesL acc) = s.data.toList then some acc else none))
                rw [if_pos Hq.out]; rfl
              · have hqb : (quoteP (runesL acc) == s.toList) = false := by rw [ByteArray.toList_eq]; exact beq_eq_false_iff_ne.2 hq
                have Hq := Lib.hid hq
                clear hq hb5
                go_wp2
                go_ret2
                refine ⟨?_, ext_of_below hbl6⟩
                rw [Hu.out, Hu2.out]
                show _ = Ending.returned (unqV (if quoteP (runesL acc) = s.data.toList then some acc else none))
                rw [if_neg Hq.out]; rfl
            · have Hu2 : Hid (unqL false [] (runes m) = none) := Lib.hid (by rw [← Hok.out, Hre.out]; rfl)
              go_wp2
              go_ret2
              exact ⟨by rw [Hu.out, Hu2.out]; rfl, ext_of_below hbl⟩
          · intro hpos
            have hpp := hpos
            have Hrm := Lib.hid (rest_more hpos)
            have hge := decode_ge m pos hpos
            have hde := decode_end hpos
            have hir' := hir.set (pos + (Utf8.decode m pos).2)
            have hsx := setIter_ext wr it m (pos + (Utf8.decode m pos).2)
            have hb' := hb.iter hir (pos + (Utf8.decode m pos).2)
            have hne := hb'.ne_iter hir'
            have hbl' : Below w.heap.size w (setIter wr it m (pos + (Utf8.decode m pos).2)) := ⟨hbl.os, hbl.tape, hbl.output, Nat.le_trans hbl.size hsx.size, fun k hk => (hsx.block k (by have := hbl.size; omega) (by omega)).trans (hbl.block k hk)⟩
            have hip := iterPos_of hir
            have hv : (Utf8.decode m pos).1 ≤ 1114111 := by
              rw [← Lib.decodeL_drop]
              exact (decodeL_valid _).2
            clear hsx hir hb hbl
            generalize setIter wr it m (pos + (Utf8.decode m pos).2) = w5 at *
            generalize (Utf8.decode m pos).2 = d at *
            generalize (Utf8.decode m pos).1 = r at *
            have Hrest := Lib.hid (Hok.out.symm.trans (congrArg (unqL back acc) Hrm.out))
            cases back
            · by_cases h92 : r = 92
              · have e92 : ((r : Int) == 92) = true := by simp [h92]
                have Hn : Hid (unqL true acc (rest m (pos + d)) = unqL false [] (runes m)) := Lib.hid (by
                  rw [Hrest.out, unqL, if_neg (by simp), if_pos ⟨rfl, h92⟩])
                clear h92
                go_wp2
                exact ⟨⟨pos + d, true, acc, rfl, hir', hb', hbl', Hn, by omega, hde⟩, by rw [iterPos_of hir', hip]; omega⟩
              · have e92 : ((r : Int) == 92) = false := by simp; omega
                by_cases h34 : r = 34
                · have e34 : ((r : Int) == 34) = true := by simp [h34]
                  have Hn : Hid (unqL false [] (runes m) = none) := Lib.hid (by
                    rw [Hrest.out, unqL, if_neg (by simp), if_neg (by omega), if_neg (by simp [h34])])
                  clear h34 h92
                  go_wp2
                  go_ret2
                  exact ⟨by rw [Hu.out, Hn.out]; rfl, ext_of_below hbl'⟩
                · have e34 : ((r : Int) == 34) = false := by simp; omega
                  have Hn : Hid (unqL false (acc ++ Lib.encodeRune r) (rest m (pos + d)) = unqL false [] (runes m)) := Lib.hid (by
                    rw [Hrest.out, unqL, if_neg (by simp), if_neg (by omega), if_pos (decide_eq_false (by omega)).symm])
                  clear h34 h92
                  go_wp2_with fail
                  refine (bd_rune _ (by omega) (by omega) hb' (by omega) hbl'.size).mono ?_
                  rintro e w6 ⟨⟨v6, rfl⟩, hb6, hbl6, ho6⟩
                  have hi6 := IterIs.others hir' ho6 hne
                  have hal6 : (acc ++ Lib.encodeRune r).length ≤ 4 * (pos + d) := by have := (enc_len r).2; rw [List.length_append]; omega
                  go_wp2
                  exact ⟨⟨pos + d, false, _, rfl, hi6, hb6, hbl'.trans hbl6, Hn, hal6, hde⟩, by rw [iterPos_of hi6, hip]; omega⟩
            · by_cases h110 : r = 110
              · have e110 : ((r : Int) == 110) = true := by simp [h110]
                have Hn : Hid (unqL false (acc ++ [10]) (rest m (pos + d)) = unqL false [] (runes m)) := Lib.hid (by
                  rw [Hrest.out, unqL, if_pos ⟨rfl, h110⟩])
                clear h110
                go_wp2_with fail
                refine (bd_byte 10 (by omega) hb' (by omega) hbl'.size).mono ?_
                rintro e w6 ⟨rfl, hb6, hbl6, ho6⟩
                have hi6 := IterIs.others hir' ho6 hne
                have hal6 : (acc ++ [10]).length ≤ 4 * (pos + d) := by rw [List.length_append]; simp only [List.length_cons, List.length_nil]; omega
                go_wp2
                exact ⟨⟨pos + d, false, _, rfl, hi6, hb6, hbl'.trans hbl6, Hn, hal6, hde⟩, by rw [iterPos_of hi6, hip]; omega⟩
              · have e110 : ((r : Int) == 110) = false := by simp; omega
                by_cases hqq : r = 34 ∨ r = 92
                · have Hn : Hid (unqL false (acc ++ Lib.encodeRune r) (rest m (pos + d)) = unqL false [] (runes m)) := Lib.hid (by
                    rw [Hrest.out, unqL, if_neg (by omega), if_neg (by simp), if_pos (decide_eq_true hqq).symm])
                  have hal6 : (acc ++ Lib.encodeRune r).length ≤ 4 * (pos + d) := by have := (enc_len r).2; rw [List.length_append]; omega
                  by_cases h34 : r = 34
                  · have e34 : ((r : Int) == 34) = true := by simp [h34]
                    have H34 := Lib.hid h34
                    clear h34 hqq h110
                    go_wp2_with fail
                    refine (bd_rune _ (by omega) (by omega) hb' (by omega) hbl'.size).mono ?_
                    rintro e w6 ⟨⟨v6, rfl⟩, hb6, hbl6, ho6⟩
                    have hi6 := IterIs.others hir' ho6 hne
                    have hb6' : Bd w6 w.heap.size w.heap.size (acc ++ Lib.encodeRune r) := hb6
                    go_wp2
                    exact ⟨⟨pos + d, false, _, rfl, hi6, hb6', hbl'.trans hbl6, Hn, hal6, hde⟩, by rw [iterPos_of hi6, hip]; omega⟩
                  · have e34 : ((r : Int) == 34) = false := by simp; omega
                    have e92 : ((r : Int) == 92) = true := by simp; omega
                    have H92 : Hid (r = 92) := Lib.hid (by omega)
                    clear h34 hqq h110
                    go_wp2_with fail
                    refine (bd_rune _ (by omega) (by omega) hb' (by omega) hbl'.size).mono ?_
                    rintro e w6 ⟨⟨v6, rfl⟩, hb6, hbl6, ho6⟩
                    have hi6 := IterIs.others hir' ho6 hne
                    have hb6' : Bd w6 w.heap.size w.heap.size (acc ++ Lib.encodeRune r) := hb6
                    go_wp2
                    exact ⟨⟨pos + d, false, _, rfl, hi6, hb6', hbl'.trans hbl6, Hn, hal6, hde⟩, by rw [iterPos_of hi6, hip]; omega⟩
                · have e34 : ((r : Int) == 34) = false := by simp; omega
                  have e92 : ((r : Int) == 92) = false := by simp; omega
                  have Hn : Hid (unqL false [] (runes m) = none) := Lib.hid (by
                    rw [Hrest.out, unqL, if_neg (by omega), if_neg (by simp), if_neg (by rw [decide_eq_false hqq]; simp)])
                  clear hqq h110
                  go_wp2
                  go_ret2
                  exact ⟨by rw [Hu.out, Hn.out]; rfl, ext_of_below hbl'⟩
      · have Hu : Hid (unquoteP s = none) := Lib.hid (by unfold unquoteP; rw [if_pos (.inr (.inr h1))])
        have hn1 : (((s[s.size - 1]'(by omega)).toNat : Int) != 34) = true := by
          rw [hg1] at h1
          exact u8_ne34 fun e => h1 (by rw [e])
        clear hg0 hg1 h0 h1
        go_wp2
        go_ret2
        exact ⟨by rw [Hu.out]; rfl, Ext.refl _ _⟩
    · have Hu : Hid (unquoteP s = none) := Lib.hid (by unfold unquoteP; rw [if_pos (.inr (.inl h0))])
      have hn0 : (((s[0]'(by omega)).toNat : Int) != 34) = true := by
        rw [hg0] at h0
        exact u8_ne34 fun e => h0 (by rw [e])
      clear hg0 hg1 h0
      go_wp2
      go_ret2
      exact ⟨by rw [Hu.out]; rfl, Ext.refl _ _⟩

end Go.Proofs.YtocjidlbjmghdaaDoor
