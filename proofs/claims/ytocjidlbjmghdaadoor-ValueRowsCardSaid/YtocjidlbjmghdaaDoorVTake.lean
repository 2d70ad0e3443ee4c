/- The walk of Take: a value taken off bytes. -/
import Derived.Test.YtocjidlbjmghdaaDoorVTakeText
namespace Go.Proofs.YtocjidlbjmghdaaDoor
open Go.RowKit Go.Cw

theorem be_snoc (l : List UInt8) (b : UInt8) : be (l ++ [b]) = be l * 256 + b.toNat := by simp [be, List.foldl_append]
theorem be_lt_any : ∀ (l : List UInt8) (u : Nat), l.foldl (fun u b => u * 256 + b.toNat) u < (u + 1) * 256 ^ l.length
  | [], u => by simp
  | b :: l, u => by
    rw [List.foldl_cons, List.length_cons]
    have h1 := be_lt_any l (u * 256 + b.toNat)
    have hb := b.toNat_lt
    have h2 : (u * 256 + b.toNat + 1) * 256 ^ l.length ≤ ((u + 1) * 256) * 256 ^ l.length := Nat.mul_le_mul_right _ (by omega)
    rw [Nat.pow_succ, Nat.mul_comm (256 ^ l.length) 256, ← Nat.mul_assoc]
    exact Nat.lt_of_lt_of_le h1 h2
theorem be_lt (l : List UInt8) : be l < 256 ^ l.length := by
  have := be_lt_any l 0
  rw [Nat.zero_add, Nat.one_mul] at this
  exact this
theorem head_drop {bs : List UInt8} {x : UInt8} (h : bs[0]? = some x) : bs = x :: bs.drop 1 := by
  cases bs with
  | nil => simp at h
  | cons y r => simp at h; rw [h]; rfl
theorem takeP_nil {bs : List UInt8} (h : bs.length = 0) : takeP bs = (⟨0, 0, ⟨#[]⟩⟩, 0, 20) := by
  rw [List.length_eq_zero_iff] at h; rw [h]; rfl
theorem takeP_two {bs : List UInt8} (h : bs[0]? = some 2) : takeP bs = tk (bs.drop 1) [] 1 := by
  rw [head_drop h]; rfl
theorem takeP_other {bs : List UInt8} {x : UInt8} (h : bs[0]? = some x) (h1 : x ≠ 1) (h2 : x ≠ 2) : takeP bs = (⟨0, 0, ⟨#[]⟩⟩, 0, 22) := by
  rw [head_drop h]; unfold takeP; simp only; rw [if_neg h2, if_neg h1]
theorem takeP_short {bs : List UInt8} (h : bs[0]? = some 1) (hl : bs.length < 9) : takeP bs = (⟨0, 0, ⟨#[]⟩⟩, 0, 20) := by
  rw [head_drop h]
  rw [head_drop h] at hl
  unfold takeP; simp only; rw [if_neg (by decide), if_pos trivial, if_pos hl]
theorem takeP_num {bs : List UInt8} (h : bs[0]? = some 1) (hl : 9 ≤ bs.length) : takeP bs = (⟨1, (be ((bs.drop 1).take 8) : Int) - 9223372036854775808, ⟨#[]⟩⟩, 9, 0) := by
  rw [head_drop h]
  rw [head_drop h] at hl
  unfold takeP; simp only; rw [if_neg (by decide), if_pos trivial, if_neg (by omega)]
  rfl

set_option maxHeartbeats 4000000 in
set_option maxRecDepth 100000 in
theorem take_any (w : World) (a : Option Addr) (bs : List UInt8) (b off c : Nat) (h : UR w a bs b off) (hc : bs.length ≤ c) (hn : bs.length ≤ 100000) :
    Calls Tryd.prog 50 #[.slice a bs.length c] w fun e w' => e = .returned (tkV (takeP bs)) ∧ Ext none_ w w' := by
  have hx1 := Ext.alloc w (.cells #[.int .i64 0, .int .i64 0, .string ⟨#[]⟩] 49)
  have hr1 := blk_new w (.cells #[.int .i64 0, .int .i64 0, .string ⟨#[]⟩] 49)
  have h1 := h.ext0 hx1
  by_cases h0 : bs.length = 0
  · have hlz : ((bs.length : Int) == 0) = true := beq_iff_eq.2 (by omega)
    have Ht := Lib.hid (takeP_nil h0)
    clear h0
    go_enter Tryd.func50, Tryd.ntmps50
    go_wp2
    exact bodyPost_ret (v := .tuple #[.agg #[.int .i64 0, .int .i64 0, .string ⟨#[]⟩], .int .i64 0, .int .i64 20]) (by simp [results, Tryd.results50, go_sem]) rfl ⟨by rw [Ht.out]; rfl, hx1⟩
  · have hlz : ((bs.length : Int) == 0) = false := beq_eq_false_iff_ne.2 (by omega)
    obtain ⟨x, hx0⟩ : ∃ x, bs[0]? = some x := ⟨_, List.getElem?_eq_getElem (by omega)⟩
    have ha := h.addr (by omega)
    subst ha
    have hcx := h1.cell 0 x hx0
    rw [Nat.add_zero] at hcx
    have hp : 0 < bs.length := by omega
    by_cases h2 : x = 2
    · subst h2
      have Ht := Lib.hid (takeP_two hx0)
      have ct := ttext_any (w.alloc (.cells #[.int .i64 0, .int .i64 0, .string ⟨#[]⟩] 49)) (some ⟨b, off, none⟩) bs b off c h1 hn (by omega)
      rw [← Ht.out] at ct
      generalize takeP bs = R at *
      obtain ⟨⟨k, m, s⟩, at_, err⟩ := R
      unfold tkV Vl.val at ct
      simp only at ct
      clear Ht
      go_enter Tryd.func50, Tryd.ntmps50
      go_wp2_with fail
      refine ct.mono ?_
      rintro e w2 ⟨rfl, hx2⟩
      have hr2 := hx2.blk0 hr1
      have hx2' := hx1.grow hx2
      clear ct hx1 hx2 hr1 h1 h hcx
      obtain ⟨d0, d1, d2⟩ := cells3 hr2
      have hz := frozen_of hr2
      have hbf := setV_blk hr2 ⟨k, m, s⟩
      have hxf := hx2'.trans (setV_ext w2 w.heap.size ⟨k, m, s⟩) fun i hi e => by have h2 : i = w.heap.size := e; omega
      unfold setV at hbf hxf
      go_wp2
      generalize ((w2.setCell ⟨w.heap.size, 0, none⟩ (.int .i64 k)).setCell ⟨w.heap.size, 1, none⟩ (.int .i64 m)).setCell ⟨w.heap.size, 2, none⟩ (.string s) = wf at *
      obtain ⟨f0, f1, f2⟩ := cells3 hbf
      refine bodyPost_ret (v := .tuple #[.agg #[.int .i64 k, .int .i64 m, .string s], .int .i64 at_, .int .i64 err]) (by simp [results, Tryd.results50, go_sem, f0, f1, f2]) rfl ⟨rfl, hxf⟩
    · have hx2b : ((x.toNat : Int) == 2) = false := by
        rw [show (2 : Int) = ((2 : Nat) : Int) from rfl, u8_eq (by omega)]; exact decide_eq_false h2
      by_cases h3 : x = 1
      · subst h3
        rw [show (((1 : UInt8).toNat : Nat) : Int) = 1 from rfl] at hcx
        clear hx2b
        by_cases h9 : bs.length < 9
        · have h9b : decide ((bs.length : Int) < 9) = true := decide_eq_true (by omega)
          have Ht := Lib.hid (takeP_short hx0 h9)
          clear h0 h2 h9
          go_enter Tryd.func50, Tryd.ntmps50
          go_wp2
          exact bodyPost_ret (v := .tuple #[.agg #[.int .i64 0, .int .i64 0, .string ⟨#[]⟩], .int .i64 0, .int .i64 20]) (by simp [results, Tryd.results50, go_sem]) rfl ⟨by rw [Ht.out]; rfl, hx1⟩
        · have h9b : decide ((bs.length : Int) < 9) = false := decide_eq_false (by omega)
          have Ht := Lib.hid (takeP_num hx0 (by omega))
          have hc9 : 9 ≤ c := by omega
          have h8 : ((bs.drop 1).take 8).length = 8 := by rw [List.length_take, List.length_drop]; omega
          have hcell : ∀ (j : Nat), j < 8 → ∃ y, ((bs.drop 1).take 8)[j]? = some y ∧ w.cell? ⟨b, off + 1 + j, none⟩ = some (.int .u8 (y : UInt8).toNat) := fun j hj => by
            obtain ⟨y, hy⟩ : ∃ y, bs[j + 1]? = some y := ⟨_, List.getElem?_eq_getElem (by omega)⟩
            refine ⟨y, ?_, ?_⟩
            · rw [List.getElem?_take_of_lt hj, List.getElem?_drop, Nat.add_comm 1 j]; exact hy
            · have := h.cell (j + 1) y hy
              rw [show off + 1 + j = off + (j + 1) by omega]; exact this
          generalize (bs.drop 1).take 8 = l at *
          clear h2
          go_enter Tryd.func50, Tryd.ntmps50
          go_wp2_with fail
          generalize w.alloc (.cells #[.int .i64 0, .int .i64 0, .string ⟨#[]⟩] 49) = w1 at *
          go_loopw [5, 37] (fun u i wr => ∃ j : Nat, j ≤ 8 ∧ i = .int .i64 j ∧ u = .int .u64 (be (l.take j)) ∧ wr = w1) (fun _ i _ => 8 - (RowKit.intOf i).toNat)
          case atStart => exact ⟨0, by omega, rfl, rfl, rfl⟩
          case round =>
            obtain ⟨j, hj, rfl, rfl, rfl⟩ := hrel
            by_cases hlt : j < 8
            · have hd : decide ((j : Int) < 8) = true := decide_eq_true (by omega)
              obtain ⟨y, hy, hcy⟩ := hcell j hlt
              have hcy1 := cell_ext0 hx1 hcy
              have Hb := Lib.hid (be_snoc (l.take j) y)
              have Htk : Hid (l.take (j + 1) = l.take j ++ [y]) := Lib.hid (by
                obtain ⟨hl, rfl⟩ := List.getElem?_eq_some_iff.1 hy
                exact List.take_succ_eq_append_getElem hl)
              have hl8 : (l.take j).length ≤ 7 := by rw [List.length_take]; omega
              have hlt1 : be (l.take j) < 256 ^ 7 := Nat.lt_of_lt_of_le (be_lt _) (Nat.pow_le_pow_right (by omega) hl8)
              have hor := or_byte (a := be (l.take j)) (b := y.toNat) y.toNat_lt
              rw [← Hb.out, ← Htk.out] at hor
              have hbl : be (l.take (j + 1)) < 2 ^ 64 := by rw [Htk.out, Hb.out]; have := y.toNat_lt; omega
              have hb64 := bits_or64 (a := be (l.take j) * 256) (b := y.toNat) (by omega) (by have := y.toNat_lt; omega)
              rw [hor] at hb64
              have hyw : IntKind.u64.wrap (y.toNat : Int) = (y.toNat : Int) := by rw [wrapu64]; have := y.toNat_lt; omega
              obtain ⟨u2, hu2⟩ : ∃ u, u = be (l.take (j + 1)) := ⟨_, rfl⟩
              rw [← hu2] at hb64
              have Hu2 := Lib.hid hu2
              generalize be (l.take j) = u1 at *
              generalize y.toNat = yn at *
              clear hor hu2 hbl
              go_wp2
              refine ⟨⟨j + 1, by omega, by simp, ?_, trivial⟩, by simp [RowKit.intOf]; omega⟩
              rw [← Hu2.out, ← hb64, Int.natCast_mul]
              rfl
            · have hd : decide ((j : Int) < 8) = false := decide_eq_false (by omega)
              have hj8 : j = 8 := by omega
              rw [hj8, List.take_of_length_le (by omega)]
              have hbk := bits_back (u := be l) (by have := be_lt l; rw [h8] at this; omega)
              generalize be l = u at *
              clear hj8
              obtain ⟨d0, d1, d2⟩ := cells3 hr1
              have hz := frozen_of hr1
              have hbf := setV_blk hr1 ⟨1, (u : Int) - 9223372036854775808, ⟨#[]⟩⟩
              have hxf := hx1.trans (setV_ext wr w.heap.size ⟨1, (u : Int) - 9223372036854775808, ⟨#[]⟩⟩) fun i hi e => by have h2 : i = w.heap.size := e; omega
              unfold setV at hbf hxf
              simp only at hbf hxf
              go_wp2
              generalize ((wr.setCell ⟨w.heap.size, 0, none⟩ (.int .i64 1)).setCell ⟨w.heap.size, 1, none⟩ (.int .i64 ((u : Int) - 9223372036854775808))).setCell ⟨w.heap.size, 2, none⟩ (.string ⟨#[]⟩) = wf at *
              obtain ⟨f0, f1, f2⟩ := cells3 hbf
              refine bodyPost_ret (v := .tuple #[.agg #[.int .i64 1, .int .i64 ((u : Int) - 9223372036854775808), .string ⟨#[]⟩], .int .i64 9, .int .i64 0]) (by simp [results, Tryd.results50, go_sem, f0, f1, f2]) rfl ⟨?_, hxf⟩
              rw [Ht.out]; rfl
      · have hx3b : ((x.toNat : Int) != 1) = true := by
          rw [bne, show (1 : Int) = ((1 : Nat) : Int) from rfl, u8_eq (by omega)]
          show (!decide (x = 1)) = true
          rw [decide_eq_false h3]; rfl
        have Ht := Lib.hid (takeP_other hx0 h3 h2)
        clear h0 h2 h3
        go_enter Tryd.func50, Tryd.ntmps50
        go_wp2
        exact bodyPost_ret (v := .tuple #[.agg #[.int .i64 0, .int .i64 0, .string ⟨#[]⟩], .int .i64 0, .int .i64 22]) (by simp [results, Tryd.results50, go_sem]) rfl ⟨by rw [Ht.out]; rfl, hx1⟩

end Go.Proofs.YtocjidlbjmghdaaDoor
