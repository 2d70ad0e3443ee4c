/- The walk of the reference's Take: whole. -/
import Derived.Test.YtocjidlbjmghdaaDoorVRTake
namespace Go.Proofs.YtocjidlbjmghdaaDoor
open Go.RowKit Go.Cw

theorem be_step (l : List UInt8) (y : UInt8) (h : l.length ≤ 7) : IntKind.u64.wrap ((be l : Int) * 256) = ((be l * 256 : Nat) : Int) ∧ IntKind.u64.wrap (y.toNat : Int) = (y.toNat : Int) ∧ IntKind.u64.wrap (((be l * 256 : Nat) : Int) + (y.toNat : Int)) = ((be (l ++ [y]) : Nat) : Int) := by
  have h1 : be l < 256 ^ 7 := Nat.lt_of_lt_of_le (be_lt _) (Nat.pow_le_pow_right (by omega) h)
  have h2 := y.toNat_lt
  rw [wrapu64, wrapu64, wrapu64, be_snoc]
  omega

set_option maxHeartbeats 4000000 in
set_option maxRecDepth 100000 in
theorem rtakeN_any (w : World) (bs : List UInt8) (b off c : Nat) (h : UR w (some ⟨b, off, none⟩) bs b off) (hx0 : bs[0]? = some 1) (h9 : 9 ≤ bs.length) :
    Calls Tryd.prog 51 #[.slice (some ⟨b, off, none⟩) bs.length c] w fun e w' => e = .returned (tkV (takeP bs)) ∧ Ext none_ w w' := by
  have hx1 := Ext.alloc w (.cells #[.int .i64 0, .int .i64 0, .string ⟨#[]⟩] 49)
  have hr1 := blk_new w (.cells #[.int .i64 0, .int .i64 0, .string ⟨#[]⟩] 49)
  have h1 := h.ext0 hx1
  have hcx := h1.cell 0 1 hx0
  rw [Nat.add_zero, show (((1 : UInt8).toNat : Nat) : Int) = 1 from rfl] at hcx
  have hlz : ((bs.length : Int) == 0) = false := beq_eq_false_iff_ne.2 (by omega)
  have hp : 0 < bs.length := by omega
  have h9b : decide ((bs.length : Int) < 9) = false := decide_eq_false (by omega)
  have Ht := Lib.hid (takeP_num hx0 h9)
  have h8 : ((bs.drop 1).take 8).length = 8 := by rw [List.length_take, List.length_drop]; omega
  have hcell : ∀ (j : Nat), j < 8 → ∃ y, ((bs.drop 1).take 8)[j]? = some y ∧ w.cell? ⟨b, off + (1 + j), none⟩ = some (.int .u8 (y : UInt8).toNat) := fun j hj => by
    obtain ⟨y, hy⟩ : ∃ y, bs[j + 1]? = some y := ⟨_, List.getElem?_eq_getElem (by omega)⟩
    refine ⟨y, ?_, ?_⟩
    · rw [List.getElem?_take_of_lt hj, List.getElem?_drop, Nat.add_comm 1 j]; exact hy
    · have := h.cell (j + 1) y hy
      rw [show off + (1 + j) = off + (j + 1) by omega]; exact this
  generalize (bs.drop 1).take 8 = l at *
  go_enter Tryd.func51, Tryd.ntmps51
  go_wp2_with fail
  generalize w.alloc (.cells #[.int .i64 0, .int .i64 0, .string ⟨#[]⟩] 49) = w1 at *
  go_loopw [5, 6] (fun u i wr => ∃ k : Nat, 1 ≤ k ∧ k ≤ 9 ∧ i = .int .i64 k ∧ u = .int .u64 (be (l.take (k - 1))) ∧ wr = w1) (fun _ i _ => 9 - (RowKit.intOf i).toNat)
  case atStart => exact ⟨1, by omega, by omega, rfl, rfl, rfl⟩
  case round =>
    obtain ⟨k, hk1, hk, rfl, rfl, rfl⟩ := hrel
    by_cases hlt : k < 9
    · have hd : decide ((k : Int) < 9) = true := decide_eq_true (by omega)
      obtain ⟨y, hy, hcy⟩ := hcell (k - 1) (by omega)
      rw [show 1 + (k - 1) = k by omega] at hcy
      have hcy1 := cell_ext0 hx1 hcy
      have Htk : Hid (l.take k = l.take (k - 1) ++ [y]) := Lib.hid (by
        obtain ⟨hl, rfl⟩ := List.getElem?_eq_some_iff.1 hy
        have := List.take_succ_eq_append_getElem hl
        rw [show k - 1 + 1 = k by omega] at this
        exact this)
      obtain ⟨s1, s2, s3⟩ := be_step (l.take (k - 1)) y (by rw [List.length_take]; omega)
      rw [← Htk.out] at s3
      have hjn : k < bs.length := by omega
      obtain ⟨u2, hu2⟩ : ∃ u, u = be (l.take k) := ⟨_, rfl⟩
      rw [← hu2] at s3
      have Hu2 := Lib.hid hu2
      generalize be (l.take (k - 1)) * 256 = u3 at *
      generalize be (l.take (k - 1)) = u1 at *
      generalize y.toNat = yn at *
      clear hu2 hy hcy
      go_wp2
      exact ⟨⟨k + 1, by omega, by omega, by simp, by rw [Hu2.out]; rfl, trivial⟩, by simp [RowKit.intOf]; omega⟩
    · have hd : decide ((k : Int) < 9) = false := decide_eq_false (by omega)
      have hj8 : k = 9 := by omega
      rw [hj8] at hd ⊢
      rw [List.take_of_length_le (by omega)]
      have hsub : IntKind.i64.wrap (IntKind.u64.wrap ((be l : Int) - 9223372036854775808)) = (be l : Int) - 9223372036854775808 := by
        have h2 : be l < 2 ^ 64 := by have := be_lt l; rw [h8] at this; omega
        have hw : ∀ m : Int, IntKind.i64.wrap m = (m + 9223372036854775808) % 18446744073709551616 - 9223372036854775808 := fun m => by
          unfold IntKind.wrap
          simp [IntKind.bits, IntKind.signed]
          omega
        rw [wrapu64, hw]
        omega
      generalize be l = u at *
      clear hj8
      obtain ⟨d0, d1, d2⟩ := cells3 hr1
      have hz := frozen_of hr1
      have hbf := setV_blk hr1 ⟨1, (u : Int) - 9223372036854775808, ⟨#[]⟩⟩
      have hxf := hx1.trans (setV_ext wr w.heap.size ⟨1, (u : Int) - 9223372036854775808, ⟨#[]⟩⟩) fun i hi e => by have h2 : i = w.heap.size := e; omega
      unfold setV at hbf hxf
      simp only at hbf hxf
      go_wp2
      generalize ((wr.setCell ⟨w.heap.size, 0, none⟩ (.int .i64 1)).setCell ⟨w.heap.size, 1, none⟩ (.int .i64 ((u : Int) - 9223372036854775808))).setCell ⟨w.heap.size, 2, none⟩ (.string ⟨#[]⟩) = wf at *
      obtain ⟨f0, f1, f2⟩ := cells3 hbf
      refine bodyPost_ret (v := .tuple #[.agg #[.int .i64 1, .int .i64 ((u : Int) - 9223372036854775808), .string ⟨#[]⟩], .int .i64 9, .int .i64 0]) (by simp [results, Tryd.results51, go_sem, f0, f1, f2]) rfl ⟨?_, hxf⟩
      rw [Ht.out]; rfl

set_option maxHeartbeats 4000000 in
set_option maxRecDepth 100000 in
theorem rtake_any (w : World) (a : Option Addr) (bs : List UInt8) (b off c : Nat) (h : UR w a bs b off) (hn : bs.length ≤ 100000) :
    Calls Tryd.prog 51 #[.slice a bs.length c] w fun e w' => e = .returned (tkV (takeP bs)) ∧ Ext none_ w w' := by
  have hx1 := Ext.alloc w (.cells #[.int .i64 0, .int .i64 0, .string ⟨#[]⟩] 49)
  by_cases h0 : bs.length = 0
  · have hlz : ((bs.length : Int) == 0) = true := beq_iff_eq.2 (by omega)
    have Ht := Lib.hid (takeP_nil h0)
    clear h0
    go_enter Tryd.func51, Tryd.ntmps51
    go_wp2
    exact bodyPost_ret (v := .tuple #[.agg #[.int .i64 0, .int .i64 0, .string ⟨#[]⟩], .int .i64 0, .int .i64 20]) (by simp [results, Tryd.results51, go_sem]) rfl ⟨by rw [Ht.out]; rfl, hx1⟩
  · have hlz : ((bs.length : Int) == 0) = false := beq_eq_false_iff_ne.2 (by omega)
    obtain ⟨x, hx0⟩ : ∃ x, bs[0]? = some x := ⟨_, List.getElem?_eq_getElem (by omega)⟩
    have ha := h.addr (by omega)
    subst ha
    have hcx := (h.ext0 hx1).cell 0 x hx0
    rw [Nat.add_zero] at hcx
    have hp : 0 < bs.length := by omega
    by_cases h2 : x = 2
    · subst h2
      rw [takeP_two hx0]
      exact rtext_any w (some ⟨b, off, none⟩) bs b off c h hn hx0
    · have hx2b : ((x.toNat : Int) != 2) = true := by
        rw [bne, show (2 : Int) = ((2 : Nat) : Int) from rfl, u8_eq (by omega)]
        show (!decide (x = 2)) = true
        rw [decide_eq_false h2]; rfl
      by_cases h3 : x = 1
      · subst h3
        by_cases h9 : bs.length < 9
        · rw [show (((1 : UInt8).toNat : Nat) : Int) = 1 from rfl] at hcx
          have h9b : decide ((bs.length : Int) < 9) = true := decide_eq_true (by omega)
          have Ht := Lib.hid (takeP_short hx0 h9)
          clear h0 h2 h9 hx2b
          go_enter Tryd.func51, Tryd.ntmps51
          go_wp2
          exact bodyPost_ret (v := .tuple #[.agg #[.int .i64 0, .int .i64 0, .string ⟨#[]⟩], .int .i64 0, .int .i64 20]) (by simp [results, Tryd.results51, go_sem]) rfl ⟨by rw [Ht.out]; rfl, hx1⟩
        · exact rtakeN_any w bs b off c h hx0 (by omega)
      · have hx3b : ((x.toNat : Int) == 1) = false := by
          rw [show (1 : Int) = ((1 : Nat) : Int) from rfl, u8_eq (by omega)]; exact decide_eq_false h3
        have Ht := Lib.hid (takeP_other hx0 h3 h2)
        clear h0 h2 h3
        go_enter Tryd.func51, Tryd.ntmps51
        go_wp2
        exact bodyPost_ret (v := .tuple #[.agg #[.int .i64 0, .int .i64 0, .string ⟨#[]⟩], .int .i64 0, .int .i64 22]) (by simp [results, Tryd.results51, go_sem]) rfl ⟨by rw [Ht.out]; rfl, hx1⟩

end Go.Proofs.YtocjidlbjmghdaaDoor
