/- The walk of the reference's Take: a value taken off bytes. -/
import Derived.Test.YtocjidlbjmghdaaDoorVTake
namespace Go.Proofs.YtocjidlbjmghdaaDoor
open Go.RowKit Go.Cw

theorem UR.one (w : World) (x : UInt8) : UR (w.alloc (.cells #[.int .u8 x.toNat] 5)) (some ⟨w.heap.size, 0, none⟩) [x] w.heap.size 0 :=
  ⟨fun _ => rfl, fun j c hj => by
    match j, hj with
    | 0, hj =>
      simp at hj
      subst hj
      exact cells1 (blk_new _ _)⟩
theorem app_one (l : List UInt8) (x : UInt8) : (⟨l.toArray⟩ : ByteArray) ++ ⟨[x].toArray⟩ = ⟨(l ++ [x]).toArray⟩ := by rw [app_B]

set_option maxHeartbeats 4000000 in
set_option maxRecDepth 100000 in
theorem rtext_any (w : World) (a : Option Addr) (bs : List UInt8) (b off c : Nat) (h : UR w a bs b off) (hn : bs.length ≤ 100000) (hx2 : bs[0]? = some 2) :
    Calls Tryd.prog 51 #[.slice a bs.length c] w fun e w' => e = .returned (tkV (tk (bs.drop 1) [] 1)) ∧ Ext none_ w w' := by
  generalize hR : tk (bs.drop 1) [] 1 = R
  replace hR := Lib.hid hR
  have h1 : 1 ≤ bs.length := by
    have := (List.getElem?_eq_some_iff.1 hx2).1; omega
  have ha := h.addr (by omega)
  subst ha
  have hxa := Ext.alloc w (.cells #[.int .i64 0, .int .i64 0, .string ⟨#[]⟩] 49)
  have hr1 := blk_new w (.cells #[.int .i64 0, .int .i64 0, .string ⟨#[]⟩] 49)
  have hcx := (h.ext0 hxa).cell 0 2 hx2
  rw [Nat.add_zero, show (((2 : UInt8).toNat : Nat) : Int) = 2 from rfl] at hcx
  have hlz : ((bs.length : Int) == 0) = false := beq_eq_false_iff_ne.2 (by omega)
  have hp : 0 < bs.length := by omega
  have hx1 := hxa
  clear hxa hx2
  go_enter Tryd.func51, Tryd.ntmps51
  go_wp2_with fail
  generalize w.alloc (.cells #[.int .i64 0, .int .i64 0, .string ⟨#[]⟩] 49) = w1 at *
  go_loopw [7, 8] (fun q i wr => ∃ (k : Nat) (s : List UInt8), 1 ≤ k ∧ k ≤ bs.length ∧ i = .int .i64 k ∧ q = .string ⟨s.toArray⟩ ∧ s.length ≤ 200 ∧ tk (bs.drop k) s k = R ∧ Ext none_ w1 wr) (fun _ i _ => bs.length - (RowKit.intOf i).toNat)
  case atStart => exact ⟨1, [], Nat.le_refl _, h1, rfl, rfl, by simp, hR.out, Ext.refl _ _⟩
  case round =>
    obtain ⟨k, s, hk1, hk, rfl, rfl, hsl, htk, hx⟩ := hrel
    have hr := hx.blk0 hr1
    by_cases hlt : k < bs.length
    · have hlz : decide ((k : Int) < (bs.length : Int)) = true := decide_eq_true (by omega)
      obtain ⟨x, hx0⟩ : ∃ x, bs[k]? = some x := ⟨_, List.getElem?_eq_getElem hlt⟩
      have hxa := Ext.alloc wr (.cells #[.int .u8 x.toNat] 5)
      have hcx := cell_ext0 (hx1.grow hx) (h.cell k x hx0)
      have hcxa := cell_ext0 hxa hcx
      have hcv : (convert 51 9 (.slice (some ⟨wr.heap.size, 0, none⟩) 1 1)).run Tryd.prog (wr.alloc (.cells #[.int .u8 x.toNat] 5)) = .ok (.string ⟨[x].toArray⟩) (wr.alloc (.cells #[.int .u8 x.toNat] 5)) := conv_bytes (wr.alloc (.cells #[.int .u8 x.toNat] 5)) _ [x] _ 0 1 (UR.one wr x)
      have hdk : bs.drop k = x :: bs.drop (k + 1) := by
        obtain ⟨hl, rfl⟩ := List.getElem?_eq_some_iff.1 hx0
        exact List.drop_eq_getElem_cons hl
      rw [hdk] at htk
      obtain ⟨S, hS⟩ : ∃ S : ByteArray, S = ⟨s.toArray⟩ := ⟨_, rfl⟩
      obtain ⟨X, hX⟩ : ∃ X : ByteArray, X = ⟨[x].toArray⟩ := ⟨_, rfl⟩
      rw [← hX] at hcv
      rw [← hS]
      have hsz : S.size = s.length := by rw [hS]; show s.toArray.size = _; rw [List.size_toArray]
      have Hap : Hid (S ++ X = ⟨(s ++ [x]).toArray⟩) := Lib.hid (by rw [hS, hX]; exact app_one s x)
      have hxs : X.size = 1 := by rw [hX]; rfl
      have hno : ¬ 2 ^ 63 - 1 < S.size + X.size := by rw [hsz, hxs]; omega
      have Hsz := Lib.hid hsz
      have HS := Lib.hid hS
      have HX := Lib.hid hX
      clear hdk hS hX hxs hsz
      by_cases h0 : x = 0
      · subst h0
        rw [show (((0 : UInt8).toNat : Nat) : Int) = 0 from rfl] at hcx hcxa hxa hcv
        by_cases hk2 : k + 1 = bs.length
        · have hke : decide ((bs.length : Int) ≤ (k : Int) + 1) = true := decide_eq_true (by omega)
          rw [List.drop_of_length_le (by omega)] at htk
          have Htk := Lib.hid (show tk [0] s k = R from htk)
          clear htk hk2
          have hra := hxa.blk0 hr
          have hxb2 := (hx1.grow hx).grow hxa
          obtain ⟨d0, d1, d2⟩ := cells3 hra
          have hz := frozen_of hra
          have hbf := setV_blk hra ⟨0, 0, ⟨#[]⟩⟩
          have hxf := hxb2.trans (setV_ext (wr.alloc (.cells #[.int .u8 0] 5)) w.heap.size ⟨0, 0, ⟨#[]⟩⟩) fun i hi e => by have h2 : i = w.heap.size := e; omega
          unfold setV at hbf hxf
          simp only at hbf hxf
          go_wp2
          generalize (((wr.alloc (.cells #[.int .u8 0] 5)).setCell ⟨w.heap.size, 0, none⟩ (.int .i64 0)).setCell ⟨w.heap.size, 1, none⟩ (.int .i64 0)).setCell ⟨w.heap.size, 2, none⟩ (.string ⟨#[]⟩) = wf at *
          obtain ⟨f0, f1, f2⟩ := cells3 hbf
          refine bodyPost_ret (v := .tuple #[.agg #[.int .i64 0, .int .i64 0, .string ⟨#[]⟩], .int .i64 0, .int .i64 20]) (by simp [results, Tryd.results51, go_sem, f0, f1, f2]) rfl ⟨?_, hxf⟩
          rw [← Htk.out]; rfl
        · have hke : decide ((bs.length : Int) ≤ (k : Int) + 1) = false := decide_eq_false (by omega)
          have hlt2 : k + 1 < bs.length := by omega
          obtain ⟨y, hy0⟩ : ∃ y, bs[k + 1]? = some y := ⟨_, List.getElem?_eq_getElem hlt2⟩
          have hcy := cell_ext0 ((hx1.grow hx).grow hxa) (h.cell (k + 1) y hy0)
          have hdk : bs.drop (k + 1) = y :: bs.drop (k + 2) := by
            obtain ⟨hl, rfl⟩ := List.getElem?_eq_some_iff.1 hy0
            exact List.drop_eq_getElem_cons hl
          rw [hdk] at htk
          clear hy0 hdk
          unfold tk at htk
          rw [if_pos rfl] at htk
          by_cases hy : y = 0
          · subst hy
            rw [show (((0 : UInt8).toNat : Nat) : Int) = 0 from rfl] at hcy
            rw [if_pos rfl] at htk
            have Htk := Lib.hid htk
            clear htk
            have hra := hxa.blk0 hr
            have hxb2 := (hx1.grow hx).grow hxa
            obtain ⟨d0, d1, d2⟩ := cells3 hra
            have hz := frozen_of hra
            have hbf := setV_blk hra ⟨2, 0, S⟩
            have hxf := hxb2.trans (setV_ext (wr.alloc (.cells #[.int .u8 0] 5)) w.heap.size ⟨2, 0, S⟩) fun i hi e => by have h2 : i = w.heap.size := e; omega
            unfold setV at hbf hxf
            simp only at hbf hxf
            go_wp2
            generalize (((wr.alloc (.cells #[.int .u8 0] 5)).setCell ⟨w.heap.size, 0, none⟩ (.int .i64 2)).setCell ⟨w.heap.size, 1, none⟩ (.int .i64 0)).setCell ⟨w.heap.size, 2, none⟩ (.string S) = wf at *
            obtain ⟨f0, f1, f2⟩ := cells3 hbf
            refine bodyPost_ret (v := .tuple #[.agg #[.int .i64 2, .int .i64 0, .string S], .int .i64 (k + 2), .int .i64 0]) (by simp [results, Tryd.results51, go_sem, f0, f1, f2]) rfl ⟨?_, hxf⟩
            rw [← Htk.out, HS.out]; rfl
          · rw [if_neg hy] at htk
            have hyb : ((y.toNat : Int) == 0) = false := by
              rw [show (0 : Int) = ((0 : Nat) : Int) from rfl, u8_eq (by omega)]; exact decide_eq_false hy
            by_cases hf : y = 255
            · rw [if_pos hf] at htk
              have hfb : ((y.toNat : Int) != 255) = false := by rw [hf]; rfl
              clear hy hf
              by_cases hs2 : 200 ≤ s.length
              · rw [if_pos hs2] at htk
                have hsb : decide ((200 : Int) ≤ (S.size : Int)) = true := decide_eq_true (by have := Hsz.out; omega)
                have Htk := Lib.hid htk
                clear htk hs2
                have hra := hxa.blk0 hr
                have hxb2 := (hx1.grow hx).grow hxa
                obtain ⟨d0, d1, d2⟩ := cells3 hra
                have hz := frozen_of hra
                have hbf := setV_blk hra ⟨0, 0, ⟨#[]⟩⟩
                have hxf := hxb2.trans (setV_ext (wr.alloc (.cells #[.int .u8 0] 5)) w.heap.size ⟨0, 0, ⟨#[]⟩⟩) fun i hi e => by have h2 : i = w.heap.size := e; omega
                unfold setV at hbf hxf
                simp only at hbf hxf
                go_wp2
                generalize (((wr.alloc (.cells #[.int .u8 0] 5)).setCell ⟨w.heap.size, 0, none⟩ (.int .i64 0)).setCell ⟨w.heap.size, 1, none⟩ (.int .i64 0)).setCell ⟨w.heap.size, 2, none⟩ (.string ⟨#[]⟩) = wf at *
                obtain ⟨f0, f1, f2⟩ := cells3 hbf
                refine bodyPost_ret (v := .tuple #[.agg #[.int .i64 0, .int .i64 0, .string ⟨#[]⟩], .int .i64 0, .int .i64 32]) (by simp [results, Tryd.results51, go_sem, f0, f1, f2]) rfl ⟨?_, hxf⟩
                rw [← Htk.out]; rfl
              · rw [if_neg hs2] at htk
                have hsb : decide ((200 : Int) ≤ (S.size : Int)) = false := decide_eq_false (by have := Hsz.out; omega)
                have Hs2 := Lib.hid hs2
                clear hs2
                go_wp2
                exact ⟨⟨k + 2, s ++ [0], by omega, by omega, by first | (simp; done) | (simp; omega), by rw [Hap.out], by have := Hs2.out; rw [List.length_append, List.length_singleton]; omega, htk, hx.grow hxa⟩, by simp [RowKit.intOf]; omega⟩
            · rw [if_neg hf] at htk
              have hfb : ((y.toNat : Int) != 255) = true := by
                rw [bne, show (255 : Int) = ((255 : Nat) : Int) from rfl, u8_eq (by omega)]
                show (!decide (y = 255)) = true
                rw [decide_eq_false hf]; rfl
              have Htk := Lib.hid htk
              clear htk hy hf
              have hra := hxa.blk0 hr
              have hxb2 := (hx1.grow hx).grow hxa
              obtain ⟨d0, d1, d2⟩ := cells3 hra
              have hz := frozen_of hra
              have hbf := setV_blk hra ⟨0, 0, ⟨#[]⟩⟩
              have hxf := hxb2.trans (setV_ext (wr.alloc (.cells #[.int .u8 0] 5)) w.heap.size ⟨0, 0, ⟨#[]⟩⟩) fun i hi e => by have h2 : i = w.heap.size := e; omega
              unfold setV at hbf hxf
              simp only at hbf hxf
              go_wp2
              generalize (((wr.alloc (.cells #[.int .u8 0] 5)).setCell ⟨w.heap.size, 0, none⟩ (.int .i64 0)).setCell ⟨w.heap.size, 1, none⟩ (.int .i64 0)).setCell ⟨w.heap.size, 2, none⟩ (.string ⟨#[]⟩) = wf at *
              obtain ⟨f0, f1, f2⟩ := cells3 hbf
              refine bodyPost_ret (v := .tuple #[.agg #[.int .i64 0, .int .i64 0, .string ⟨#[]⟩], .int .i64 0, .int .i64 10]) (by simp [results, Tryd.results51, go_sem, f0, f1, f2]) rfl ⟨?_, hxf⟩
              rw [← Htk.out]; rfl
      · have hxb : ((x.toNat : Int) == 0) = false := by
          rw [show (0 : Int) = ((0 : Nat) : Int) from rfl, u8_eq (by omega)]; exact decide_eq_false h0
        have htk2 : (if 200 ≤ s.length then (⟨0, 0, ⟨#[]⟩⟩, 0, 32) else tk (bs.drop (k + 1)) (s ++ [x]) (k + 1)) = R := by
          rw [← htk]
          cases hdr : bs.drop (k + 1) with
          | nil =>
            unfold tk
            rw [if_neg h0]
          | cons d r =>
            conv => rhs; unfold tk
            rw [if_neg h0]
        replace htk := htk2
        clear htk2 h0
        by_cases hs2 : 200 ≤ s.length
        · rw [if_pos hs2] at htk
          have hsb : decide ((200 : Int) ≤ (S.size : Int)) = true := decide_eq_true (by have := Hsz.out; omega)
          have Htk := Lib.hid htk
          clear htk hs2
          have hra := hxa.blk0 hr
          have hxb2 := (hx1.grow hx).grow hxa
          obtain ⟨d0, d1, d2⟩ := cells3 hra
          have hz := frozen_of hra
          have hbf := setV_blk hra ⟨0, 0, ⟨#[]⟩⟩
          have hxf := hxb2.trans (setV_ext (wr.alloc (.cells #[.int .u8 x.toNat] 5)) w.heap.size ⟨0, 0, ⟨#[]⟩⟩) fun i hi e => by have h2 : i = w.heap.size := e; omega
          unfold setV at hbf hxf
          simp only at hbf hxf
          go_wp2
          generalize (((wr.alloc (.cells #[.int .u8 x.toNat] 5)).setCell ⟨w.heap.size, 0, none⟩ (.int .i64 0)).setCell ⟨w.heap.size, 1, none⟩ (.int .i64 0)).setCell ⟨w.heap.size, 2, none⟩ (.string ⟨#[]⟩) = wf at *
          obtain ⟨f0, f1, f2⟩ := cells3 hbf
          refine bodyPost_ret (v := .tuple #[.agg #[.int .i64 0, .int .i64 0, .string ⟨#[]⟩], .int .i64 0, .int .i64 32]) (by simp [results, Tryd.results51, go_sem, f0, f1, f2]) rfl ⟨?_, hxf⟩
          rw [← Htk.out]; rfl
        · rw [if_neg hs2] at htk
          have hsb : decide ((200 : Int) ≤ (S.size : Int)) = false := decide_eq_false (by have := Hsz.out; omega)
          have Hs2 := Lib.hid hs2
          clear hs2
          go_wp2
          exact ⟨⟨k + 1, s ++ [x], by omega, by omega, by first | (simp; done) | (simp; omega), by rw [Hap.out], by have := Hs2.out; rw [List.length_append, List.length_singleton]; omega, htk, hx.grow hxa⟩, by simp [RowKit.intOf]; omega⟩
    · have hkn : k = bs.length := by omega
      rw [List.drop_of_length_le (by omega)] at htk
      have hkl : decide ((k : Int) < (bs.length : Int)) = false := decide_eq_false (by omega)
      have Htk := Lib.hid htk
      clear hkn htk
      obtain ⟨d0, d1, d2⟩ := cells3 hr
      have hz := frozen_of hr
      have hbf := setV_blk hr ⟨0, 0, ⟨#[]⟩⟩
      have hxf := (hx1.grow hx).trans (setV_ext wr w.heap.size ⟨0, 0, ⟨#[]⟩⟩) fun i hi e => by have h2 : i = w.heap.size := e; omega
      unfold setV at hbf hxf
      go_wp2
      generalize ((wr.setCell ⟨w.heap.size, 0, none⟩ (.int .i64 0)).setCell ⟨w.heap.size, 1, none⟩ (.int .i64 0)).setCell ⟨w.heap.size, 2, none⟩ (.string ⟨#[]⟩) = wf at *
      obtain ⟨f0, f1, f2⟩ := cells3 hbf
      refine bodyPost_ret (v := .tuple #[.agg #[.int .i64 0, .int .i64 0, .string ⟨#[]⟩], .int .i64 0, .int .i64 20]) (by simp [results, Tryd.results51, go_sem, f0, f1, f2]) rfl ⟨?_, hxf⟩
      rw [← Htk.out]; rfl

end Go.Proofs.YtocjidlbjmghdaaDoor
