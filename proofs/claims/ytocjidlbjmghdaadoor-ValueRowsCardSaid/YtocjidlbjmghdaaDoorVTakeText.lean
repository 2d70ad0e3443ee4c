/- The walk of text: a text taken off bytes. -/
import Derived.Test.YtocjidlbjmghdaaDoorVTakePlain
import Derived.Test.YtocjidlbjmghdaaDoorVAwake
namespace Go.Proofs.YtocjidlbjmghdaaDoor
open Go.RowKit Go.Cw

/-- what is handed back -/
def tkV (x : Vl × Nat × Int) : Value := .tuple #[x.1.val, .int .i64 x.2.1, .int .i64 x.2.2]

set_option maxHeartbeats 4000000 in
set_option maxRecDepth 100000 in
theorem ttext_any (w : World) (a : Option Addr) (bs : List UInt8) (b off c : Nat) (h : UR w a bs b off) (hn : bs.length ≤ 100000) (h1 : 1 ≤ bs.length) :
    Calls Tryd.prog 79 #[.slice a bs.length c] w fun e w' => e = .returned (tkV (tk (bs.drop 1) [] 1)) ∧ Ext none_ w w' := by
  generalize hR : tk (bs.drop 1) [] 1 = R
  replace hR := Lib.hid hR
  have ha := h.addr (by omega)
  subst ha
  have hx1 := Ext.alloc w (.cells #[.int .i64 0, .int .i64 0, .string ⟨#[]⟩] 49)
  have hr1 := blk_new w (.cells #[.int .i64 0, .int .i64 0, .string ⟨#[]⟩] 49)
  go_enter Tryd.func79, Tryd.ntmps79
  go_wp2_with fail
  generalize w.alloc (.cells #[.int .i64 0, .int .i64 0, .string ⟨#[]⟩] 49) = w1 at *
  go_loopw [5, 6] (fun q i wr => ∃ (k : Nat) (s : List UInt8), 1 ≤ k ∧ k ≤ bs.length ∧ i = .int .i64 k ∧ UOwn wr w1.heap.size q s ∧ s.length ≤ 200 ∧ tk (bs.drop k) s k = R ∧ Ext none_ w1 wr) (fun _ i _ => bs.length - (RowKit.intOf i).toNat)
  case atStart => exact ⟨1, [], Nat.le_refl _, h1, rfl, UOwn.nil _ _, by simp, hR.out, Ext.refl _ _⟩
  case round =>
    obtain ⟨k, s, hk1, hk, rfl, hown, hsl, htk, hx⟩ := hrel
    have hr := hx.blk0 hr1
    by_cases hlt : k < bs.length
    · have hlz : decide ((k : Int) < (bs.length : Int)) = true := decide_eq_true (by omega)
      obtain ⟨x, hx0⟩ : ∃ x, bs[k]? = some x := ⟨_, List.getElem?_eq_getElem hlt⟩
      have hcx := cell_ext0 (hx1.grow hx) (h.cell k x hx0)
      have hdk : bs.drop k = x :: bs.drop (k + 1) := by
        obtain ⟨hl, rfl⟩ := List.getElem?_eq_some_iff.1 hx0
        exact List.drop_eq_getElem_cons hl
      rw [hdk] at htk
      obtain ⟨d0, d1, d2⟩ := cells3 hr
      have hz := frozen_of hr
      clear hx0 hdk
      by_cases h0 : x = 0
      · subst h0
        by_cases hk2 : k + 1 = bs.length
        · have hke : ((k : Int) + 1 == (bs.length : Int)) = true := by simp; omega
          rw [List.drop_of_length_le (by omega)] at htk
          have Htk := Lib.hid (show tk [0] s k = R from htk)
          clear htk
          have hbf := setV_blk hr ⟨0, 0, ⟨#[]⟩⟩
          have hxf := (hx1.grow hx).trans (setV_ext wr w.heap.size ⟨0, 0, ⟨#[]⟩⟩) fun i hi e => by have h2 : i = w.heap.size := e; omega
          unfold setV at hbf hxf
          go_wp2
          generalize ((wr.setCell ⟨w.heap.size, 0, none⟩ (.int .i64 0)).setCell ⟨w.heap.size, 1, none⟩ (.int .i64 0)).setCell ⟨w.heap.size, 2, none⟩ (.string ⟨#[]⟩) = wf at *
          obtain ⟨f0, f1, f2⟩ := cells3 hbf
          refine bodyPost_ret (v := .tuple #[.agg #[.int .i64 0, .int .i64 0, .string ⟨#[]⟩], .int .i64 0, .int .i64 20]) (by simp [results, Tryd.results79, go_sem, f0, f1, f2]) rfl ⟨?_, hxf⟩
          rw [← Htk.out]; rfl
        · have hke : ((k : Int) + 1 == (bs.length : Int)) = false := by simp; omega
          have hlt2 : k + 1 < bs.length := by omega
          obtain ⟨y, hy0⟩ : ∃ y, bs[k + 1]? = some y := ⟨_, List.getElem?_eq_getElem hlt2⟩
          have hcy := cell_ext0 (hx1.grow hx) (h.cell (k + 1) y hy0)
          have hdk : bs.drop (k + 1) = y :: bs.drop (k + 2) := by
            obtain ⟨hl, rfl⟩ := List.getElem?_eq_some_iff.1 hy0
            exact List.drop_eq_getElem_cons hl
          rw [hdk] at htk
          clear hy0 hdk
          unfold tk at htk
          rw [if_pos rfl] at htk
          by_cases hy : y = 0
          · subst hy
            rw [if_pos rfl] at htk
            have Htk := Lib.hid htk
            clear htk
            obtain ⟨p1, z1, g1, rfl, hU, _⟩ := hown.read
            obtain ⟨S, hS⟩ : ∃ S : ByteArray, S = ⟨s.toArray⟩ := ⟨_, rfl⟩
            have hcv := conv_bytes wr p1 s g1 0 z1 hU
            rw [← hS] at hcv
            have HS := Lib.hid hS
            clear hS hU hown
            have hbf := setV_blk hr ⟨2, 0, S⟩
            have hxf := (hx1.grow hx).trans (setV_ext wr w.heap.size ⟨2, 0, S⟩) fun i hi e => by have h2 : i = w.heap.size := e; omega
            unfold setV at hbf hxf
            go_wp2
            generalize ((wr.setCell ⟨w.heap.size, 0, none⟩ (.int .i64 2)).setCell ⟨w.heap.size, 1, none⟩ (.int .i64 0)).setCell ⟨w.heap.size, 2, none⟩ (.string S) = wf at *
            obtain ⟨f0, f1, f2⟩ := cells3 hbf
            refine bodyPost_ret (v := .tuple #[.agg #[.int .i64 2, .int .i64 0, .string S], .int .i64 (k + 1 + 1), .int .i64 0]) (by simp [results, Tryd.results79, go_sem, f0, f1, f2]) rfl ⟨?_, hxf⟩
            rw [← Htk.out, HS.out]; rfl
          · rw [if_neg hy] at htk
            have hyb : ((y.toNat : Int) == 0) = false := by
              rw [show (0 : Int) = ((0 : Nat) : Int) from rfl, u8_eq (by omega)]; exact decide_eq_false hy
            by_cases hf : y = 255
            · rw [if_pos hf] at htk
              have hfb : ((y.toNat : Int) != 255) = false := by rw [hf]; rfl
              clear hy hf
              obtain ⟨p1, z1, g1, hue, hU, _⟩ := hown.read
              by_cases hs2 : 200 ≤ s.length
              · rw [if_pos hs2] at htk
                have hsb : ((s.length : Int) == 200) = true := by simp; omega
                have Htk := Lib.hid htk
                clear htk hU hown
                subst hue
                have hbf := setV_blk hr ⟨0, 0, ⟨#[]⟩⟩
                have hxf := (hx1.grow hx).trans (setV_ext wr w.heap.size ⟨0, 0, ⟨#[]⟩⟩) fun i hi e => by have h2 : i = w.heap.size := e; omega
                unfold setV at hbf hxf
                go_wp2
                generalize ((wr.setCell ⟨w.heap.size, 0, none⟩ (.int .i64 0)).setCell ⟨w.heap.size, 1, none⟩ (.int .i64 0)).setCell ⟨w.heap.size, 2, none⟩ (.string ⟨#[]⟩) = wf at *
                obtain ⟨f0, f1, f2⟩ := cells3 hbf
                refine bodyPost_ret (v := .tuple #[.agg #[.int .i64 0, .int .i64 0, .string ⟨#[]⟩], .int .i64 0, .int .i64 32]) (by simp [results, Tryd.results79, go_sem, f0, f1, f2]) rfl ⟨?_, hxf⟩
                rw [← Htk.out]; rfl
              · rw [if_neg hs2] at htk
                have hsb : ((s.length : Int) == 200) = false := by simp; omega
                clear hU
                subst hue
                have hb5 : w1.heap.size ≤ (wr.alloc (.cells #[.int .u8 ((0 : UInt8).toNat : Int)] 5)).heap.size := by have := hx.size; simp; omega
                go_wp2_with (refine app_byte rfl _ _ rfl w1.heap.size _ _ 0 (hown.ext0 (Ext.alloc _ _)) rfl wr.heap.size rfl (cells1 (blk_new _ _)) (by omega) hb5 ?_)
                intro v6 w6 hown6 hx6
                have hx6' := (hx.grow (Ext.alloc wr (.cells #[.int .u8 ((0 : UInt8).toNat : Int)] 5))).trans hx6 fun i hi hb => by have := (hown.lt i hb).1; omega
                clear hx6 hb5 hown hx
                go_wp2
                exact ⟨⟨k + 2, s ++ [0], by omega, by omega, by first | (simp; done) | (simp; omega), hown6, by rw [List.length_append]; simp; omega, htk, hx6'⟩, by simp [RowKit.intOf]; omega⟩
            · rw [if_neg hf] at htk
              have hfb : ((y.toNat : Int) != 255) = true := by
                rw [bne, show (255 : Int) = ((255 : Nat) : Int) from rfl, u8_eq (by omega)]
                show (!decide (y = 255)) = true
                rw [decide_eq_false hf]; rfl
              have Htk := Lib.hid htk
              clear htk hy hf
              have hbf := setV_blk hr ⟨0, 0, ⟨#[]⟩⟩
              have hxf := (hx1.grow hx).trans (setV_ext wr w.heap.size ⟨0, 0, ⟨#[]⟩⟩) fun i hi e => by have h2 : i = w.heap.size := e; omega
              unfold setV at hbf hxf
              go_wp2
              generalize ((wr.setCell ⟨w.heap.size, 0, none⟩ (.int .i64 0)).setCell ⟨w.heap.size, 1, none⟩ (.int .i64 0)).setCell ⟨w.heap.size, 2, none⟩ (.string ⟨#[]⟩) = wf at *
              obtain ⟨f0, f1, f2⟩ := cells3 hbf
              refine bodyPost_ret (v := .tuple #[.agg #[.int .i64 0, .int .i64 0, .string ⟨#[]⟩], .int .i64 0, .int .i64 10]) (by simp [results, Tryd.results79, go_sem, f0, f1, f2]) rfl ⟨?_, hxf⟩
              rw [← Htk.out]; rfl
      · have hxb : ((x.toNat : Int) == 0) = false := by
          rw [show (0 : Int) = ((0 : Nat) : Int) from rfl, u8_eq (by omega)]; exact decide_eq_false h0
        have htk2 : (if 200 ≤ s.length then (⟨0, 0, ⟨#[]⟩⟩, 0, 32) else tk (bs.drop (k + 1)) (s ++ [x]) (k + 1)) = R := by
          rw [← htk]
          cases hdr : bs.drop (k + 1) with
          | nil =>
            unfold tk
            rw [if_neg h0]
          | cons d r =>
            conv => rhs; unfold tk
            rw [if_neg h0]
        replace htk := htk2
        clear htk2 h0
        obtain ⟨p1, z1, g1, hue, hU, _⟩ := hown.read
        by_cases hs2 : 200 ≤ s.length
        · rw [if_pos hs2] at htk
          have hsb : ((s.length : Int) == 200) = true := by simp; omega
          have Htk := Lib.hid htk
          clear htk hU hown
          subst hue
          have hbf := setV_blk hr ⟨0, 0, ⟨#[]⟩⟩
          have hxf := (hx1.grow hx).trans (setV_ext wr w.heap.size ⟨0, 0, ⟨#[]⟩⟩) fun i hi e => by have h2 : i = w.heap.size := e; omega
          unfold setV at hbf hxf
          go_wp2
          generalize ((wr.setCell ⟨w.heap.size, 0, none⟩ (.int .i64 0)).setCell ⟨w.heap.size, 1, none⟩ (.int .i64 0)).setCell ⟨w.heap.size, 2, none⟩ (.string ⟨#[]⟩) = wf at *
          obtain ⟨f0, f1, f2⟩ := cells3 hbf
          refine bodyPost_ret (v := .tuple #[.agg #[.int .i64 0, .int .i64 0, .string ⟨#[]⟩], .int .i64 0, .int .i64 32]) (by simp [results, Tryd.results79, go_sem, f0, f1, f2]) rfl ⟨?_, hxf⟩
          rw [← Htk.out]; rfl
        · rw [if_neg hs2] at htk
          have hsb : ((s.length : Int) == 200) = false := by simp; omega
          clear hU
          subst hue
          have hb5 : w1.heap.size ≤ (wr.alloc (.cells #[.int .u8 ((x : UInt8).toNat : Int)] 5)).heap.size := by have := hx.size; simp; omega
          go_wp2_with (refine app_byte rfl _ _ rfl w1.heap.size _ _ x (hown.ext0 (Ext.alloc _ _)) rfl wr.heap.size rfl (cells1 (blk_new _ _)) (by omega) hb5 ?_)
          intro v6 w6 hown6 hx6
          have hx6' := (hx.grow (Ext.alloc wr (.cells #[.int .u8 ((x : UInt8).toNat : Int)] 5))).trans hx6 fun i hi hb => by have := (hown.lt i hb).1; omega
          clear hx6 hb5 hown hx
          go_wp2
          exact ⟨⟨k + 1, s ++ [x], by omega, by omega, by first | (simp; done) | (simp; omega), hown6, by rw [List.length_append]; simp; omega, htk, hx6'⟩, by simp [RowKit.intOf]; omega⟩
    · have hkn : k = bs.length := by omega
      rw [List.drop_of_length_le (by omega)] at htk
      have hkl : decide ((k : Int) < (bs.length : Int)) = false := decide_eq_false (by omega)
      replace htk := Lib.hid htk
      clear hkn
      have hbf := setV_blk hr ⟨0, 0, ⟨#[]⟩⟩
      have hxf := (hx1.grow hx).trans (setV_ext wr w.heap.size ⟨0, 0, ⟨#[]⟩⟩) fun i hi e => by have h2 : i = w.heap.size := e; omega
      obtain ⟨d0, d1, d2⟩ := cells3 hr
      have hz := frozen_of hr
      unfold setV at hbf hxf
      go_wp2
      generalize ((wr.setCell ⟨w.heap.size, 0, none⟩ (.int .i64 0)).setCell ⟨w.heap.size, 1, none⟩ (.int .i64 0)).setCell ⟨w.heap.size, 2, none⟩ (.string ⟨#[]⟩) = wf at *
      obtain ⟨f0, f1, f2⟩ := cells3 hbf
      refine bodyPost_ret (v := .tuple #[.agg #[.int .i64 0, .int .i64 0, .string ⟨#[]⟩], .int .i64 0, .int .i64 20]) (by simp [results, Tryd.results79, go_sem, f0, f1, f2]) rfl ⟨?_, hxf⟩
      rw [← htk.out]; rfl

end Go.Proofs.YtocjidlbjmghdaaDoor
