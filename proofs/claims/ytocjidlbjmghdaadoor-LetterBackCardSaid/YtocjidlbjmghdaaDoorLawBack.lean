/- The walk of LetterBack. -/
import Derived.Test.YtocjidlbjmghdaaDoorBackPlain
import Derived.Test.YtocjidlbjmghdaaDoorUnquote
namespace Go.Proofs.YtocjidlbjmghdaaDoor
open Go.RowKit Go.Cw

set_option maxHeartbeats 4000000 in
set_option maxRecDepth 100000 in
theorem back_long (w : World) (hT : Lib.Utf8Tabs 1 2 w) (a : Option Addr) (m c : Nat) (n : Int) (h : 100 < m) :
    Calls Tryd.prog 8 #[.slice a m c, .int .i64 n] w fun e w' => e = .returned (.bool true) ∧ Ext none_ w w' := by
  have hd : decide (100 < (m : Int)) = true := by simp; omega
  go_enter Tryd.func8, Tryd.ntmps8
  go_wp2_with fail
  refine (awake_any w hT).mono ?_
  rintro e w1 ⟨rfl, hx1⟩
  have hT1 := Tabs.ext0 hT hx1
  go_wp2_with fail
  refine (awake_any w1 hT1).mono ?_
  rintro e w2 ⟨rfl, hx2⟩
  go_wp2
  go_ret
  exact ⟨rfl, hx1.grow hx2⟩

set_option maxHeartbeats 8000000 in
set_option maxRecDepth 100000 in
theorem back_any (w : World) (hT : Lib.Utf8Tabs 1 2 w) (a : Option Addr) (xs : List Int) (b off c : Nat) (n : Int) (hR : RR w a xs b off) (hcap : xs.length ≤ c) (hl : xs.length ≤ 100) :
    Calls Tryd.prog 8 #[.slice a xs.length c, .int .i64 n] w fun e w' => e = .returned (.bool true) ∧ Ext none_ w w' := by
  have hd : decide (100 < (xs.length : Int)) = false := by simp; omega
  obtain ⟨K, hK, hKe⟩ := rem_at n xs.length (by omega)
  have Hu := Lib.hid (back_unquote xs)
  have Hl := Lib.hid (back_like (tB xs))
  have Hst := Lib.hid (back_star xs K)
  have Ho := Lib.hid (back_one xs)
  have Hf := Lib.hid (back_fold (tB xs))
  have hcn := back_count xs
  have Hcut := Lib.hid (back_cut xs K)
  have hzs := tB_size xs
  have hl1 : (xs.take K).length = K := by rw [List.length_take]; omega
  have hl2 : (xs.drop K).length = xs.length - K := by rw [List.length_drop]
  have hz1 := tB_size (xs.take K)
  have hz2 := tB_size (xs.drop K)
  rw [hl1] at hz1
  rw [hl2] at hz2
  obtain ⟨a1, c1, hsl1, ha1⟩ := sl_head a xs.length c K (by omega)
  obtain ⟨a2, c2, hsl2, ha2⟩ := sl_tail a xs.length c K hK
  have hRh : RR w a1 (xs.take K) b off := hR.head ha1
  have hRt : RR w a2 (xs.drop K) b (off + K) := hR.tail (c := c) hcap ha2
  have ht1 := fun (w : World) (h : RR w a1 (xs.take K) b off) => text3_any w a1 _ b off c1 h (by omega)
  have ht2 := fun (w : World) (h : RR w a2 (xs.drop K) b (off + K)) => text3_any w a2 _ b (off + K) c2 h (by omega)
  rw [hl1] at ht1
  rw [hl2] at ht2
  have ht0 := fun (w : World) (h : RR w a xs b off) => text3_any w a xs b off c h (by omega)
  have hlr : (runes (tB (xs.take K) ++ ⟨#[42]⟩ ++ tB (xs.drop K))).length = xs.length + 1 := by
    rw [show (⟨#[42]⟩ : ByteArray) = tB [42] from rfl, tB_app, tB_app, runes_tB, List.length_map, List.length_append, List.length_append, hl1, hl2]
    show K + 1 + _ = _
    omega
  have hlx : ∀ q : Int, (runes (tB xs ++ tB [q])).length = xs.length + 1 := fun q => by
    rw [tB_app, runes_tB, List.length_map, List.length_append]; rfl
  have hq : (quoteP (runes (tB xs))).length ≤ 502 := by
    unfold quoteP
    have := qflat_len (zs (runes (tB xs)))
    rw [zs_len, hcn] at this
    rw [List.length_append, List.length_cons]
    show _ + 1 + 1 ≤ 502
    omega
  have hfz : (foldP (runes (tB xs))).length ≤ 400 := by
    unfold foldP
    have := text_len ((zs (runes (tB xs))).map foldR)
    rw [List.length_map, zs_len, hcn] at this
    omega
  have hsz : (tB (xs.take K) ++ ⟨#[42]⟩ ++ tB (xs.drop K) : ByteArray).size ≤ 100000 := by
    rw [ByteArray.size_append, ByteArray.size_append]
    show _ + 1 + _ ≤ _
    omega
  have hsx : ∀ q : Int, (tB xs ++ tB [q]).size ≤ 100000 := fun q => by
    have := tB_size [q]
    rw [ByteArray.size_append]
    simp only [List.length_cons, List.length_nil] at this
    omega
  have hlk := fun w : World => like_any w (tB xs) (tB (xs.take K) ++ ⟨#[42]⟩ ++ tB (xs.drop K)) (by omega) hsz (by omega) (by rw [hlr]; omega)
  have hlk2 : ∀ w : World, Calls Tryd.prog 22 #[.string (tB xs ++ ⟨#[120]⟩), .string (tB xs ++ ⟨#[63]⟩)] w fun e w' => e = .returned (.tuple #[.bool true, .int .i64 0]) ∧ Ext none_ w w' := fun w => by
    have h := like_any w (tB xs ++ tB [120]) (tB xs ++ tB [63]) (hsx _) (hsx _) (by rw [hlx]; omega) (by rw [hlx]; omega)
    have h2 : likeP (zs (runes (tB xs ++ tB [120]))) (zs (runes (tB xs ++ tB [63]))) = true := Ho.out
    rw [h2] at h
    exact h
  have hno1 : ¬ 9223372036854775807 < (tB (xs.take K)).size + 1 := by omega
  have hno2 : ¬ 9223372036854775807 < (tB (xs.take K)).size + 1 + (tB (xs.drop K)).size := by omega
  have hno3 : ¬ 9223372036854775807 < (tB xs).size + 1 := by omega
  have hcz : (cutB (tB xs) K).size ≤ (tB xs).size := by
    rw [cutB_size]
    have := endL_le K (tB xs).data.toList
    rwa [show (tB xs).data.toList.length = (tB xs).size from Array.length_toList] at this
  have hno4 : ¬ 9223372036854775807 < (cutB (tB xs) K).size + (tB (xs.drop K)).size := by omega
  have hst : (⟨(text xs).toArray⟩ : ByteArray) = tB xs := rfl
  have hcut := fun w : World => cut_any w (tB xs) (K : Int) (by omega) (by omega)
  rw [Int.toNat_natCast] at hcut
  clear hsz hsx hlx hlr hl1 hl2 ha1 ha2 Ho
  go_enter Tryd.func8, Tryd.ntmps8
  go_wp2_with fail
  refine (awake_any w hT).mono ?_
  rintro e w1 ⟨rfl, hx1⟩
  have hRa := hR.ext0 hx1
  have hRh' := hRh.ext0 hx1
  have hRt' := hRt.ext0 hx1
  clear hR hRh hRt hd
  go_wp2_with fail
  refine (ht0 w1 hRa).mono ?_
  rintro e w2 ⟨rfl, rfl⟩
  clear hRa ht0
  have hqs : (⟨(quoteP (runes (tB xs))).toArray⟩ : ByteArray).size ≤ 20000 := by
    show (quoteP (runes (tB xs))).toArray.size ≤ 20000
    simp; omega
  have hfs : (⟨(foldP (runes (tB xs))).toArray⟩ : ByteArray).size ≤ 100000 := by
    show (foldP (runes (tB xs))).toArray.size ≤ 100000
    simp; omega
  have hle0 : (tB xs).size ≤ 100000 := by omega
  have hlk0 := fun w : World => like_any w (tB xs) (tB xs) hle0 hle0 (by omega) (by omega)
  have hqc := fun w : World => quote_any w (tB xs) hle0
  have huc := fun w : World => unquote_any w _ hqs
  rw [Hu.out] at huc
  rw [Hl.out] at hlk0
  rw [Hst.out] at hlk
  have hfc := fun (w : World) (h : Lib.Utf8Tabs 1 2 w) => fold_any w (tB xs) hle0 h
  have hfc2 := fun (w : World) (h : Lib.Utf8Tabs 1 2 w) => fold_any w _ hfs h
  rw [Hf.out] at hfc2
  have hcc := fun w : World => count_any w (tB xs) hle0
  rw [hcn] at hcc
  clear hqs hfs hq hfz Hu Hl Hst Hf hcn hz1 hz2 hzs
  generalize (⟨(foldP (runes (tB xs))).toArray⟩ : ByteArray) = O at *
  generalize (⟨(quoteP (runes (tB xs))).toArray⟩ : ByteArray) = QQ at *
  unfold unqV at huc
  simp only [hst] at huc
  clear hst
  generalize tB (xs.take K) = X1 at *
  generalize tB (xs.drop K) = X2 at *
  generalize tB xs = X at *
  generalize cutB X K = CK at *
  go_wp2_with fail
  refine (hqc _).mono ?_
  rintro e w3 ⟨rfl, hx3⟩
  go_wp2_with fail
  refine (huc _).mono ?_
  rintro e w4 ⟨rfl, hx4⟩
  go_wp2_with fail
  refine (hlk0 _).mono ?_
  rintro e w5 ⟨rfl, hx5⟩
  go_wp2_with fail
  have hxa := (hx3.grow hx4).grow hx5
  have hx5' := hx1.grow hxa
  have hR1 := hRh'.ext0 hxa
  have hR2 := hRt'.ext0 hxa
  clear hx1 hx3 hx4 hx5 hxa hRh' hRt' hqc huc hlk0 hKe
  have hF := Ext.drew w5
  refine wp_region_hoistT (fun w' => Ext none_ w5 w') 17 [0, 1, 2, 3, 6, 7, 8] 10 mixed (by kernel_rfl) hF ?_
  simp only [List.filterMap_cons, List.filterMap_nil, List.getElem?_cons_zero, List.getElem?_cons_succ]
  have hnn := Fam.ne hF
  generalize w5.drew = w6 at *
  repeat (refine wpV_step (fun K hK => ?_); go_simp; refine hK _ ?_; clear hK K)
  refine wpV_nil ?_
  refine wpAnyC_step [4] (by kernel_rfl) (by simp) ?_
  intro j hj
  simp only [List.mem_cons, List.not_mem_nil, or_false] at hj
  subst hj
  refine ⟨_, rfl, ?_⟩
  go_wp2_with fail
  refine (ht1 _ (hR1.ext0 hF)).mono ?_
  rintro e w5 ⟨rfl, rfl⟩
  go_wp2_with fail
  refine ⟨.inr hF, ?_⟩
  refine wpAnyC_again [5] 8 (by kernel_rfl) hF ?_
  simp only [List.filterMap_cons, List.filterMap_nil, List.getElem?_toArray, List.getElem?_cons_zero, List.getElem?_cons_succ]
  repeat (refine wpV_step (fun K hK => ?_); go_simp; refine hK _ ?_; clear hK K)
  refine wpV_nil ?_
  refine wpAnyC_step [9] (by kernel_rfl) (by simp) ?_
  intro j hj
  simp only [List.mem_cons, List.not_mem_nil, or_false] at hj
  subst hj
  refine ⟨_, rfl, ?_⟩
  go_wp2_with fail
  refine (ht2 _ (hR2.ext0 hF)).mono ?_
  rintro e w5 ⟨rfl, rfl⟩
  go_wp2_with fail
  refine ⟨.inr hF, ?_⟩
  refine wpAnyC_again [10] 6 (by kernel_rfl) hF ?_
  simp only [List.filterMap_cons, List.filterMap_nil, List.getElem?_toArray, List.getElem?_cons_zero, List.getElem?_cons_succ]
  repeat (refine wpV_step (fun K hK => ?_); go_simp; refine hK _ ?_; clear hK K)
  refine wpV_nil ?_
  refine wpAnyC_step [11] (by kernel_rfl) (by simp) ?_
  intro j hj
  simp only [List.mem_cons, List.not_mem_nil, or_false] at hj
  subst hj
  refine ⟨_, rfl, ?_⟩
  go_wp2_with fail
  refine (hlk _).mono ?_
  rintro e w7 ⟨rfl, hx7⟩
  have hF7 := hF.grow hx7
  clear hF hx7
  go_wp2_with fail
  refine ⟨.inr hF7, ?_⟩
  refine wpAnyC_again [12, 13, 14, 15, 16] 0 (by kernel_rfl) hF7 ?_
  simp only [List.filterMap_cons, List.filterMap_nil, List.getElem?_toArray, List.getElem?_cons_zero, List.getElem?_cons_succ]
  repeat (refine wpV_step (fun K hK => ?_); go_simp; refine hK _ ?_; clear hK K)
  refine wpV_nil ?_
  refine wpAnyC_end (by kernel_rfl) ?_
  have hx7' := hx5'.grow hF7
  have hR27 := hR2.ext0 hF7
  clear hnn hF7 hR1 hR2 hlk ht1 hsl1 hx5' hno1 hno2
  go_wp2_with fail
  refine (hlk2 _).mono ?_
  rintro e w8 ⟨rfl, hx8⟩
  have hx8' := hx7'.grow hx8
  have hR28 := hR27.ext0 hx8
  clear hlk2 hx7' hx8 hR27 hno3
  go_wp2_with fail
  refine (hfc _ (Tabs.ext0 hT hx8')).mono ?_
  rintro e w9 ⟨rfl, hx9⟩
  have hx9' := hx8'.grow hx9
  have hR29 := hR28.ext0 hx9
  have hT9 := Tabs.ext0 hT hx9'
  clear hfc hx8' hx9 hR28 hT
  go_wp2_with fail
  have hF := Ext.drew w9
  refine wp_region_hoistT (fun w' => Ext none_ w9 w') 54 [0, 1, 2, 3, 4, 5, 6, 7, 8, 9, 10, 11, 12, 13, 14, 15, 16, 17, 18, 19, 20, 21, 22, 23, 24, 25, 26, 27, 28, 29, 31] 23 mixed (by kernel_rfl) hF ?_
  simp only [List.filterMap_cons, List.filterMap_nil, List.getElem?_cons_zero, List.getElem?_cons_succ]
  have hnn := Fam.ne hF
  generalize w9.drew = w10 at *
  repeat (refine wpV_step (fun K hK => ?_); go_simp; refine hK _ ?_; clear hK K)
  refine wpV_nil ?_
  refine wpAnyC_step [30] (by kernel_rfl) (by simp) ?_
  intro j hj
  simp only [List.mem_cons, List.not_mem_nil, or_false] at hj
  subst hj
  refine ⟨_, rfl, ?_⟩
  go_wp2_with fail
  refine (hfc2 _ (Tabs.ext0 hT9 hF)).mono ?_
  rintro e w11 ⟨rfl, hx11⟩
  have hF11 := hF.grow hx11
  clear hF hx11 hfc2
  go_wp2_with fail
  refine ⟨.inr hF11, ?_⟩
  refine wpAnyC_again [32, 33, 34, 35, 37, 38] 16 (by kernel_rfl) hF11 ?_
  simp only [List.filterMap_cons, List.filterMap_nil, List.getElem?_toArray, List.getElem?_cons_zero, List.getElem?_cons_succ]
  repeat (refine wpV_step (fun K hK => ?_); go_simp; refine hK _ ?_; clear hK K)
  refine wpV_nil ?_
  refine wpAnyC_step [36] (by kernel_rfl) (by simp) ?_
  intro j hj
  simp only [List.mem_cons, List.not_mem_nil, or_false] at hj
  subst hj
  refine ⟨_, rfl, ?_⟩
  go_wp2_with fail
  refine (hcc _).mono ?_
  rintro e w12 ⟨rfl, hx12⟩
  have hF12 := hF11.grow hx12
  clear hF11 hx12 hcc
  go_wp2_with fail
  refine ⟨.inr hF12, ?_⟩
  refine wpAnyC_again [39, 40, 41, 42, 43, 45, 46, 47, 50] 6 (by kernel_rfl) hF12 ?_
  simp only [List.filterMap_cons, List.filterMap_nil, List.getElem?_toArray, List.getElem?_cons_zero, List.getElem?_cons_succ]
  repeat (refine wpV_step (fun K hK => ?_); go_simp; refine hK _ ?_; clear hK K)
  refine wpV_nil ?_
  refine wpAnyC_step [44] (by kernel_rfl) (by simp) ?_
  intro j hj
  simp only [List.mem_cons, List.not_mem_nil, or_false] at hj
  subst hj
  refine ⟨_, rfl, ?_⟩
  go_wp2_with fail
  refine (hcut _).mono ?_
  rintro e w13 ⟨rfl, hx13⟩
  have hF13 := hF12.grow hx13
  clear hF12 hx13 hcut
  go_wp2_with fail
  refine ⟨.inr hF13, ?_⟩
  refine wpAnyC_step [48] (by kernel_rfl) (by simp) ?_
  intro j hj
  simp only [List.mem_cons, List.not_mem_nil, or_false] at hj
  subst hj
  refine ⟨_, rfl, ?_⟩
  go_wp2_with fail
  refine (ht2 _ (hR29.ext0 hF13)).mono ?_
  rintro e w14 ⟨rfl, rfl⟩
  go_wp2_with fail
  refine ⟨.inr hF13, ?_⟩
  have hcutx := Hcut.out
  refine wpAnyC_again [49, 51, 52, 53] 0 (by kernel_rfl) hF13 ?_
  simp only [List.filterMap_cons, List.filterMap_nil, List.getElem?_toArray, List.getElem?_cons_zero, List.getElem?_cons_succ]
  repeat (refine wpV_step (fun K hK => ?_); go_simp; refine hK _ ?_; clear hK K)
  refine wpV_nil ?_
  refine wpAnyC_end (by kernel_rfl) ?_
  clear hnn
  go_wp2
  go_ret
  exact ⟨rfl, hx9'.grow hF13⟩

theorem back_all (w : World) (hT : Lib.Utf8Tabs 1 2 w) (a : Option Addr) (xs : List Int) (b off c : Nat) (hR : RR w a xs b off) (hcap : xs.length ≤ c) (n : Int) :
    Calls Tryd.prog 8 #[.slice a xs.length c, .int .i64 n] w fun e w' => e = .returned (.bool true) ∧ Ext none_ w w' := by
  by_cases h : 100 < xs.length
  · exact back_long w hT a _ c n h
  · exact back_any w hT a xs b off c n hR hcap (by omega)

end Go.Proofs.YtocjidlbjmghdaaDoor
