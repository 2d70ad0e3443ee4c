/- The walks of Print, Read, and of the law's num and text. -/
import Derived.Test.YtocjidlbjmghdaaDoorVShelf
namespace Go.Proofs.YtocjidlbjmghdaaDoor
open Go.RowKit Go.Cw

/-- a value as a text -/
def Vl.print (v : Vl) : List UInt8 := if v.isN then Lib.itoa v.n else if v.isT then quoteP (runes v.s) else [63]

theorem num_any (w : World) (n : Int) : Calls Tryd.prog 48 #[.int .i64 n] w fun e w' => e = .returned (Vl.val ⟨1, n, ⟨#[]⟩⟩) ∧ Ext none_ w w' := by
  unfold Vl.val
  go_enter Tryd.func48, Tryd.ntmps48
  go_wp2
  exact bodyPost_ret (v := .agg #[.int .i64 1, .int .i64 n, .string ⟨#[]⟩]) (by simp [results, Tryd.results48, go_sem]) rfl ⟨rfl, Ext.alloc _ _⟩
theorem txt_any (w : World) (s : ByteArray) : Calls Tryd.prog 49 #[.string s] w fun e w' => e = .returned (Vl.val ⟨2, 0, s⟩) ∧ Ext none_ w w' := by
  unfold Vl.val
  go_enter Tryd.func49, Tryd.ntmps49
  go_wp2
  exact bodyPost_ret (v := .agg #[.int .i64 2, .int .i64 0, .string s]) (by simp [results, Tryd.results49, go_sem]) rfl ⟨rfl, Ext.alloc _ _⟩

set_option maxHeartbeats 4000000 in
theorem print_any (w : World) (v : Vl) (hn : -9223372036854775808 ≤ v.n ∧ v.n ≤ 9223372036854775807) (hT : Nums w) :
    Calls Tryd.prog 41 #[v.val] w fun e w' => e = .returned (.string ⟨v.print.toArray⟩) ∧ Ext none_ w w' := by
  have hv := v.cases
  have ht := thing_any (w.alloc (.cells #[.int .i64 v.k, .int .i64 v.n, .string v.s] 49)) v
  obtain ⟨hx1, c0, c1, c2⟩ := vbox w v.k v.n v.s
  rcases hv with ⟨h1, h2, _⟩ | ⟨h1, h2, h3, _⟩ | ⟨h1, h2, h3, _⟩
  · rw [h2] at ht
    have Hp : Hid (v.print = Lib.itoa v.n) := Lib.hid (by unfold Vl.print; rw [if_pos h1])
    clear h1 h2
    generalize v.print = p at *
    unfold Vl.val at ht ⊢
    generalize v.k = k at *
    generalize v.n = n at *
    generalize v.s = s at *
    have t33 := ta33
    go_enter Tryd.func41, Tryd.ntmps41
    go_wp2_with fail
    refine ht.mono ?_
    rintro e w2 ⟨rfl, hx2⟩
    have hx2' := hx1.grow hx2
    clear ht hx1 hx2 c0 c1 c2
    go_wp2_with fail
    refine (itoa_any w2 n hn (hT.ext0 hx2')).mono ?_
    rintro e w3 ⟨rfl, hx3⟩
    rw [← Hp.out]
    go_wp2
    go_ret
    exact ⟨rfl, hx2'.grow hx3⟩
  · rw [h3] at ht
    have hs := h2.2.2
    have Hp : Hid (v.print = quoteP (runes v.s)) := Lib.hid (by unfold Vl.print; rw [if_neg h1, if_pos h2])
    clear h1 h2 h3
    generalize v.print = p at *
    unfold Vl.val at ht ⊢
    generalize v.k = k at *
    generalize v.n = n at *
    generalize v.s = s at *
    have t93 := ta93
    have t99 := ta99
    go_enter Tryd.func41, Tryd.ntmps41
    go_wp2_with fail
    refine ht.mono ?_
    rintro e w2 ⟨rfl, hx2⟩
    have hx2' := hx1.grow hx2
    clear ht hx1 hx2 c0 c1 c2
    go_wp2_with fail
    refine (quote_any w2 s (by omega)).mono ?_
    rintro e w3 ⟨rfl, hx3⟩
    rw [← Hp.out]
    go_wp2
    go_ret
    exact ⟨rfl, hx2'.grow hx3⟩
  · rw [h3] at ht
    have Hp : Hid (v.print = [63]) := Lib.hid (by unfold Vl.print; rw [if_neg h1, if_neg h2])
    clear h1 h2 h3
    generalize v.print = p at *
    unfold Vl.val at ht ⊢
    generalize v.k = k at *
    generalize v.n = n at *
    generalize v.s = s at *
    have t03 := ta03
    have t09 := ta09
    go_enter Tryd.func41, Tryd.ntmps41
    go_wp2_with fail
    refine ht.mono ?_
    rintro e w2 ⟨rfl, hx2⟩
    have hx2' := hx1.grow hx2
    clear ht hx1 hx2 c0 c1 c2
    go_wp2
    go_ret
    exact ⟨ret_str (by rw [Hp.out]), hx2'⟩

/-- a text as a value: none: ErrForm -/
noncomputable def readP (s : ByteArray) : Option Vl :=
  match Lib.atoiAll s.data.toList with
  | .ok n => if Vl.print ⟨1, n, ⟨#[]⟩⟩ = s.data.toList then some ⟨1, n, ⟨#[]⟩⟩ else none
  | _ => match unquoteP s with
    | some t => if Vl.print ⟨2, 0, ⟨t.toArray⟩⟩ = s.data.toList then some ⟨2, 0, ⟨t.toArray⟩⟩ else none
    | none => none
noncomputable def readV : Option Vl → Value
  | some v => .tuple #[v.val, .int .i64 0]
  | none => .tuple #[Vl.val ⟨0, 0, ⟨#[]⟩⟩, .int .i64 10]

/-- a value laid into block b -/
def setV (w : World) (b : Nat) (v : Vl) : World := ((w.setCell ⟨b, 0, none⟩ (.int .i64 v.k)).setCell ⟨b, 1, none⟩ (.int .i64 v.n)).setCell ⟨b, 2, none⟩ (.string v.s)
theorem setV_blk {w : World} {b : Nat} {c0 c1 c2 : Value} (h : w.heap[b]? = some (.cells #[c0, c1, c2] 49 (0, 0))) (v : Vl) : (setV w b v).heap[b]? = some (.cells #[.int .i64 v.k, .int .i64 v.n, .string v.s] 49 (0, 0)) :=
  blk_set (blk_set (blk_set h 0 (.int .i64 v.k)) 1 (.int .i64 v.n)) 2 (.string v.s)
theorem setV_ext (w : World) (b : Nat) (v : Vl) : Ext (· = b) w (setV w b v) :=
  ((Ext.setCell w ⟨b, 0, none⟩ _).trans (Ext.setCell _ ⟨b, 1, none⟩ _) fun _ _ h => h).trans (Ext.setCell _ ⟨b, 2, none⟩ _) fun _ _ h => h

theorem atoi_range {l : List UInt8} {n : Int} (h : Lib.atoiAll l = .ok n) : -9223372036854775808 ≤ n ∧ n ≤ 9223372036854775807 := by
  unfold Lib.atoiAll at h
  split at h
  · cases h
  · simp only at h
    split at h
    · cases h
    · cases h
    · split at h
      · cases h
      · split at h
        · cases h
        · rename_i h1 h2
          simp only [Lib.NumEnd.ok.injEq] at h
          subst h
          split
          · omega
          · omega

set_option maxHeartbeats 4000000 in
set_option maxRecDepth 100000 in
theorem read_any (w : World) (s : ByteArray) (hs : s.size ≤ 20000) (hT : Nums w) :
    Calls Tryd.prog 40 #[.string s] w fun e w' => e = .returned (readV (readP s)) ∧ Ext none_ w w' := by
  go_enter Tryd.func40, Tryd.ntmps40
  go_wp2_with fail
  have hx1 := Ext.alloc w (.cells #[.int .i64 0, .int .i64 0, .string ⟨#[]⟩] 49)
  have hb1 := blk_new w (.cells #[.int .i64 0, .int .i64 0, .string ⟨#[]⟩] 49)
  have hsz : (w.alloc (.cells #[.int .i64 0, .int .i64 0, .string ⟨#[]⟩] 49)).heap.size = w.heap.size + 1 := by simp
  have hx2 := Ext.alloc (w.alloc (.cells #[.int .i64 0, .int .i64 0, .string ⟨#[]⟩] 49)) (.cells #[.int .i64 1, .int .i64 0, .string ⟨#[]⟩] 49)
  have hb2 := blk_new (w.alloc (.cells #[.int .i64 0, .int .i64 0, .string ⟨#[]⟩] 49)) (.cells #[.int .i64 1, .int .i64 0, .string ⟨#[]⟩] 49)
  rw [hsz] at hb2
  have hb1' := hx2.blk0 hb1
  have hx2' := hx1.grow hx2
  clear hx1 hx2 hb1 hsz
  generalize (w.alloc (.cells #[.int .i64 0, .int .i64 0, .string ⟨#[]⟩] 49)).alloc (.cells #[.int .i64 1, .int .i64 0, .string ⟨#[]⟩] 49) = w2 at *
  generalize hrb : w.heap.size = rb at *
  have Hrb := Lib.hid hrb
  clear hrb
  refine (atoi_any w2 s (by omega) (hT.ext0 hx2')).mono ?_
  rintro e w3 ⟨he, hx3⟩
  have hbr := hx3.blk0 hb1'
  have hbv := hx3.blk0 hb2
  have hx3' := hx2'.grow hx3
  clear hb1' hb2 hx2' hx3
  rcases he with ⟨n, ha, rfl⟩ | ⟨ha, v, tt, pp, rfl⟩
  · have Ha := Lib.hid ha
    clear ha
    obtain ⟨c0, c1, c2⟩ := cells3 hbv
    have hz := frozen_of hbv
    have hbv4 := blk_set hbv 1 (.int .i64 n)
    have hbr4 := blk_set_ne hbr (show rb ≠ rb + 1 by omega) 1 (.int .i64 n)
    have hx4 := hx3'.trans (Ext.setCell w3 ⟨rb + 1, 1, none⟩ (.int .i64 n)) fun i hi e => by have := Hrb.out; simp at e; omega
    have hpr := print_any (w3.setCell ⟨rb + 1, 1, none⟩ (.int .i64 n)) ⟨1, n, ⟨#[]⟩⟩ (atoi_range Ha.out) (hT.ext0 hx4)
    unfold Vl.val at hpr
    go_wp2_with fail
    generalize w3.setCell ⟨rb + 1, 1, none⟩ (.int .i64 n) = w4 at *
    refine hpr.mono ?_
    rintro e w5 ⟨rfl, hx5⟩
    have hbv5 := hx5.blk0 hbv4
    have hbr5 := hx5.blk0 hbr4
    have hx5' := hx4.grow hx5
    clear hpr hbv4 hbr4 hx4 hx5 hbv hbr c0 c1 c2 hz
    obtain ⟨c0, c1, c2⟩ := cells3 hbv5
    obtain ⟨d0, d1, d2⟩ := cells3 hbr5
    have hz := frozen_of hbr5
    by_cases hq : Vl.print ⟨1, n, ⟨#[]⟩⟩ = s.data.toList
    · have hqb : (Vl.print ⟨1, n, ⟨#[]⟩⟩ == s.toList) = true := by rw [ByteArray.toList_eq, hq]; exact beq_self_eq_true _
      have Hq := Lib.hid hq
      clear hq
      have hbf := setV_blk hbr5 ⟨1, n, ⟨#[]⟩⟩
      have hxf := hx5'.trans (setV_ext w5 rb ⟨1, n, ⟨#[]⟩⟩) fun i hi e => by have h1 := Hrb.out; have h2 : i = rb := e; omega
      unfold setV at hbf hxf
      go_wp2
      generalize ((w5.setCell ⟨rb, 0, none⟩ (.int .i64 1)).setCell ⟨rb, 1, none⟩ (.int .i64 n)).setCell ⟨rb, 2, none⟩ (.string ⟨#[]⟩) = wf at *
      obtain ⟨f0, f1, f2⟩ := cells3 hbf
      refine bodyPost_ret (v := .tuple #[.agg #[.int .i64 1, .int .i64 n, .string ⟨#[]⟩], .int .i64 0]) (by simp [results, Tryd.results40, go_sem, f0, f1, f2]) rfl ⟨?_, hxf⟩
      have hrd : readP s = some ⟨1, n, ⟨#[]⟩⟩ := by unfold readP; rw [Ha.out]; simp only; rw [if_pos Hq.out]
      rw [hrd]; rfl
    · have hqb : (Vl.print ⟨1, n, ⟨#[]⟩⟩ == s.toList) = false := by rw [ByteArray.toList_eq]; exact beq_eq_false_iff_ne.2 hq
      have Hq := Lib.hid hq
      clear hq
      have hbf := setV_blk hbr5 ⟨0, 0, ⟨#[]⟩⟩
      have hxf := hx5'.trans (setV_ext w5 rb ⟨0, 0, ⟨#[]⟩⟩) fun i hi e => by have h1 := Hrb.out; have h2 : i = rb := e; omega
      unfold setV at hbf hxf
      go_wp2
      generalize ((w5.setCell ⟨rb, 0, none⟩ (.int .i64 0)).setCell ⟨rb, 1, none⟩ (.int .i64 0)).setCell ⟨rb, 2, none⟩ (.string ⟨#[]⟩) = wf at *
      obtain ⟨f0, f1, f2⟩ := cells3 hbf
      refine bodyPost_ret (v := .tuple #[.agg #[.int .i64 0, .int .i64 0, .string ⟨#[]⟩], .int .i64 10]) (by simp [results, Tryd.results40, go_sem, f0, f1, f2]) rfl ⟨?_, hxf⟩
      have hrd : readP s = none := by unfold readP; rw [Ha.out]; simp only; rw [if_neg Hq.out]
      rw [hrd]; rfl
  · have hna : ∀ (o : Option Vl), (match Lib.atoiAll s.data.toList with
      | .ok n => if Vl.print ⟨1, n, ⟨#[]⟩⟩ = s.data.toList then some ⟨1, n, ⟨#[]⟩⟩ else none
      | _ => o) = o := fun o => by
      cases h : Lib.atoiAll s.data.toList with
      | ok n => exact absurd h (ha n)
      | _ => rfl
    have Ha := Lib.hid hna
    clear ha hna
    go_wp2_with fail
    refine (unquote_any w3 s hs).mono ?_
    rintro e w4 ⟨rfl, hx4⟩
    have hbv4 := hx4.blk0 hbv
    have hbr4 := hx4.blk0 hbr
    have hx4' := hx3'.grow hx4
    clear hx4 hbv hbr hx3'
    cases hu : unquoteP s with
    | none =>
      have Hu := Lib.hid hu
      clear hu
      unfold unqV
      obtain ⟨d0, d1, d2⟩ := cells3 hbr4
      have hz := frozen_of hbr4
      have hbf := setV_blk hbr4 ⟨0, 0, ⟨#[]⟩⟩
      have hxf := hx4'.trans (setV_ext w4 rb ⟨0, 0, ⟨#[]⟩⟩) fun i hi e => by have h1 := Hrb.out; have h2 : i = rb := e; omega
      unfold setV at hbf hxf
      go_wp2
      generalize ((w4.setCell ⟨rb, 0, none⟩ (.int .i64 0)).setCell ⟨rb, 1, none⟩ (.int .i64 0)).setCell ⟨rb, 2, none⟩ (.string ⟨#[]⟩) = wf at *
      obtain ⟨f0, f1, f2⟩ := cells3 hbf
      refine bodyPost_ret (v := .tuple #[.agg #[.int .i64 0, .int .i64 0, .string ⟨#[]⟩], .int .i64 10]) (by simp [results, Tryd.results40, go_sem, f0, f1, f2]) rfl ⟨?_, hxf⟩
      have hrd : readP s = none := by unfold readP; rw [Ha.out, Hu.out]
      rw [hrd]; rfl
    | some t =>
      have Hu := Lib.hid hu
      clear hu
      unfold unqV
      simp only
      generalize htb : (⟨t.toArray⟩ : ByteArray) = tb at *
      have Htb := Lib.hid htb
      clear htb
      obtain ⟨c0, c1, c2⟩ := cells3 hbv4
      have hz := frozen_of hbv4
      have hbv5 := setV_blk hbv4 ⟨2, 0, tb⟩
      have hex5 := setV_ext w4 (rb + 1) ⟨2, 0, tb⟩
      have hbr5 := hex5.blk hbr4 (show ¬ rb = rb + 1 by omega)
      have hx5 := hx4'.trans hex5 fun i hi e => by have h1 := Hrb.out; have h2 : i = rb + 1 := e; omega
      have hpr := print_any (setV w4 (rb + 1) ⟨2, 0, tb⟩) ⟨2, 0, tb⟩ (by simp only; omega) (hT.ext0 hx5)
      unfold setV at hbv5 hbr5 hx5 hpr
      unfold Vl.val at hpr
      clear hex5 hx4' hbr4
      simp only at hbv5 hbr5 hx5 hpr
      go_wp2_with fail
      generalize ((w4.setCell ⟨rb + 1, 0, none⟩ (.int .i64 2)).setCell ⟨rb + 1, 1, none⟩ (.int .i64 0)).setCell ⟨rb + 1, 2, none⟩ (.string tb) = w5 at *
      refine hpr.mono ?_
      rintro e w6 ⟨rfl, hx6⟩
      have hbv6 := hx6.blk0 hbv5
      have hbr6 := hx6.blk0 hbr5
      have hx6' := hx5.grow hx6
      clear hpr hbv5 hbr5 hx5 hx6 hbv4 c0 c1 c2 hz
      obtain ⟨c0, c1, c2⟩ := cells3 hbv6
      obtain ⟨d0, d1, d2⟩ := cells3 hbr6
      have hz := frozen_of hbr6
      by_cases hq : Vl.print ⟨2, 0, tb⟩ = s.data.toList
      · have hqb : (Vl.print ⟨2, 0, tb⟩ == s.toList) = true := by rw [ByteArray.toList_eq, hq]; exact beq_self_eq_true _
        have Hq := Lib.hid hq
        clear hq
        have hbf := setV_blk hbr6 ⟨2, 0, tb⟩
        have hxf := hx6'.trans (setV_ext w6 rb ⟨2, 0, tb⟩) fun i hi e => by have h1 := Hrb.out; have h2 : i = rb := e; omega
        unfold setV at hbf hxf
        go_wp2
        generalize ((w6.setCell ⟨rb, 0, none⟩ (.int .i64 2)).setCell ⟨rb, 1, none⟩ (.int .i64 0)).setCell ⟨rb, 2, none⟩ (.string tb) = wf at *
        obtain ⟨f0, f1, f2⟩ := cells3 hbf
        refine bodyPost_ret (v := .tuple #[.agg #[.int .i64 2, .int .i64 0, .string tb], .int .i64 0]) (by simp [results, Tryd.results40, go_sem, f0, f1, f2]) rfl ⟨?_, hxf⟩
        have hrd : readP s = some ⟨2, 0, tb⟩ := by unfold readP; rw [Ha.out, Hu.out]; simp only; rw [Htb.out, if_pos Hq.out]
        rw [hrd]; rfl
      · have hqb : (Vl.print ⟨2, 0, tb⟩ == s.toList) = false := by rw [ByteArray.toList_eq]; exact beq_eq_false_iff_ne.2 hq
        have Hq := Lib.hid hq
        clear hq
        have hbf := setV_blk hbr6 ⟨0, 0, ⟨#[]⟩⟩
        have hxf := hx6'.trans (setV_ext w6 rb ⟨0, 0, ⟨#[]⟩⟩) fun i hi e => by have h1 := Hrb.out; have h2 : i = rb := e; omega
        unfold setV at hbf hxf
        go_wp2
        generalize ((w6.setCell ⟨rb, 0, none⟩ (.int .i64 0)).setCell ⟨rb, 1, none⟩ (.int .i64 0)).setCell ⟨rb, 2, none⟩ (.string ⟨#[]⟩) = wf at *
        obtain ⟨f0, f1, f2⟩ := cells3 hbf
        refine bodyPost_ret (v := .tuple #[.agg #[.int .i64 0, .int .i64 0, .string ⟨#[]⟩], .int .i64 10]) (by simp [results, Tryd.results40, go_sem, f0, f1, f2]) rfl ⟨?_, hxf⟩
        have hrd : readP s = none := by unfold readP; rw [Ha.out, Hu.out]; simp only; rw [Htb.out, if_neg Hq.out]
        rw [hrd]; rfl

end Go.Proofs.YtocjidlbjmghdaaDoor
