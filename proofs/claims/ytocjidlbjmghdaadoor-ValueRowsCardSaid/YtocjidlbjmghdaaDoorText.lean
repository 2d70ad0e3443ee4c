/- The walks of the reference's Text and Fold. -/
import Derived.Test.YtocjidlbjmghdaaDoorFold
import Derived.Test.YtocjidlbjmghdaaDoorCut
namespace Go.Proofs.YtocjidlbjmghdaaDoor
open Go.RowKit Go.Cw

theorem app_B (l : List UInt8) (b : ByteArray) : (⟨l.toArray⟩ : ByteArray) ++ b = ⟨(l ++ b.data.toList).toArray⟩ := by
  cases b with | mk d => 
  apply ByteArray.ext
  simp [ByteArray.data_append]
theorem text_take {rs : List Int} {k : Nat} {r : Int} (h : rs[k]? = some r) : text (rs.take (k + 1)) = text (rs.take k) ++ Lib.encodeRune r := by
  obtain ⟨hl, rfl⟩ := List.getElem?_eq_some_iff.1 h
  rw [List.take_succ_eq_append_getElem hl, text_append, text_cons, text_nil, List.append_nil]
theorem text_len (rs : List Int) : (text rs).length ≤ 4 * rs.length := by
  induction rs with
  | nil => simp [text]
  | cons r rs ih =>
    have := (enc_len r).2
    rw [text_cons, List.length_append, List.length_cons]; omega
theorem enc_size (r : Int) : (Utf8.encode r).size ≤ 4 := by
  have h := congrArg List.length (enc_eq r)
  rw [show (Utf8.encode r).data.toList.length = (Utf8.encode r).size from Array.length_toList] at h
  have := (enc_len r).2
  omega
theorem app_enc (l : List UInt8) (r : Int) : (⟨l.toArray⟩ : ByteArray) ++ Utf8.encode r = ⟨(l ++ Lib.encodeRune r).toArray⟩ := by rw [app_B, enc_eq]

set_option maxHeartbeats 2000000 in
theorem text_any (w : World) (a : Option Addr) (rs : List Int) (b off c : Nat) (h : RR w a rs b off) (hn : rs.length ≤ 100000) :
    Calls Tryd.prog 34 #[.slice a rs.length c] w fun e w' => e = .returned (.string ⟨(text rs).toArray⟩) ∧ w' = w := by
  go_enter Tryd.func34, Tryd.ntmps34
  go_wp2_with fail
  go_loopw [3, 4] (fun q i wr => ∃ k : Nat, k ≤ rs.length ∧ i = .int .i64 k ∧ q = .string ⟨(text (rs.take k)).toArray⟩ ∧ wr = w) (fun _ i _ => rs.length - (RowKit.intOf i).toNat)
  case atStart => exact ⟨0, Nat.zero_le _, rfl, rfl, rfl⟩
  case round =>
    obtain ⟨k, hk, rfl, rfl, e⟩ := hrel
    subst e
    by_cases hlt : k < rs.length
    · obtain ⟨r, hrk⟩ : ∃ x, rs[k]? = some x := ⟨_, List.getElem?_eq_getElem hlt⟩
      have hc := h.cell k r hrk
      have ha := h.addr (by omega)
      subst ha
      have Htk := Lib.hid (text_take hrk)
      have hl := text_len (rs.take k)
      have hl2 := List.length_take_le k rs
      generalize text (rs.take k) = l at *
      have Happ := Lib.hid (app_enc l r)
      have hno : ¬ 9223372036854775807 < l.length + (Utf8.encode r).size := by have := enc_size r; omega
      clear hrk
      go_wp2
      exact ⟨⟨k + 1, by omega, by simp, by rw [Htk.out, Happ.out], trivial⟩, by simp [RowKit.intOf]; omega⟩
    · have hkn : k = rs.length := by omega
      subst hkn
      rw [List.take_length]
      go_wp2
      go_ret
      exact ⟨rfl, rfl⟩

/-- Block b holds these runes. -/
def CR (w : World) (b n : Nat) (g : Nat → Int) : Prop :=
  ∃ c : Array Value, n ≤ c.size ∧ w.heap[b]? = some (.cells c 21 (0, 0)) ∧ ∀ (j : Nat), j < n → c[j]? = some (.int .i32 (g j))
theorem CR.cell {w : World} {b n : Nat} {g : Nat → Int} (h : CR w b n g) {j : Nat} (hj : j < n) : w.cell? ⟨b, j, none⟩ = some (.int .i32 (g j)) := by
  obtain ⟨c, _, hb, hc⟩ := h
  rw [cell_of hb]; exact hc j hj
theorem CR.frozen {w : World} {b n : Nat} {g : Nat → Int} (h : CR w b n g) (j : Nat) : w.frozen? ⟨b, j, none⟩ = false := by
  obtain ⟨c, _, hb, hc⟩ := h
  exact frozen_of hb j
theorem CR.set {w : World} {b n k : Nat} {g g' : Nat → Int} (h : CR w b n g) {v : Int} (hv : g' k = v) (hg : ∀ j, j < n → j ≠ k → g' j = g j) : CR (w.setCell ⟨b, k, none⟩ (.int .i32 v)) b n g' := by
  obtain ⟨c, hs, hb, hc⟩ := h
  refine ⟨c.setIfInBounds k (.int .i32 v), by simp [hs], blk_set hb k _, fun j hj => ?_⟩
  rw [Array.getElem?_setIfInBounds]
  by_cases e : k = j
  · subst e; rw [if_pos rfl, if_pos (by omega), hv]
  · rw [if_neg e, hc j hj, hg j hj fun e' => e e'.symm]
theorem CR.congr {w : World} {b n : Nat} {g g' : Nat → Int} (h : CR w b n g) (hg : ∀ j, j < n → g' j = g j) : CR w b n g' := by
  obtain ⟨c, hs, hb, hc⟩ := h
  exact ⟨c, hs, hb, fun j hj => by rw [hc j hj, hg j hj]⟩
theorem CR.rr {w : World} {b n : Nat} {g : Nat → Int} (h : CR w b n g) {rs : List Int} (hl : rs.length = n) (hg : ∀ j z, rs[j]? = some z → g j = z) : RR w (some ⟨b, 0, none⟩) rs b 0 :=
  ⟨fun _ => rfl, fun j z hj => by
    have hjn := (List.getElem?_eq_some_iff.1 hj).1
    rw [Nat.zero_add, h.cell (by omega), hg j z hj]⟩
theorem ROwn.cr {w : World} {base : Nat} {v : Value} {rs : List Int} (h : ROwn w base v rs) (hn : 0 < rs.length) : ∃ b c, v = .slice (some ⟨b, 0, none⟩) rs.length c ∧ base ≤ b ∧ CR w b rs.length (fun j => rs.getD j 0) := by
  rcases h.2 with ⟨rfl, h0⟩ | ⟨g, cap, cur, rfl, hb, hg, hc1, hc2, hc3, hc4⟩
  · omega
  · refine ⟨g, cap, rfl, hb, cur, by omega, hg, fun j hj => ?_⟩
    have h1 := congrArg (·[j]?) hc4
    simp only [List.getElem?_take, List.getElem?_map] at h1
    rw [if_pos (by omega), List.getElem?_eq_getElem hj] at h1
    show cur[j]? = some (.int .i32 (rs.getD j 0))
    rw [List.getD_eq_getElem?_getD, List.getElem?_eq_getElem hj]
    simpa using h1

set_option maxHeartbeats 4000000 in
theorem rfold_any (w : World) (s : ByteArray) (hs : s.size ≤ 100000) :
    Calls Tryd.prog 26 #[.string s] w fun e w' => e = .returned (.string ⟨(foldP (runes s)).toArray⟩) ∧ Ext none_ w w' := by
  have hlen := runes_len s
  go_enter Tryd.func26, Tryd.ntmps26
  go_wp2_with fail
  refine (runes_any w s hs).mono ?_
  rintro e w1 ⟨v, rfl, hown, hx1⟩
  by_cases h0 : (runes s).length = 0
  · obtain ⟨a, c, b, rfl, hR⟩ := hown.read
    rw [zs_len, h0]
    have he : runes s = [] := List.length_eq_zero_iff.1 h0
    have He := Lib.hid he
    clear hown hR he h0 hlen
    go_wp2_with fail
    go_loopw [4] (fun i wr => i = .int .i64 0 ∧ wr = w1) (fun _ _ => 0)
    case atStart => exact ⟨rfl, rfl⟩
    case round =>
      obtain ⟨rfl, e⟩ := hrel
      subst e
      go_wp2_with fail
      refine (text_any wr a [] 0 0 c ⟨fun h => by simp at h, fun j z hj => by simp at hj⟩ (by simp)).mono ?_
      rintro e w2 ⟨rfl, rfl⟩
      go_wp2
      go_ret
      exact ⟨ret_str (by rw [He.out]; rfl), hx1⟩
  · obtain ⟨b, c, rfl, hb, hC⟩ := hown.cr (by rw [zs_len]; omega)
    rw [zs_len] at hC ⊢
    have hval := runes_valid s
    generalize hrs : runes s = rs at *
    have Hrs := Lib.hid hrs
    clear hrs hown
    go_wp2_with fail
    go_loopw [4] (fun i wr => ∃ k : Nat, k ≤ rs.length ∧ i = .int .i64 k ∧ CR wr b rs.length (fun j => if j < k then foldR ((zs rs).getD j 0) else (zs rs).getD j 0) ∧ Ext none_ w wr) (fun i _ => rs.length - (RowKit.intOf i).toNat)
    case atStart => exact ⟨0, by omega, rfl, hC.congr (fun j _ => by simp), hx1⟩
    case round =>
      obtain ⟨k, hk, rfl, hCk, hx⟩ := hrel
      by_cases hlt : k < rs.length
      · obtain ⟨r, hrk⟩ : ∃ x, rs[k]? = some x := ⟨_, List.getElem?_eq_getElem hlt⟩
        have hvr := (hval r (List.mem_of_getElem? hrk)).2
        have hgk : (zs rs).getD k 0 = (r : Int) := by rw [List.getD_eq_getElem?_getD, zs_get hrk]; rfl
        have hc := hCk.cell hlt
        simp only [Nat.lt_irrefl, if_false] at hc
        rw [hgk] at hc
        have hz := hCk.frozen k
        have hst : ∀ v : Int, foldR r = v → CR (wr.setCell ⟨b, k, none⟩ (.int .i32 v)) b rs.length (fun j => if j < k + 1 then foldR ((zs rs).getD j 0) else (zs rs).getD j 0) ∧ Ext none_ w (wr.setCell ⟨b, k, none⟩ (.int .i32 v)) := fun v hv =>
          ⟨hCk.set (by rw [if_pos (by omega), hgk]; exact hv) (fun j _ hj => by
            by_cases h1 : j < k
            · rw [if_pos h1, if_pos (by omega)]
            · rw [if_neg h1, if_neg (by omega)]), hx.trans (Ext.setCell wr ⟨b, k, none⟩ (.int .i32 v)) fun i hi e => by simp at e; omega⟩
        have hsk : foldR r = r → CR wr b rs.length (fun j => if j < k + 1 then foldR ((zs rs).getD j 0) else (zs rs).getD j 0) := fun hv => hCk.congr (fun j _ => by
            by_cases h1 : j < k
            · rw [if_pos h1, if_pos (by omega)]
            · by_cases h2 : j = k
              · subst h2; rw [if_pos (by omega), if_neg (by omega), hgk]; exact hv
              · rw [if_neg h1, if_neg (by omega)])
        clear hval hrk hgk hC
        by_cases hc1 : (65 ≤ (r : Int) ∧ (r : Int) ≤ 90)
        · have d1 : decide (65 ≤ (r : Int)) = true := decide_eq_true hc1.1
          have d2 : decide ((r : Int) ≤ 90) = true := decide_eq_true hc1.2
          obtain ⟨hS1, hS2⟩ := hst (r + 32) (by unfold foldR; rw [if_pos (.inl hc1)])
          clear hst hsk hc1
          go_wp2
          exact ⟨⟨k + 1, by omega, by simp, hS1, hS2⟩, by simp [RowKit.intOf]; omega⟩
        · by_cases hc2 : (192 ≤ (r : Int) ∧ (r : Int) ≤ 222 ∧ (r : Int) ≠ 215)
          · have d1 : decide (65 ≤ (r : Int)) = true := decide_eq_true (by omega)
            have d2 : decide ((r : Int) ≤ 90) = false := decide_eq_false (by omega)
            have d3 : decide (192 ≤ (r : Int)) = true := decide_eq_true (by omega)
            have d4 : decide ((r : Int) ≤ 222) = true := decide_eq_true (by omega)
            have d5 : ((r : Int) != 215) = true := by simpa using hc2.2.2
            obtain ⟨hS1, hS2⟩ := hst (r + 32) (by unfold foldR; rw [if_pos (.inr hc2)])
            clear hst hsk hc1 hc2
            go_wp2
            exact ⟨⟨k + 1, by omega, by simp, hS1, hS2⟩, by simp [RowKit.intOf]; omega⟩
          · have hS1 := hsk (by unfold foldR; rw [if_neg (by omega)])
            clear hst hsk
            by_cases d1' : 65 ≤ (r : Int)
            · have d1 : decide (65 ≤ (r : Int)) = true := decide_eq_true (by omega)
              have d2 : decide ((r : Int) ≤ 90) = false := decide_eq_false (by omega)
              by_cases d3' : 192 ≤ (r : Int)
              · have d3 : decide (192 ≤ (r : Int)) = true := decide_eq_true (by omega)
                by_cases d4' : (r : Int) ≤ 222
                · have d4 : decide ((r : Int) ≤ 222) = true := decide_eq_true (by omega)
                  have d5 : ((r : Int) != 215) = false := by simp; omega
                  clear d1' d3' d4' hc1 hc2
                  go_wp2
                  exact ⟨⟨k + 1, by omega, by simp, hS1, hx⟩, by simp [RowKit.intOf]; omega⟩
                · have d4 : decide ((r : Int) ≤ 222) = false := decide_eq_false (by omega)
                  clear d1' d3' d4' hc1 hc2
                  go_wp2
                  exact ⟨⟨k + 1, by omega, by simp, hS1, hx⟩, by simp [RowKit.intOf]; omega⟩
              · have d3 : decide (192 ≤ (r : Int)) = false := decide_eq_false (by omega)
                clear d1' d3' hc1 hc2
                go_wp2
                exact ⟨⟨k + 1, by omega, by simp, hS1, hx⟩, by simp [RowKit.intOf]; omega⟩
            · have d1 : decide (65 ≤ (r : Int)) = false := decide_eq_false (by omega)
              have d3 : decide (192 ≤ (r : Int)) = false := decide_eq_false (by omega)
              clear d1' hc1 hc2
              go_wp2
              exact ⟨⟨k + 1, by omega, by simp, hS1, hx⟩, by simp [RowKit.intOf]; omega⟩
      · have hkn : k = rs.length := by omega
        subst hkn
        have hRf := hCk.rr (rs := (zs rs).map foldR) (by rw [List.length_map, zs_len]) (fun j z hj => by
          rw [List.getElem?_map] at hj
          obtain ⟨y, hy, rfl⟩ := Option.map_eq_some_iff.1 hj
          have hjl := (List.getElem?_eq_some_iff.1 hy).1
          rw [zs_len] at hjl
          rw [if_pos hjl, List.getD_eq_getElem?_getD, hy]; rfl)
        have hfl : ((zs rs).map foldR).length = rs.length := by rw [List.length_map, zs_len]
        have ht := text_any wr _ _ b 0 c hRf (by omega)
        rw [hfl] at ht
        go_wp2_with fail
        refine ht.mono ?_
        rintro e w2 ⟨rfl, rfl⟩
        go_wp2
        go_ret
        exact ⟨ret_str (by rw [Hrs.out]; rfl), hx⟩

end Go.Proofs.YtocjidlbjmghdaaDoor
