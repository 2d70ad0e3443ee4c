/- The walk of the reference's Epochs. -/
import Derived.Test.YtfjlclloddbkmaaLRef1
import Derived.Test.YtfjlclloddbkmaaLEpochs
namespace Go.Proofs.Ytfjlclloddbkmaa
open Go.RowKit Go.Cw

def ci (z : Int) : List Value := [.int .i64 z]
theorem ci_len (z : Int) : (ci z).length = 1 := rfl
theorem ci_one (z : Int) : ∀ u ∈ ci z, u.oneCell' = true := by
  intro u hu
  simp only [ci, List.mem_cons, List.not_mem_nil, or_false] at hu
  rw [hu]; rfl
theorem info3 : (Try.prog.info? 3).map (fun i => (i.zero, i.size, i.bytes)) = some (some (.int .i64 0), 1, 8) := by kernel_rfl
theorem one_cell (w : World) (z : Int) : ∀ i u, (ci z)[i]? = some u → (w.alloc (.cells #[.int .i64 z] 3)).cell? ⟨w.heap.size, i, none⟩ = some u := by
  intro i u hu
  have := cell_of (blk_new w (.cells #[.int .i64 z] 3)) i
  rw [this]
  simpa [ci] using hu
theorem und23 : Try.prog.underlying 23 = some (.slice (Try.prog.elem 23)) := by kernel_rfl
theorem elem23 : Try.prog.elem 23 = 3 := by kernel_rfl
theorem GR.head {w : World} {a : Option Addr} {us : List Int} {b : Nat} (h : GR ci 1 w a us b 0) {c m : Nat} (hc : us.length ≤ c) (hm : m ≤ us.length) (hac : a = none → c = 0) :
    ∃ a1, (∀ w, (Instr.slice 23 (.slice a us.length c) none (some (.int .i64 (m : Int))) none).run Try.prog w = .ok (.slice a1 m c) w) ∧ GR ci 1 w a1 (us.take m) b 0 ∧ (a1 = none → c = 0) := by
  refine ⟨if c = 0 then a else a.map (·.add (0 * 1)), fun w => ?_, ⟨fun hp => ?_, fun j x hj i u hu => ?_⟩, fun hn => ?_⟩
  · rw [run_slice_h w 23 a us.length c und23 .i64 m (by omega) (by omega), elem23, Try.sizeOf3]
    rfl
  · rw [List.length_take] at hp
    rw [h.addr (by omega), if_neg (by omega)]
    simp [Addr.add]
  · rw [List.getElem?_take] at hj
    split at hj
    · exact h.cell j x hj i u hu
    · cases hj
  · split at hn
    · exact hac hn
    · cases a with
      | none => exact hac rfl
      | some ad => cases hn
theorem GR.tl {w : World} {a : Option Addr} {us : List Int} {b : Nat} (h : GR ci 1 w a us b 0) {c m : Nat} (hc : us.length ≤ c) (hm : m ≤ us.length) (hac : a = none → c = 0) :
    ∃ a1, (∀ w, (Instr.slice 23 (.slice a us.length c) (some (.int .i64 (m : Int))) none none).run Try.prog w = .ok (.slice a1 (us.length - m) (c - m)) w) ∧ GR ci 1 w a1 (us.drop m) b m ∧ (a1 = none → c - m = 0) := by
  refine ⟨if c = m then a else a.map (·.add (m * 1)), fun w => ?_, ⟨fun hp => ?_, fun j x hj i u hu => ?_⟩, fun hn => ?_⟩
  · rw [run_slice_l w 23 a us.length c und23 .i64 m (by omega) (by omega), elem23, Try.sizeOf3]
    rfl
  · rw [List.length_drop] at hp
    rw [h.addr (by omega), if_neg (by omega)]
    cases m with
    | zero => simp [Addr.add]
    | succ m => simp [Addr.add]
  · rw [List.getElem?_drop] at hj
    have := h.cell (m + j) x hj i u hu
    rw [show m + j * 1 + i = 0 + (m + j) * 1 + i by omega]
    exact this
  · split at hn
    · omega
    · cases a with
      | none => have := hac rfl; omega
      | some ad => cases hn
theorem flat_ci (us : List Int) : us.flatMap ci = us.map (Value.int .i64) := by
  induction us with
  | nil => rfl
  | cons u us ih => rw [List.flatMap_cons, ih]; rfl
theorem mem_take1 {L : List (K × Int)} {k : Nat} {p : K × Int} (h : L[k]? = some p) (x : Int) : x ∈ (L.take (k + 1)).map (·.2) ↔ (x ∈ (L.take k).map (·.2) ∨ x = p.2) := by
  obtain ⟨hl, rfl⟩ := List.getElem?_eq_some_iff.1 h
  rw [List.take_succ_eq_append_getElem hl, List.map_append, List.mem_append]
  simp

set_option maxHeartbeats 2000000 in
theorem repochs_any (w : World) (base f : Nat) (sv : Value) (L : List (K × Int)) (hR : RefIs w base f sv L) (hn : L.length ≤ 10000) :
    Calls Try.prog 19 #[.pointer (some ⟨f, 0, none⟩)] w fun e w' => ∃ a us c b, e = .returned (.slice a us.length c) ∧ SD us (· ∈ L.map (·.2)) ∧ IRw w' a us b 0 ∧ Ext none_ w w' ∧ us.length ≤ L.length := by
  obtain ⟨sa, sc, sb, rfl, hG, _, _⟩ := hR.own.read cel_len
  have hbl := hR.blk
  clear hR
  go_enter Try.func19, Try.ntmps19
  go_wp2
  go_loopw [3, 4] (fun v i wr => ∃ (k : Nat) (us : List Int), k ≤ L.length ∧ i = .int .i64 k ∧ Ext none_ w wr ∧ GOwn ci 3 1 wr w.heap.size v us ∧ Hid (SD us (· ∈ (L.take k).map (·.2))) ∧ us.length ≤ k) (fun _ i _ => L.length - (intOf i).toNat)
  case atStart => exact ⟨0, [], Nat.zero_le _, rfl, Ext.refl _ _, GOwn.nil _ _ _ _ _, Lib.hid ⟨List.Pairwise.nil, fun x => by simp⟩, Nat.le_refl _⟩
  case round =>
    obtain ⟨k, us, hk, rfl, hx, hg, Hsd, hul⟩ := hrel
    have f0 := cells1 (hx.blk0 hbl)
    by_cases hlt : k < L.length
    · obtain ⟨p, hpk⟩ : ∃ p, L[k]? = some p := ⟨_, List.getElem?_eq_getElem hlt⟩
      obtain ⟨_, _, _, _, d4⟩ := (hG.ext0 hx).item hpk
      simp only [Nat.zero_add] at d4
      have ha1 := hG.addr (by omega)
      subst ha1
      obtain ⟨a, c, b, rfl, hgr, huc, hac⟩ := hg.read ci_len
      have Hpk := Lib.hid hpk
      clear hpk
      go_wp2
      clear f0 d4
      go_loopw [6] (fun i w4 => ∃ (m : Nat), m ≤ us.length ∧ i = .int .i64 m ∧ Ext none_ wr w4 ∧ Hid (∀ j x, j < m → us[j]? = some x → x < p.2)) (fun i _ => us.length - (intOf i).toNat)
      case atStart => exact ⟨0, Nat.zero_le _, rfl, Ext.refl _ _, Lib.hid fun j x h => absurd h (by omega)⟩
      case round =>
        obtain ⟨m, hm, rfl, hx4, Hb⟩ := hrel
        have hx4' := hx.grow hx4
        have hsz4 := hx4'.size
        by_cases hml : m < us.length
        · obtain ⟨y, hy⟩ : ∃ y, us[m]? = some y := ⟨_, List.getElem?_eq_getElem hml⟩
          have dy := (hgr.ext0 hx4).cell m y hy 0 _ rfl
          simp only [Nat.zero_add, Nat.mul_one, Nat.add_zero] at dy
          have ha := hgr.addr (by omega)
          subst ha
          have Hy := Lib.hid hy
          clear hy
          by_cases hye : y < p.2
          · have hd : decide (y < p.2) = true := decide_eq_true hye
            have Hye := Lib.hid hye
            clear hye
            go_wp2
            refine ⟨⟨m + 1, by omega, by simp, hx4, Lib.hid fun j x hj hjx => ?_⟩, by simp [intOf]; omega⟩
            by_cases hjm : j = m
            · subst hjm; rw [Hy.out] at hjx; cases hjx; exact Hye.out
            · exact Hb.out j x (by omega) hjx
          · have hd : decide (y < p.2) = false := decide_eq_false hye
            by_cases hyq : y = p.2
            · have hq : (y == p.2) = true := by simp [hyq]
              have Hyq := Lib.hid hyq
              clear hyq hye
              go_wp2
              refine ⟨⟨k + 1, us, by omega, by simp, hx4', hg.ext0 hx4, Lib.hid (Hsd.out.congr fun x => ?_), by omega⟩, by simp [intOf]; omega⟩
              rw [mem_take1 Hpk.out x]
              refine ⟨.inl, fun h => h.elim id fun h => ?_⟩
              rw [h, ← Hyq.out]
              exact (Hsd.out.mem y).1 (List.mem_of_getElem? Hy.out)
            · have hq : (y == p.2) = false := by simp [hyq]
              have Hins := Lib.hid (show ∀ x, us[m]? = some x → p.2 < x from fun x hx => by rw [Hy.out] at hx; cases hx; omega)
              clear hyq hye
              obtain ⟨a1, hs1, hG1, hn1⟩ := hgr.head huc hm hac
              obtain ⟨a2, hs2, hG2, hn2⟩ := hgr.tl huc hm hac
              have hltk : (us.take m).length = m := by rw [List.length_take]; omega
              have hdtk : (us.drop m).length = us.length - m := List.length_drop
              go_wp2_with (first | (at_builtin; refine app_gs (cl := ci) Try.underlying23 info3 rfl (by decide) (by decide) ci_len ci_one rfl _ _ rfl wr.heap.size _ [] (us.take m) (GOwn.nil _ _ _ _ _) rfl a1 b 0 c (by rw [hltk]; rfl) (hG1.ext0 hx4) (by omega) hn1 (by simp; omega) (Nat.le_refl _) ?_))
              intro o1 w5 ho1 hx5
              have ho1' : GOwn ci 3 1 w5 wr.heap.size o1 (us.take m) := ho1
              have hx5' : Ext none_ wr w5 := hx5.mono fun _ _ h => by cases h
              have hx5w := hx4'.grow hx5'
              have hsz5 := hx5'.size
              clear ho1
              go_wp2_with (first | (at_builtin; refine app_g (cl := ci) Try.underlying23 info3 rfl (by decide) (by decide) ci_len ci_one rfl _ _ rfl wr.heap.size _ (us.take m) p.2 (ho1'.ext0 (Ext.alloc _ _)) rfl w5.heap.size rfl (one_cell w5 p.2) (by omega) (by simp; omega) ?_))
              intro o2 w6 ho2 hx6
              have hx6w : Ext none_ w w6 := (hx5w.grow (Ext.alloc _ _)).trans hx6 fun q hq h => by have := (ho1'.lt q h).1; omega
              have hx6' : Ext none_ wr w6 := (hx5'.grow (Ext.alloc _ _)).trans hx6 fun q hq h => by have := (ho1'.lt q h).1; omega
              have hG2' : GR ci 1 w6 a2 (us.drop m) b m := (hG2.ext0 hx4).ext0 hx6'
              have hsz6 := hx6'.size
              go_wp2_with (first | (at_builtin; refine app_gs (cl := ci) Try.underlying23 info3 rfl (by decide) (by decide) ci_len ci_one rfl _ _ rfl wr.heap.size _ (us.take m ++ [p.2]) (us.drop m) ho2 rfl a2 b m (c - m) (by rw [hdtk]; rfl) hG2' (by omega) hn2 (by simp; omega) hsz6 ?_))
              intro o3 w7 ho3 hx7
              have hx7w : Ext none_ w w7 := hx6w.trans hx7 fun q hq h => by have := (ho2.lt q h).1; omega
              have hil : us.take m ++ [p.2] ++ us.drop m = insAt us m p.2 := by unfold insAt; simp
              have hill : (insAt us m p.2).length = us.length + 1 := by rw [← hil]; simp; omega
              have ho3' : GOwn ci 3 1 w7 wr.heap.size o3 (insAt us m p.2) := by first | exact ho3 | (rw [← hil]; exact ho3)
              have Hill := Lib.hid hill
              clear hil hill hltk hdtk hs1 hs2 ho3
              go_wp2
              refine ⟨⟨k + 1, insAt us m p.2, by omega, by simp, hx7w, ho3'.base hsz4, Lib.hid ((ins_sd Hsd.out hm (fun j x h1 h2 => Hb.out j x h1 h2) Hins.out).congr fun x => (mem_take1 Hpk.out x).symm), by rw [Hill.out]; omega⟩, by simp [intOf]; omega⟩
        · have Hins := Lib.hid (show ∀ x, us[m]? = some x → p.2 < x from fun x hx => absurd (List.getElem?_eq_some_iff.1 hx).1 (by omega))
          obtain ⟨a1, hs1, hG1, hn1⟩ := hgr.head huc hm hac
          obtain ⟨a2, hs2, hG2, hn2⟩ := hgr.tl huc hm hac
          have hltk : (us.take m).length = m := by rw [List.length_take]; omega
          have hdtk : (us.drop m).length = us.length - m := List.length_drop
          go_wp2_with (first | (at_builtin; refine app_gs (cl := ci) Try.underlying23 info3 rfl (by decide) (by decide) ci_len ci_one rfl _ _ rfl wr.heap.size _ [] (us.take m) (GOwn.nil _ _ _ _ _) rfl a1 b 0 c (by rw [hltk]; rfl) (hG1.ext0 hx4) (by omega) hn1 (by simp; omega) (Nat.le_refl _) ?_))
          intro o1 w5 ho1 hx5
          have ho1' : GOwn ci 3 1 w5 wr.heap.size o1 (us.take m) := ho1
          have hx5' : Ext none_ wr w5 := hx5.mono fun _ _ h => by cases h
          have hx5w := hx4'.grow hx5'
          have hsz5 := hx5'.size
          clear ho1
          go_wp2_with (first | (at_builtin; refine app_g (cl := ci) Try.underlying23 info3 rfl (by decide) (by decide) ci_len ci_one rfl _ _ rfl wr.heap.size _ (us.take m) p.2 (ho1'.ext0 (Ext.alloc _ _)) rfl w5.heap.size rfl (one_cell w5 p.2) (by omega) (by simp; omega) ?_))
          intro o2 w6 ho2 hx6
          have hx6w : Ext none_ w w6 := (hx5w.grow (Ext.alloc _ _)).trans hx6 fun q hq h => by have := (ho1'.lt q h).1; omega
          have hx6' : Ext none_ wr w6 := (hx5'.grow (Ext.alloc _ _)).trans hx6 fun q hq h => by have := (ho1'.lt q h).1; omega
          have hG2' : GR ci 1 w6 a2 (us.drop m) b m := (hG2.ext0 hx4).ext0 hx6'
          have hsz6 := hx6'.size
          go_wp2_with (first | (at_builtin; refine app_gs (cl := ci) Try.underlying23 info3 rfl (by decide) (by decide) ci_len ci_one rfl _ _ rfl wr.heap.size _ (us.take m ++ [p.2]) (us.drop m) ho2 rfl a2 b m (c - m) (by rw [hdtk]; rfl) hG2' (by omega) hn2 (by simp; omega) hsz6 ?_))
          intro o3 w7 ho3 hx7
          have hx7w : Ext none_ w w7 := hx6w.trans hx7 fun q hq h => by have := (ho2.lt q h).1; omega
          have hil : us.take m ++ [p.2] ++ us.drop m = insAt us m p.2 := by unfold insAt; simp
          have hill : (insAt us m p.2).length = us.length + 1 := by rw [← hil]; simp; omega
          have ho3' : GOwn ci 3 1 w7 wr.heap.size o3 (insAt us m p.2) := by first | exact ho3 | (rw [← hil]; exact ho3)
          have Hill := Lib.hid hill
          clear hil hill hltk hdtk hs1 hs2 ho3
          go_wp2
          refine ⟨⟨k + 1, insAt us m p.2, by omega, by simp, hx7w, ho3'.base hsz4, Lib.hid ((ins_sd Hsd.out hm (fun j x h1 h2 => Hb.out j x h1 h2) Hins.out).congr fun x => (mem_take1 Hpk.out x).symm), by rw [Hill.out]; omega⟩, by simp [intOf]; omega⟩
    · have hkn : k = L.length := by omega
      subst hkn
      obtain ⟨a, c, b, rfl, hgr, huc, hac⟩ := hg.read ci_len
      have Hg := Lib.hid hg
      clear hg
      go_wp2
      go_ret
      refine ⟨a, us, c, b, rfl, ?_, ⟨hgr.addr, fun j z hj => ?_⟩, hx, hul⟩
      · have := Hsd.out
        rw [List.take_length] at this
        exact this
      · have := hgr.cell j z hj 0 _ rfl
        simpa using this

end Go.Proofs.Ytfjlclloddbkmaa
