/- The walks of slices.ContainsFunc over texts, of Right, and of the reference's Runes and Right. -/
import Derived.Test.YtocjidlbjmghdaaDoorWrong
namespace Go.Proofs.YtocjidlbjmghdaaDoor
open Go.RowKit Go.Cw

theorem cell_ext0 {w w' : World} (hx : Ext none_ w w') {a : Addr} {v : Value} (hc : w.cell? a = some v) : w'.cell? a = some v := by
  have hlt : a.block < w.heap.size := World.block_lt_of_cell? w a hc
  exact (World.cell?_of_block (hx.block a.block hlt id)).trans hc

/-- A slice's address reads as these texts. -/
structure SR (w : World) (a : Option Addr) (ss : List ByteArray) (b off : Nat) : Prop where
  addr : 0 < ss.length → a = some ⟨b, off, none⟩
  cell : ∀ (j : Nat) (s : ByteArray), ss[j]? = some s → w.cell? ⟨b, off + j, none⟩ = some (.string s)
theorem SR.ext0 {w w' : World} {a : Option Addr} {ss : List ByteArray} {b off : Nat} (h : SR w a ss b off) (hx : Ext none_ w w') : SR w' a ss b off :=
  ⟨h.addr, fun j s hj => cell_ext0 hx (h.cell j s hj)⟩

theorem call59 (args : Array Value) (u : World) : (callFunc 59 args).run Tryd.prog u = .ok (.enter 59 args) u := by kernel_rfl

/-- are all of these names? -/
def rightsP (ss : List ByteArray) : Bool := ss.all fun s => rightP (runes s)

set_option maxHeartbeats 1000000 in
theorem index_any (w : World) (a : Option Addr) (ss : List ByteArray) (b off c : Nat) (h : SR w a ss b off) (hn : ss.length ≤ 1000) (hl : ∀ s ∈ ss, s.size ≤ 100000) :
    Calls Tryd.prog 85 #[.slice a ss.length c, .func (.func 59) #[] #[]] w fun e w' => ∃ r : Int, e = .returned (.int .i64 r) ∧ decide (0 ≤ r) = !rightsP ss ∧ Ext none_ w w' := by
  go_enter Tryd.func85, Tryd.ntmps85
  go_wp2_with fail
  go_loopw [8] (fun i wr => ∃ k : Nat, k ≤ ss.length ∧ i = .int .i64 k ∧ Ext none_ w wr ∧ Hid (rightsP (ss.take k) = true)) (fun i _ => ss.length - (RowKit.intOf i).toNat)
  case atStart => exact ⟨0, Nat.zero_le _, rfl, Ext.refl _ _, rfl⟩
  case round =>
    obtain ⟨k, hk, rfl, hx, Hall⟩ := hrel
    by_cases hlt : k < ss.length
    · obtain ⟨s, hsk⟩ : ∃ x, ss[k]? = some x := ⟨_, List.getElem?_eq_getElem hlt⟩
      have hsz := hl s (List.mem_of_getElem? hsk)
      have hc := (h.ext0 hx).cell k s hsk
      have ha := h.addr (by omega)
      subst ha
      have htk : ss.take (k + 1) = ss.take k ++ [s] := by
        obtain ⟨hl', rfl⟩ := List.getElem?_eq_some_iff.1 hsk
        rw [List.take_succ_eq_append_getElem hl']
      have Htk := Lib.hid htk
      clear htk
      have hcall := call59
      go_wp2_with fail
      refine (wrong_any wr s hsz).mono ?_
      rintro e w2 ⟨rfl, hx2⟩
      have hx2' := hx.grow hx2
      cases hr : rightP (runes s)
      · have Hr := Lib.hid hr
        clear hr
        go_wp2
        go_ret
        refine ⟨_, rfl, ?_, hx2'⟩
        have : rightsP ss = false := by
          unfold rightsP
          rw [List.all_eq_false]
          exact ⟨s, List.mem_of_getElem? hsk, by rw [Hr.out]; decide⟩
        rw [this]
        exact decide_eq_true (by omega)
      · have Hr := Lib.hid hr
        clear hr
        go_wp2
        refine ⟨⟨k + 1, by omega, by simp, hx2', Lib.hid ?_⟩, by simp [RowKit.intOf]; omega⟩
        rw [Htk.out]
        unfold rightsP
        rw [List.all_append]
        have := Hall.out
        unfold rightsP at this
        rw [this]
        simp [Hr.out]
    · have hkn : k = ss.length := by omega
      subst hkn
      rw [List.take_length] at Hall
      go_wp2
      go_ret
      refine ⟨_, rfl, ?_, hx⟩
      rw [Hall.out]; rfl

theorem contains_any (w : World) (a : Option Addr) (ss : List ByteArray) (b off c : Nat) (h : SR w a ss b off) (hn : ss.length ≤ 1000) (hl : ∀ s ∈ ss, s.size ≤ 100000) :
    Calls Tryd.prog 58 #[.slice a ss.length c, .func (.func 59) #[] #[]] w fun e w' => e = .returned (.bool (!rightsP ss)) ∧ Ext none_ w w' := by
  go_enter Tryd.func58, Tryd.ntmps58
  go_wp2_with fail
  refine (index_any w a ss b off c h hn hl).mono ?_
  rintro e w2 ⟨r, rfl, hr, hx⟩
  have Hr := Lib.hid hr
  clear hr
  go_wp2
  go_ret
  exact ⟨ret_bool Hr.out, hx⟩

/-- 'letter.Right(names...)' -/
theorem right_any (w : World) (a : Option Addr) (ss : List ByteArray) (b off c : Nat) (h : SR w a ss b off) (hn : ss.length ≤ 1000) (hl : ∀ s ∈ ss, s.size ≤ 100000) :
    Calls Tryd.prog 21 #[.slice a ss.length c] w fun e w' => e = .returned (.bool (rightsP ss)) ∧ Ext none_ w w' := by
  go_enter Tryd.func21, Tryd.ntmps21
  go_wp2_with fail
  refine (contains_any w a ss b off c h hn hl).mono ?_
  rintro e w2 ⟨rfl, hx⟩
  generalize hq : rightsP ss = q at *
  have Hq := Lib.hid hq
  clear hq
  go_wp2
  go_ret
  exact ⟨ret_bool Hq.out.symm, hx⟩

end Go.Proofs.YtocjidlbjmghdaaDoor
