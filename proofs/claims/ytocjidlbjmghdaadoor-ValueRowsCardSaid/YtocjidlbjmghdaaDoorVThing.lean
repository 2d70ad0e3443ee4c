/- The walks of thing, Thing, Right, the reference's Right: values and their things. -/
import Derived.Test.YtocjidlbjmghdaaDoorRefUnquote
namespace Go.Proofs.YtocjidlbjmghdaaDoor
open Go.RowKit Go.Cw

/-- a value: its kind, its number, its text -/
structure Vl where
  k : Int
  n : Int
  s : ByteArray
def Vl.val (v : Vl) : Value := .agg #[.int .i64 v.k, .int .i64 v.n, .string v.s]
def Vl.isN (v : Vl) : Prop := v.k = 1 ∧ v.s.size = 0
def Vl.isT (v : Vl) : Prop := v.k = 2 ∧ v.n = 0 ∧ v.s.size ≤ 200
instance (v : Vl) : Decidable v.isN := by unfold Vl.isN; infer_instance
instance (v : Vl) : Decidable v.isT := by unfold Vl.isT; infer_instance
/-- a value's thing -/
def Vl.thing (v : Vl) : Value := if v.isN then .iface 3 (.int .i64 v.n) else if v.isT then .iface 9 (.string v.s) else .nilIface
def Vl.right (v : Vl) : Bool := decide (v.isN ∨ v.isT)

theorem empty_iff (s : ByteArray) : (s.toList == ([] : List UInt8)) = decide (s.size = 0) := by
  rw [ByteArray.toList_eq, Bool.eq_iff_iff, beq_iff_eq, decide_eq_true_eq, ← List.length_eq_zero_iff, show s.data.toList.length = s.size from Array.length_toList]
theorem cells3 {w : World} {b : Nat} {c0 c1 c2 : Value} {e : TypeId} {f : Nat × Nat} (hb : w.heap[b]? = some (.cells #[c0, c1, c2] e f)) :
    w.cell? ⟨b, 0, none⟩ = some c0 ∧ w.cell? ⟨b, 1, none⟩ = some c1 ∧ w.cell? ⟨b, 2, none⟩ = some c2 := by
  rw [cell_of hb, cell_of hb, cell_of hb]; exact ⟨rfl, rfl, rfl⟩
theorem ret_val {a b : Value} (h : a = b) : Ending.returned a = Ending.returned b := by rw [h]

theorem vbox (w : World) (k n : Int) (s : ByteArray) : Ext none_ w (w.alloc (.cells #[.int .i64 k, .int .i64 n, .string s] 49)) ∧ (w.alloc (.cells #[.int .i64 k, .int .i64 n, .string s] 49)).cell? ⟨w.heap.size, 0, none⟩ = some (.int .i64 k) ∧
    (w.alloc (.cells #[.int .i64 k, .int .i64 n, .string s] 49)).cell? ⟨w.heap.size, 1, none⟩ = some (.int .i64 n) ∧ (w.alloc (.cells #[.int .i64 k, .int .i64 n, .string s] 49)).cell? ⟨w.heap.size, 2, none⟩ = some (.string s) :=
  ⟨Ext.alloc _ _, cells3 (blk_new _ _)⟩

set_option maxHeartbeats 4000000 in
theorem thing_any (w : World) (v : Vl) : Calls Tryd.prog 68 #[v.val] w fun e w' => e = .returned v.thing ∧ Ext none_ w w' := by
  obtain ⟨k, n, s⟩ := v
  obtain ⟨hx1, c0, c1, c2⟩ := vbox w k n s
  unfold Vl.val
  by_cases hk1 : k = 1
  · have e1 : (k == 1) = true := by simp [hk1]
    by_cases hs0 : s.size = 0
    · have e2 : (s.toList == []) = true := by rw [empty_iff]; exact decide_eq_true hs0
      have Hi : Hid (Vl.isN ⟨k, n, s⟩) := Lib.hid ⟨hk1, hs0⟩
      clear hk1 hs0
      have Ht : Hid (Vl.thing ⟨k, n, s⟩ = .iface 3 (.int .i64 n)) := Lib.hid (by unfold Vl.thing; rw [if_pos Hi.out])
      go_enter Tryd.func68, Tryd.ntmps68
      go_wp2
      go_ret
      exact ⟨ret_val Ht.out.symm, hx1⟩
    · have e2 : (s.toList == []) = false := by rw [empty_iff]; exact decide_eq_false hs0
      have e3 : (k == 2) = false := by simp [hk1]
      have Hi : Hid (¬ Vl.isN ⟨k, n, s⟩) := Lib.hid fun h => hs0 h.2
      have Hj : Hid (¬ Vl.isT ⟨k, n, s⟩) := Lib.hid fun h => by have := h.1; simp only at this; omega
      clear hk1 hs0
      have Ht : Hid (Vl.thing ⟨k, n, s⟩ = .nilIface) := Lib.hid (by unfold Vl.thing; rw [if_neg Hi.out, if_neg Hj.out])
      go_enter Tryd.func68, Tryd.ntmps68
      go_wp2
      go_ret
      exact ⟨ret_val Ht.out.symm, hx1⟩
  · have e1 : (k == 1) = false := by simp [hk1]
    have Hi : Hid (¬ Vl.isN ⟨k, n, s⟩) := Lib.hid fun h => hk1 h.1
    by_cases hk2 : k = 2
    · have e3 : (k == 2) = true := by simp [hk2]
      by_cases hn0 : n = 0
      · have e4 : (n == 0) = true := by simp [hn0]
        by_cases hsz : s.size ≤ 200
        · have e5 : decide ((s.size : Int) ≤ 200) = true := decide_eq_true (by omega)
          have Hj : Hid (Vl.isT ⟨k, n, s⟩) := Lib.hid ⟨hk2, hn0, hsz⟩
          clear hk1 hk2 hn0
          have Ht : Hid (Vl.thing ⟨k, n, s⟩ = .iface 9 (.string s)) := Lib.hid (by unfold Vl.thing; rw [if_neg Hi.out, if_pos Hj.out])
          go_enter Tryd.func68, Tryd.ntmps68
          go_wp2
          go_ret
          exact ⟨ret_val Ht.out.symm, hx1⟩
        · have e5 : decide ((s.size : Int) ≤ 200) = false := decide_eq_false (by omega)
          have Hj : Hid (¬ Vl.isT ⟨k, n, s⟩) := Lib.hid fun h => hsz h.2.2
          clear hk1 hk2 hn0
          have Ht : Hid (Vl.thing ⟨k, n, s⟩ = .nilIface) := Lib.hid (by unfold Vl.thing; rw [if_neg Hi.out, if_neg Hj.out])
          go_enter Tryd.func68, Tryd.ntmps68
          go_wp2
          go_ret
          exact ⟨ret_val Ht.out.symm, hx1⟩
      · have e4 : (n == 0) = false := by simp [hn0]
        have Hj : Hid (¬ Vl.isT ⟨k, n, s⟩) := Lib.hid fun h => hn0 h.2.1
        clear hk1 hk2 hn0
        have Ht : Hid (Vl.thing ⟨k, n, s⟩ = .nilIface) := Lib.hid (by unfold Vl.thing; rw [if_neg Hi.out, if_neg Hj.out])
        go_enter Tryd.func68, Tryd.ntmps68
        go_wp2
        go_ret
        exact ⟨ret_val Ht.out.symm, hx1⟩
    · have e3 : (k == 2) = false := by simp [hk2]
      have Hj : Hid (¬ Vl.isT ⟨k, n, s⟩) := Lib.hid fun h => hk2 h.1
      clear hk1 hk2
      have Ht : Hid (Vl.thing ⟨k, n, s⟩ = .nilIface) := Lib.hid (by unfold Vl.thing; rw [if_neg Hi.out, if_neg Hj.out])
      go_enter Tryd.func68, Tryd.ntmps68
      go_wp2
      go_ret
      exact ⟨ret_val Ht.out.symm, hx1⟩

set_option maxHeartbeats 4000000 in
theorem vrref_any (w : World) (v : Vl) : Calls Tryd.prog 38 #[v.val] w fun e w' => e = .returned (.bool v.right) ∧ Ext none_ w w' := by
  obtain ⟨k, n, s⟩ := v
  obtain ⟨hx1, c0, c1, c2⟩ := vbox w k n s
  unfold Vl.val
  by_cases hk1 : k = 1
  · have e1 : (k == 1) = true := by simp [hk1]
    by_cases hs0 : s.size = 0
    · have e2 : (s.toList == []) = true := by rw [empty_iff]; exact decide_eq_true hs0
      have Hi : Hid (Vl.isN ⟨k, n, s⟩) := Lib.hid ⟨hk1, hs0⟩
      clear hk1 hs0
      have Ht : Hid (Vl.right ⟨k, n, s⟩ = true) := Lib.hid (decide_eq_true (.inl Hi.out))
      go_enter Tryd.func38, Tryd.ntmps38
      go_wp2
      go_ret
      exact ⟨ret_bool Ht.out.symm, hx1⟩
    · have e2 : (s.toList == []) = false := by rw [empty_iff]; exact decide_eq_false hs0
      have e3 : (k == 2) = false := by simp [hk1]
      have Hi : Hid (¬ Vl.isN ⟨k, n, s⟩) := Lib.hid fun h => hs0 h.2
      have Hj : Hid (¬ Vl.isT ⟨k, n, s⟩) := Lib.hid fun h => by have := h.1; simp only at this; omega
      clear hk1 hs0
      have Ht : Hid (Vl.right ⟨k, n, s⟩ = false) := Lib.hid (decide_eq_false fun h => h.elim Hi.out Hj.out)
      go_enter Tryd.func38, Tryd.ntmps38
      go_wp2
      go_ret
      exact ⟨ret_bool Ht.out.symm, hx1⟩
  · have e1 : (k == 1) = false := by simp [hk1]
    have Hi : Hid (¬ Vl.isN ⟨k, n, s⟩) := Lib.hid fun h => hk1 h.1
    by_cases hk2 : k = 2
    · have e3 : (k == 2) = true := by simp [hk2]
      by_cases hn0 : n = 0
      · have e4 : (n == 0) = true := by simp [hn0]
        by_cases hsz : s.size ≤ 200
        · have e5 : decide ((s.size : Int) ≤ 200) = true := decide_eq_true (by omega)
          have Hj : Hid (Vl.isT ⟨k, n, s⟩) := Lib.hid ⟨hk2, hn0, hsz⟩
          clear hk1 hk2 hn0
          have Ht : Hid (Vl.right ⟨k, n, s⟩ = true) := Lib.hid (decide_eq_true (.inr Hj.out))
          go_enter Tryd.func38, Tryd.ntmps38
          go_wp2
          go_ret
          exact ⟨ret_bool Ht.out.symm, hx1⟩
        · have e5 : decide ((s.size : Int) ≤ 200) = false := decide_eq_false (by omega)
          have Hj : Hid (¬ Vl.isT ⟨k, n, s⟩) := Lib.hid fun h => hsz h.2.2
          clear hk1 hk2 hn0
          have Ht : Hid (Vl.right ⟨k, n, s⟩ = false) := Lib.hid (decide_eq_false fun h => h.elim Hi.out Hj.out)
          go_enter Tryd.func38, Tryd.ntmps38
          go_wp2
          go_ret
          exact ⟨ret_bool Ht.out.symm, hx1⟩
      · have e4 : (n == 0) = false := by simp [hn0]
        have Hj : Hid (¬ Vl.isT ⟨k, n, s⟩) := Lib.hid fun h => hn0 h.2.1
        clear hk1 hk2 hn0
        have Ht : Hid (Vl.right ⟨k, n, s⟩ = false) := Lib.hid (decide_eq_false fun h => h.elim Hi.out Hj.out)
        go_enter Tryd.func38, Tryd.ntmps38
        go_wp2
        go_ret
        exact ⟨ret_bool Ht.out.symm, hx1⟩
    · have e3 : (k == 2) = false := by simp [hk2]
      have Hj : Hid (¬ Vl.isT ⟨k, n, s⟩) := Lib.hid fun h => hk2 h.1
      clear hk1 hk2
      have Ht : Hid (Vl.right ⟨k, n, s⟩ = false) := Lib.hid (decide_eq_false fun h => h.elim Hi.out Hj.out)
      go_enter Tryd.func38, Tryd.ntmps38
      go_wp2
      go_ret
      exact ⟨ret_bool Ht.out.symm, hx1⟩

/-- three ways a thing may be -/
theorem Vl.cases (v : Vl) : (v.isN ∧ v.thing = .iface 3 (.int .i64 v.n) ∧ v.right = true) ∨ (¬ v.isN ∧ v.isT ∧ v.thing = .iface 9 (.string v.s) ∧ v.right = true) ∨ (¬ v.isN ∧ ¬ v.isT ∧ v.thing = .nilIface ∧ v.right = false) := by
  by_cases h1 : v.isN
  · exact .inl ⟨h1, by unfold Vl.thing; rw [if_pos h1], decide_eq_true (.inl h1)⟩
  · by_cases h2 : v.isT
    · exact .inr (.inl ⟨h1, h2, by unfold Vl.thing; rw [if_neg h1, if_pos h2], decide_eq_true (.inr h2)⟩)
    · exact .inr (.inr ⟨h1, h2, by unfold Vl.thing; rw [if_neg h1, if_neg h2], decide_eq_false fun h => h.elim h1 h2⟩)

set_option maxHeartbeats 2000000 in
/-- the test that Right hands on -/
theorem rightfn_any (w : World) (v : Vl) : Calls Tryd.prog 72 #[v.val] w fun e w' => e = .returned (.bool (!v.right)) ∧ Ext none_ w w' := by
  have hc := v.cases
  have ht := thing_any (w.alloc (.cells #[.int .i64 v.k, .int .i64 v.n, .string v.s] 49)) v
  obtain ⟨hx1, c0, c1, c2⟩ := vbox w v.k v.n v.s
  unfold Vl.val at ht ⊢
  generalize v.thing = T at *
  generalize v.right = R at *
  generalize v.k = k at *
  generalize v.n = n at *
  generalize v.s = s at *
  have Hc := Lib.hid hc
  clear hc
  go_enter Tryd.func72, Tryd.ntmps72
  go_wp2_with fail
  refine ht.mono ?_
  rintro e w2 ⟨rfl, hx2⟩
  rcases Hc.out with ⟨_, rfl, rfl⟩ | ⟨_, _, rfl, rfl⟩ | ⟨_, _, rfl, rfl⟩
  all_goals
    clear Hc ht
    go_wp2
    go_ret
    exact ⟨rfl, hx1.grow hx2⟩

set_option maxHeartbeats 2000000 in
theorem Thing_any (w : World) (v : Vl) : Calls Tryd.prog 42 #[v.val] w fun e w' => e = .returned (.tuple #[v.thing, .int .i64 (if v.right then 0 else 22)]) ∧ Ext none_ w w' := by
  have hc := v.cases
  have ht := thing_any (w.alloc (.cells #[.int .i64 v.k, .int .i64 v.n, .string v.s] 49)) v
  obtain ⟨hx1, c0, c1, c2⟩ := vbox w v.k v.n v.s
  unfold Vl.val at ht ⊢
  generalize v.thing = T at *
  generalize v.right = R at *
  generalize v.k = k at *
  generalize v.n = n at *
  generalize v.s = s at *
  have Hc := Lib.hid hc
  clear hc
  go_enter Tryd.func42, Tryd.ntmps42
  go_wp2_with fail
  refine ht.mono ?_
  rintro e w2 ⟨rfl, hx2⟩
  rcases Hc.out with ⟨_, rfl, rfl⟩ | ⟨_, _, rfl, rfl⟩ | ⟨_, _, rfl, rfl⟩
  all_goals
    clear Hc ht
    go_wp2
    go_ret2
    exact ⟨rfl, hx1.grow hx2⟩

/-- A slice's address reads as these values. -/
structure VR (w : World) (a : Option Addr) (vs : List Vl) (b off : Nat) : Prop where
  addr : 0 < vs.length → a = some ⟨b, off, none⟩
  cell : ∀ (j : Nat) (x : Vl), vs[j]? = some x → w.cell? ⟨b, off + j * 3, none⟩ = some (.int .i64 x.k) ∧ w.cell? ⟨b, off + j * 3 + 1, none⟩ = some (.int .i64 x.n) ∧ w.cell? ⟨b, off + j * 3 + 2, none⟩ = some (.string x.s)
theorem VR.ext0 {w w' : World} {a : Option Addr} {vs : List Vl} {b off : Nat} (h : VR w a vs b off) (hx : Ext none_ w w') : VR w' a vs b off :=
  ⟨h.addr, fun j x hj => by
    obtain ⟨h0, h1, h2⟩ := h.cell j x hj
    exact ⟨cell_ext0 hx h0, cell_ext0 hx h1, cell_ext0 hx h2⟩⟩
theorem call72 (args : Array Value) (u : World) : (callFunc 72 args).run Tryd.prog u = .ok (.enter 72 args) u := by kernel_rfl

set_option maxHeartbeats 2000000 in
theorem vindex_any (w : World) (a : Option Addr) (vs : List Vl) (b off c : Nat) (h : VR w a vs b off) (hn : vs.length ≤ 1000) :
    Calls Tryd.prog 97 #[.slice a vs.length c, .func (.func 72) #[] #[]] w fun e w' => ∃ r : Int, e = .returned (.int .i64 r) ∧ decide (0 ≤ r) = !(vs.all Vl.right) ∧ Ext none_ w w' := by
  go_enter Tryd.func97, Tryd.ntmps97
  go_wp2_with fail
  go_loopw [8] (fun i wr => ∃ k : Nat, k ≤ vs.length ∧ i = .int .i64 k ∧ Ext none_ w wr ∧ Hid ((vs.take k).all Vl.right = true)) (fun i _ => vs.length - (RowKit.intOf i).toNat)
  case atStart => exact ⟨0, Nat.zero_le _, rfl, Ext.refl _ _, rfl⟩
  case round =>
    obtain ⟨k, hk, rfl, hx, Hall⟩ := hrel
    by_cases hlt : k < vs.length
    · obtain ⟨x, hxk⟩ : ∃ x, vs[k]? = some x := ⟨_, List.getElem?_eq_getElem hlt⟩
      obtain ⟨c0, c1, c2⟩ := (h.ext0 hx).cell k x hxk
      have ha := h.addr (by omega)
      subst ha
      have Htk : Hid (vs.take (k + 1) = vs.take k ++ [x]) := Lib.hid (by
        obtain ⟨hl', rfl⟩ := List.getElem?_eq_some_iff.1 hxk
        rw [List.take_succ_eq_append_getElem hl'])
      have Hm := Lib.hid (List.mem_of_getElem? hxk)
      have hcall := call72
      have hf := rightfn_any wr x
      unfold Vl.val at hf
      clear hxk
      go_wp2_with fail
      refine hf.mono ?_
      rintro e w2 ⟨rfl, hx2⟩
      have hx2' := hx.grow hx2
      clear hf hx
      cases hr : x.right
      · have Hr := Lib.hid hr
        clear hr
        go_wp2
        go_ret
        refine ⟨_, rfl, ?_, hx2'⟩
        have : vs.all Vl.right = false := by
          rw [List.all_eq_false]
          exact ⟨x, Hm.out, by rw [Hr.out]; decide⟩
        rw [this]
        exact decide_eq_true (by omega)
      · have Hr := Lib.hid hr
        clear hr
        go_wp2
        refine ⟨⟨k + 1, by omega, by simp, hx2', Lib.hid ?_⟩, by simp [RowKit.intOf]; omega⟩
        rw [Htk.out, List.all_append, Hall.out]
        simp [Hr.out]
    · have hkn : k = vs.length := by omega
      subst hkn
      rw [List.take_length] at Hall
      go_wp2
      go_ret
      refine ⟨_, rfl, ?_, hx⟩
      rw [Hall.out]; rfl
set_option maxHeartbeats 2000000 in
theorem vcontains_any (w : World) (a : Option Addr) (vs : List Vl) (b off c : Nat) (h : VR w a vs b off) (hn : vs.length ≤ 1000) :
    Calls Tryd.prog 71 #[.slice a vs.length c, .func (.func 72) #[] #[]] w fun e w' => e = .returned (.bool (!(vs.all Vl.right))) ∧ Ext none_ w w' := by
  go_enter Tryd.func71, Tryd.ntmps71
  go_wp2_with fail
  refine (vindex_any w a vs b off c h hn).mono ?_
  rintro e w2 ⟨r, rfl, hr, hx⟩
  have Hr := Lib.hid hr
  clear hr
  go_wp2
  go_ret
  exact ⟨ret_bool Hr.out, hx⟩
set_option maxHeartbeats 2000000 in
theorem vright_any (w : World) (a : Option Addr) (vs : List Vl) (b off c : Nat) (h : VR w a vs b off) (hn : vs.length ≤ 1000) :
    Calls Tryd.prog 43 #[.slice a vs.length c] w fun e w' => e = .returned (.bool (vs.all Vl.right)) ∧ Ext none_ w w' := by
  go_enter Tryd.func43, Tryd.ntmps43
  go_wp2_with fail
  have hci := vcontains_any w a vs b off c h hn
  refine hci.mono ?_
  rintro e w2 ⟨rfl, hx⟩
  generalize hq : vs.all Vl.right = q at *
  have Hq := Lib.hid hq
  clear hci hq
  go_wp2
  go_ret
  exact ⟨ret_bool Hq.out.symm, hx⟩

end Go.Proofs.YtocjidlbjmghdaaDoor
