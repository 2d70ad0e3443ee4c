/- The walks of Number and String where they panic, and of broke, which recovers. -/
import Derived.Test.YtocjidlbjmghdaaDoorVAwake
import Derived.Recover
import Derived.Defers
import Derived.Deep.RegionWith
namespace Go.Proofs.YtocjidlbjmghdaaDoor
open Go.RowKit Go.Cw

theorem prt : Tryd.prog.rt.typeAssertionError = 15 := by kernel_rfl
theorem psz : Tryd.prog.globals.size = 8 := by kernel_rfl
def asErr (c : Option Addr) (t : TypeId) : Obj := .cells #[.pointer (some ⟨8, 20, none⟩), .pointer c, .pointer (some ⟨8, t, none⟩), .string ByteArray.empty] 195
theorem taf30 (w : World) : (Instr.typeAssert .nilIface 20 3 false).run Tryd.prog w = .halt (.panic (.iface 15 (.pointer (some ⟨w.heap.size, 0, none⟩)))) (w.alloc (asErr none 3)) := by
  simp [Instr.typeAssert, run_underlying Tryd.underlying3, runtimePanic, elemOf, run_underlying Tryd.underlying15, newVar, newRow, go_sem, typeHandle, Value.cells, asErr, strVal]
theorem taf39 (v : Value) (w : World) : (Instr.typeAssert (.iface 9 v) 20 3 false).run Tryd.prog w = .halt (.panic (.iface 15 (.pointer (some ⟨w.heap.size, 0, none⟩)))) (w.alloc (asErr (some ⟨8, 9, none⟩) 3)) := by
  simp [Instr.typeAssert, run_underlying Tryd.underlying3, runtimePanic, elemOf, run_underlying Tryd.underlying15, newVar, newRow, go_sem, typeHandle, Value.cells, asErr, strVal]
theorem taf90 (w : World) : (Instr.typeAssert .nilIface 20 9 false).run Tryd.prog w = .halt (.panic (.iface 15 (.pointer (some ⟨w.heap.size, 0, none⟩)))) (w.alloc (asErr none 9)) := by
  simp [Instr.typeAssert, run_underlying Tryd.underlying9, runtimePanic, elemOf, run_underlying Tryd.underlying15, newVar, newRow, go_sem, typeHandle, Value.cells, asErr, strVal]
theorem taf93 (v : Value) (w : World) : (Instr.typeAssert (.iface 3 v) 20 9 false).run Tryd.prog w = .halt (.panic (.iface 15 (.pointer (some ⟨w.heap.size, 0, none⟩)))) (w.alloc (asErr (some ⟨8, 3, none⟩) 9)) := by
  simp [Instr.typeAssert, run_underlying Tryd.underlying9, runtimePanic, elemOf, run_underlying Tryd.underlying15, newVar, newRow, go_sem, typeHandle, Value.cells, asErr, strVal]
theorem ta99f (v : Value) (w : World) : (Instr.typeAssert (.iface 9 v) 20 9 false).run Tryd.prog w = .ok v w := by
  simp [Instr.typeAssert, run_underlying Tryd.underlying9]

set_option maxHeartbeats 2000000 in
theorem string_any (w : World) (v : Vl) (hn : ¬ v.isN) (hv : v.isT) : Calls Tryd.prog 74 #[v.val] w fun e w' => e = .returned (.string v.s) ∧ Ext none_ w w' := by
  have ht := thing_any (w.alloc (.cells #[.int .i64 v.k, .int .i64 v.n, .string v.s] 49)) v
  rw [show v.thing = .iface 9 (.string v.s) by unfold Vl.thing; rw [if_neg hn, if_pos hv]] at ht
  obtain ⟨hx1, c0, c1, c2⟩ := vbox w v.k v.n v.s
  unfold Vl.val at ht ⊢
  clear hv hn
  generalize v.k = k at *
  generalize v.n = n at *
  generalize v.s = s at *
  have t33 := ta99f
  go_enter Tryd.func74, Tryd.ntmps74
  go_wp2_with fail
  refine ht.mono ?_
  rintro e w2 ⟨rfl, hx2⟩
  clear ht
  go_wp2
  go_ret
  exact ⟨rfl, hx1.grow hx2⟩

set_option maxHeartbeats 2000000 in
theorem number_bad (w : World) (v : Vl) (hv : ¬ v.isN) : Calls Tryd.prog 67 #[v.val] w fun e w' => (∃ pv, e = .panicked [{ v := .iface 15 pv, recovered := false }]) ∧ Ext none_ w w' := by
  have ht := thing_any (w.alloc (.cells #[.int .i64 v.k, .int .i64 v.n, .string v.s] 49)) v
  obtain ⟨hx1, c0, c1, c2⟩ := vbox w v.k v.n v.s
  have hth : v.thing = .nilIface ∨ v.thing = .iface 9 (.string v.s) := by unfold Vl.thing; rw [if_neg hv]; split <;> simp
  unfold Vl.val at ht ⊢
  clear hv
  generalize v.thing = th at *
  generalize v.k = k at *
  generalize v.n = n at *
  generalize v.s = s at *
  have t1 := taf30
  have t2 := taf39
  go_enter Tryd.func67, Tryd.ntmps67
  go_wp2_with fail
  refine ht.mono ?_
  rintro e w2 ⟨rfl, hx2⟩
  clear ht
  rcases hth with rfl | rfl
  · go_wp2
    exact ⟨rfl, ⟨_, rfl⟩, (hx1.grow hx2).grow (Ext.alloc _ _)⟩
  · go_wp2
    exact ⟨rfl, ⟨_, rfl⟩, (hx1.grow hx2).grow (Ext.alloc _ _)⟩

set_option maxHeartbeats 2000000 in
theorem string_bad (w : World) (v : Vl) (hv : v.isN ∨ ¬ v.isT) : Calls Tryd.prog 74 #[v.val] w fun e w' => (∃ pv, e = .panicked [{ v := .iface 15 pv, recovered := false }]) ∧ Ext none_ w w' := by
  have ht := thing_any (w.alloc (.cells #[.int .i64 v.k, .int .i64 v.n, .string v.s] 49)) v
  obtain ⟨hx1, c0, c1, c2⟩ := vbox w v.k v.n v.s
  have hth : v.thing = .nilIface ∨ v.thing = .iface 3 (.int .i64 v.n) := by unfold Vl.thing; split <;> simp_all
  unfold Vl.val at ht ⊢
  clear hv
  generalize v.thing = th at *
  generalize v.k = k at *
  generalize v.n = n at *
  generalize v.s = s at *
  have t1 := taf90
  have t2 := taf93
  go_enter Tryd.func74, Tryd.ntmps74
  go_wp2_with fail
  refine ht.mono ?_
  rintro e w2 ⟨rfl, hx2⟩
  clear ht
  rcases hth with rfl | rfl
  · go_wp2
    exact ⟨rfl, ⟨_, rfl⟩, (hx1.grow hx2).grow (Ext.alloc _ _)⟩
  · go_wp2
    exact ⟨rfl, ⟨_, rfl⟩, (hx1.grow hx2).grow (Ext.alloc _ _)⟩

theorem catch_panicking (p : Addr) (x : Bool) (u : TypeId) (pv : Value) (older : List PanicEntry) (w : World) (hc : w.cell? p = some (.bool x)) (hz : w.frozen? p = false) :
    CallsD Tryd.prog 73 #[.pointer (some p)] (.panicking ({ v := .iface u pv, recovered := false } :: older)) w fun e u' w' =>
      e = .returned (.tuple #[]) ∧ u' = .panicking ({ v := .iface u pv, recovered := true } :: older) ∧ w' = w.setCell p (.bool true) := by
  refine callsD_of_wpS Tryd.func73 rfl fun c₀ cs hu => ?_
  apply wpS_seq
  apply wpS_region
  simp [wpOpsS, go_sem, recoverD, hu, Tryd.ntmps73, Exit.thenS]
  refine wpS_cond (t := true) (by simp [Act.eval, Array.replicate]) ?_
  simp only [if_true]
  apply wpS_region
  simp [wpOpsS, go_sem, hc, hz, bodyPostS, results, Tryd.results73]

theorem catch_idle (p : Addr) (w : World) :
    CallsD Tryd.prog 73 #[.pointer (some p)] .returning w fun e u' w' => e = .returned (.tuple #[]) ∧ u' = .returning ∧ w' = w := by
  refine callsD_of_wpS Tryd.func73 rfl fun c₀ cs hu => ?_
  apply wpS_seq
  apply wpS_region
  simp [wpOpsS, go_sem, recoverD, hu, Tryd.ntmps73, Exit.thenS]
  refine wpS_cond (t := false) (by simp [Act.eval, Array.replicate]) ?_
  simp only [Bool.false_eq_true, if_false]
  refine wpS_of_wp (wp_skip ?_)
  cases c₀
  simp_all [bodyPostS, results, Tryd.results73]

/-- a value and the named result laid down -/
theorem vboxR (w : World) (k n : Int) (s : ByteArray) : ∃ w2, (w.alloc (.cells #[.int .i64 k, .int .i64 n, .string s] 49)).alloc (.cells #[.bool false] 4) = w2 ∧ Ext none_ w w2 ∧
    w2.heap[w.heap.size]? = some (.cells #[.int .i64 k, .int .i64 n, .string s] 49 (0, 0)) ∧ w2.heap[w.heap.size + 1]? = some (.cells #[.bool false] 4 (0, 0)) := by
  have h1 := blk_new w (.cells #[.int .i64 k, .int .i64 n, .string s] 49)
  have x1 := Ext.alloc w (.cells #[.int .i64 k, .int .i64 n, .string s] 49)
  have s1 : (w.alloc (.cells #[.int .i64 k, .int .i64 n, .string s] 49)).heap.size = w.heap.size + 1 := by simp
  generalize w.alloc (.cells #[.int .i64 k, .int .i64 n, .string s] 49) = w1 at *
  have h2 := blk_new w1 (.cells #[.bool false] 4)
  have x2 := Ext.alloc w1 (.cells #[.bool false] 4)
  refine ⟨_, rfl, x1.grow x2, x2.blk0 h1, ?_⟩
  rw [s1] at h2; exact h2

theorem leaves_panic (w w' : World) (tmps : Array Value) (b : Nat) (pv : Value) (hb : w'.heap[b]? = some (.cells #[.bool false] 4 (0, 0))) (ht : tmps[4]? = some (.pointer (some ⟨b, 0, none⟩))) (hx : Ext none_ w w') (hlt : w.heap.size ≤ b) :
    Leaves Tryd.prog Tryd.f44 tmps (fun e w'' => e = .returned (.bool true) ∧ Ext none_ w w'') [{ target := .fn (.func 73) #[.pointer (some ⟨b, 0, none⟩)], args := #[] }] (.panicking [{ v := .iface 15 pv, recovered := false }]) w' := by
  refine leaves_cons (f := 73) (args := #[.pointer (some ⟨b, 0, none⟩)]) (by simp) (by simp [go_sem]) ?_
  refine (catch_panicking ⟨b, 0, none⟩ false 15 pv [] w' (by rw [cell_of hb]; rfl) (frozen_of hb 0)).mono ?_
  rintro e u' w'' ⟨rfl, rfl, rfl⟩
  have hbf := blk_set hb 0 (.bool true)
  have hf : (w'.setCell ⟨b, 0, none⟩ (.bool true)).cell? ⟨b, 0, none⟩ = some (.bool true) := by rw [cell_of hbf]; rfl
  have hxf := hx.trans (Ext.setCell w' ⟨b, 0, none⟩ (.bool true)) fun i hi e => by have h2 : i = b := e; omega
  exact ⟨.bool true, by simp [results, Tryd.results44, go_sem, ht, hf], rfl, hxf⟩
theorem leaves_idle (w w' : World) (tmps : Array Value) (b : Nat) (hb : w'.heap[b]? = some (.cells #[.bool false] 4 (0, 0))) (ht : tmps[4]? = some (.pointer (some ⟨b, 0, none⟩))) (hx : Ext none_ w w') :
    Leaves Tryd.prog Tryd.f44 tmps (fun e w'' => e = .returned (.bool false) ∧ Ext none_ w w'') [{ target := .fn (.func 73) #[.pointer (some ⟨b, 0, none⟩)], args := #[] }] .returning w' := by
  refine leaves_cons (f := 73) (args := #[.pointer (some ⟨b, 0, none⟩)]) (by simp) (by simp [go_sem]) ?_
  refine (catch_idle ⟨b, 0, none⟩ w').mono ?_
  rintro e u' w'' ⟨rfl, rfl, rfl⟩
  have hf : w''.cell? ⟨b, 0, none⟩ = some (.bool false) := by rw [cell_of hb]; rfl
  exact ⟨.bool false, by simp [results, Tryd.results44, go_sem, ht, hf], rfl, hx⟩

set_option maxHeartbeats 4000000 in
set_option maxRecDepth 100000 in
theorem broke_n_bad (w : World) (v : Vl) (hv : ¬ v.isN) : Calls Tryd.prog 44 #[v.val, .bool false] w fun e w' => e = .returned (.bool true) ∧ Ext none_ w w' := by
  have hmf : ∀ (fn : Fn) (first cap : Array Value) (w : World), (Instr.makeFunc fn first cap).run Tryd.prog w = .ok (.func fn first cap) w := fun _ _ _ _ => rfl
  have hc := fun w : World => number_bad w v hv
  obtain ⟨w2, hw2, hx2, hb, hr⟩ := vboxR w v.k v.n v.s
  clear hv
  unfold Vl.val at *
  generalize v.k = k at *
  generalize v.n = n at *
  generalize v.s = s at *
  go_enter_defers Tryd.func44, Tryd.ntmps44
  go_wp2_with fail
  refine wp_region_any (by kernel_rfl) ?_
  change wpAny _ _ _ _ _ _ _ (World.drew _)
  have hx0 := Ext.drew w2
  obtain ⟨c0, c1, c2⟩ := cells3 (hx0.blk0 hb)
  clear hw2
  generalize w2.drew = w3 at *
  refine wpAny_ready (rs := [0, 2]) (by kernel_rfl) (by simp) ?_
  refine AllReady.cons rfl (fun K hK => ?_) ?_
  · go_simp
    refine hK _ _ ?_
    clear hK K
    refine wpAny_ready (rs := [1, 2]) (by kernel_rfl) (by simp) ?_
    refine AllReady.cons rfl (fun K hK => ?_) ?_
    · go_wp2_with fail
      refine (hc _).mono ?_
      rintro e w' ⟨⟨pv, rfl⟩, hx⟩
      go_wp2_with fail
      exact leaves_panic w w' _ _ pv (hx.blk0 (hx0.blk0 hr)) rfl (hx2.grow (hx0.grow hx)) (by omega)
    refine AllReady.cons rfl (fun K hK => ?_) ?_
    · go_simp
      refine hK _ _ ?_
      clear hK K
      refine wpAny_ready (rs := [1, 3]) (by kernel_rfl) (by simp) ?_
      refine AllReady.cons rfl (fun K hK => ?_) ?_
      · go_wp2_with fail
        refine (hc _).mono ?_
        rintro e w' ⟨⟨pv, rfl⟩, hx⟩
        go_wp2_with fail
        exact leaves_panic w w' _ _ pv (hx.blk0 (hx0.blk0 hr)) rfl (hx2.grow (hx0.grow hx)) (by omega)
      refine AllReady.cons rfl (fun K hK => ?_) ?_
      · go_simp
        refine hK _ _ ?_
        clear hK K
        refine wpAny_ready (rs := [1]) (by kernel_rfl) (by simp) ?_
        refine AllReady.cons rfl (fun K hK => ?_) ?_
        · go_wp2_with fail
          refine (hc _).mono ?_
          rintro e w' ⟨⟨pv, rfl⟩, hx⟩
          go_wp2_with fail
          exact leaves_panic w w' _ _ pv (hx.blk0 (hx0.blk0 hr)) rfl (hx2.grow (hx0.grow hx)) (by omega)
        exact AllReady.nil
      exact AllReady.nil
    exact AllReady.nil
  refine AllReady.cons rfl (fun K hK => ?_) ?_
  · go_simp
    refine hK _ _ ?_
    clear hK K
    refine wpAny_ready (rs := [0, 3]) (by kernel_rfl) (by simp) ?_
    refine AllReady.cons rfl (fun K hK => ?_) ?_
    · go_simp
      refine hK _ _ ?_
      clear hK K
      refine wpAny_ready (rs := [1, 3]) (by kernel_rfl) (by simp) ?_
      refine AllReady.cons rfl (fun K hK => ?_) ?_
      · go_wp2_with fail
        refine (hc _).mono ?_
        rintro e w' ⟨⟨pv, rfl⟩, hx⟩
        go_wp2_with fail
        exact leaves_panic w w' _ _ pv (hx.blk0 (hx0.blk0 hr)) rfl (hx2.grow (hx0.grow hx)) (by omega)
      refine AllReady.cons rfl (fun K hK => ?_) ?_
      · go_simp
        refine hK _ _ ?_
        clear hK K
        refine wpAny_ready (rs := [1]) (by kernel_rfl) (by simp) ?_
        refine AllReady.cons rfl (fun K hK => ?_) ?_
        · go_wp2_with fail
          refine (hc _).mono ?_
          rintro e w' ⟨⟨pv, rfl⟩, hx⟩
          go_wp2_with fail
          exact leaves_panic w w' _ _ pv (hx.blk0 (hx0.blk0 hr)) rfl (hx2.grow (hx0.grow hx)) (by omega)
        exact AllReady.nil
      exact AllReady.nil
    refine AllReady.cons rfl (fun K hK => ?_) ?_
    · go_simp
      refine hK _ _ ?_
      clear hK K
      refine wpAny_ready (rs := [0]) (by kernel_rfl) (by simp) ?_
      refine AllReady.cons rfl (fun K hK => ?_) ?_
      · go_simp
        refine hK _ _ ?_
        clear hK K
        refine wpAny_ready (rs := [1]) (by kernel_rfl) (by simp) ?_
        refine AllReady.cons rfl (fun K hK => ?_) ?_
        · go_wp2_with fail
          refine (hc _).mono ?_
          rintro e w' ⟨⟨pv, rfl⟩, hx⟩
          go_wp2_with fail
          exact leaves_panic w w' _ _ pv (hx.blk0 (hx0.blk0 hr)) rfl (hx2.grow (hx0.grow hx)) (by omega)
        exact AllReady.nil
      exact AllReady.nil
    exact AllReady.nil
  exact AllReady.nil

set_option maxHeartbeats 4000000 in
set_option maxRecDepth 100000 in
theorem broke_s_bad (w : World) (v : Vl) (hv : v.isN ∨ ¬ v.isT) : Calls Tryd.prog 44 #[v.val, .bool true] w fun e w' => e = .returned (.bool true) ∧ Ext none_ w w' := by
  have hmf : ∀ (fn : Fn) (first cap : Array Value) (w : World), (Instr.makeFunc fn first cap).run Tryd.prog w = .ok (.func fn first cap) w := fun _ _ _ _ => rfl
  have hc := fun w : World => string_bad w v hv
  obtain ⟨w2, hw2, hx2, hb, hr⟩ := vboxR w v.k v.n v.s
  clear hv
  unfold Vl.val at *
  generalize v.k = k at *
  generalize v.n = n at *
  generalize v.s = s at *
  go_enter_defers Tryd.func44, Tryd.ntmps44
  go_wp2_with fail
  refine wp_region_any (by kernel_rfl) ?_
  change wpAny _ _ _ _ _ _ _ (World.drew _)
  have hx0 := Ext.drew w2
  obtain ⟨c0, c1, c2⟩ := cells3 (hx0.blk0 hb)
  clear hw2
  generalize w2.drew = w3 at *
  refine wpAny_ready (rs := [0, 2]) (by kernel_rfl) (by simp) ?_
  refine AllReady.cons rfl (fun K hK => ?_) ?_
  · go_simp
    refine hK _ _ ?_
    clear hK K
    refine wpAny_ready (rs := [1, 2]) (by kernel_rfl) (by simp) ?_
    refine AllReady.cons rfl (fun K hK => ?_) ?_
    · go_wp2_with fail
      refine (hc _).mono ?_
      rintro e w' ⟨⟨pv, rfl⟩, hx⟩
      go_wp2_with fail
      exact leaves_panic w w' _ _ pv (hx.blk0 (hx0.blk0 hr)) rfl (hx2.grow (hx0.grow hx)) (by omega)
    refine AllReady.cons rfl (fun K hK => ?_) ?_
    · go_simp
      refine hK _ _ ?_
      clear hK K
      refine wpAny_ready (rs := [1, 3]) (by kernel_rfl) (by simp) ?_
      refine AllReady.cons rfl (fun K hK => ?_) ?_
      · go_wp2_with fail
        refine (hc _).mono ?_
        rintro e w' ⟨⟨pv, rfl⟩, hx⟩
        go_wp2_with fail
        exact leaves_panic w w' _ _ pv (hx.blk0 (hx0.blk0 hr)) rfl (hx2.grow (hx0.grow hx)) (by omega)
      refine AllReady.cons rfl (fun K hK => ?_) ?_
      · go_simp
        refine hK _ _ ?_
        clear hK K
        refine wpAny_ready (rs := [1]) (by kernel_rfl) (by simp) ?_
        refine AllReady.cons rfl (fun K hK => ?_) ?_
        · go_wp2_with fail
          refine (hc _).mono ?_
          rintro e w' ⟨⟨pv, rfl⟩, hx⟩
          go_wp2_with fail
          exact leaves_panic w w' _ _ pv (hx.blk0 (hx0.blk0 hr)) rfl (hx2.grow (hx0.grow hx)) (by omega)
        exact AllReady.nil
      exact AllReady.nil
    exact AllReady.nil
  refine AllReady.cons rfl (fun K hK => ?_) ?_
  · go_simp
    refine hK _ _ ?_
    clear hK K
    refine wpAny_ready (rs := [0, 3]) (by kernel_rfl) (by simp) ?_
    refine AllReady.cons rfl (fun K hK => ?_) ?_
    · go_simp
      refine hK _ _ ?_
      clear hK K
      refine wpAny_ready (rs := [1, 3]) (by kernel_rfl) (by simp) ?_
      refine AllReady.cons rfl (fun K hK => ?_) ?_
      · go_wp2_with fail
        refine (hc _).mono ?_
        rintro e w' ⟨⟨pv, rfl⟩, hx⟩
        go_wp2_with fail
        exact leaves_panic w w' _ _ pv (hx.blk0 (hx0.blk0 hr)) rfl (hx2.grow (hx0.grow hx)) (by omega)
      refine AllReady.cons rfl (fun K hK => ?_) ?_
      · go_simp
        refine hK _ _ ?_
        clear hK K
        refine wpAny_ready (rs := [1]) (by kernel_rfl) (by simp) ?_
        refine AllReady.cons rfl (fun K hK => ?_) ?_
        · go_wp2_with fail
          refine (hc _).mono ?_
          rintro e w' ⟨⟨pv, rfl⟩, hx⟩
          go_wp2_with fail
          exact leaves_panic w w' _ _ pv (hx.blk0 (hx0.blk0 hr)) rfl (hx2.grow (hx0.grow hx)) (by omega)
        exact AllReady.nil
      exact AllReady.nil
    refine AllReady.cons rfl (fun K hK => ?_) ?_
    · go_simp
      refine hK _ _ ?_
      clear hK K
      refine wpAny_ready (rs := [0]) (by kernel_rfl) (by simp) ?_
      refine AllReady.cons rfl (fun K hK => ?_) ?_
      · go_simp
        refine hK _ _ ?_
        clear hK K
        refine wpAny_ready (rs := [1]) (by kernel_rfl) (by simp) ?_
        refine AllReady.cons rfl (fun K hK => ?_) ?_
        · go_wp2_with fail
          refine (hc _).mono ?_
          rintro e w' ⟨⟨pv, rfl⟩, hx⟩
          go_wp2_with fail
          exact leaves_panic w w' _ _ pv (hx.blk0 (hx0.blk0 hr)) rfl (hx2.grow (hx0.grow hx)) (by omega)
        exact AllReady.nil
      exact AllReady.nil
    exact AllReady.nil
  exact AllReady.nil

set_option maxHeartbeats 4000000 in
set_option maxRecDepth 100000 in
theorem broke_n_ok (w : World) (v : Vl) (hv : v.isN) : Calls Tryd.prog 44 #[v.val, .bool false] w fun e w' => e = .returned (.bool false) ∧ Ext none_ w w' := by
  have hmf : ∀ (fn : Fn) (first cap : Array Value) (w : World), (Instr.makeFunc fn first cap).run Tryd.prog w = .ok (.func fn first cap) w := fun _ _ _ _ => rfl
  have hc := fun w : World => number_any w v hv
  obtain ⟨w2, hw2, hx2, hb, hr⟩ := vboxR w v.k v.n v.s
  clear hv
  unfold Vl.val at *
  generalize v.k = k at *
  generalize v.n = n at *
  generalize v.s = s at *
  go_enter_defers Tryd.func44, Tryd.ntmps44
  go_wp2_with fail
  obtain ⟨c0, c1, c2⟩ := cells3 hb
  clear hw2
  have hF := Ext.drew w2
  have e0 := fun i : Fam (fun w' => Ext none_ w2 w') => cell_ext0 i.h c0
  have e1 := fun i : Fam (fun w' => Ext none_ w2 w') => cell_ext0 i.h c1
  have e2 := fun i : Fam (fun w' => Ext none_ w2 w') => cell_ext0 i.h c2
  refine wp_region_hoistT (fun w' => Ext none_ w2 w') 5 [0, 2, 3] 3 mixedV (by kernel_rfl) hF ?_
  simp only [List.filterMap_cons, List.filterMap_nil, List.getElem?_cons_zero, List.getElem?_cons_succ]
  have hnn := Fam.ne hF
  generalize w2.drew = w3 at *
  repeat (refine wpV_step (fun K hK => ?_); go_simp; refine hK _ ?_; clear hK K)
  refine wpV_nil ?_
  clear e0 e1 e2 c0 c1 c2
  refine wpAnyC_step [1] (by kernel_rfl) (by simp) ?_
  intro j hj
  simp only [List.mem_cons, List.not_mem_nil, or_false] at hj
  subst hj
  refine ⟨_, rfl, ?_⟩
  go_wp2_with fail
  refine (hc _).mono ?_
  rintro e w4 ⟨rfl, hx4⟩
  have hF4 := hF.grow hx4
  have hr4 := hF4.blk0 hr
  have hcl : w4.cell? ⟨w.heap.size + 1, 0, none⟩ = some (.bool false) := by rw [cell_of hr4]; rfl
  have hz := frozen_of hr4
  clear hF hx4 hc
  go_wp2_with fail
  refine ⟨.inr hF4, ?_⟩
  refine wpAnyC_step [4] (by kernel_rfl) (by simp) ?_
  intro j hj
  simp only [List.mem_cons, List.not_mem_nil, or_false] at hj
  subst hj
  refine ⟨_, rfl, ?_⟩
  go_wp2_with fail
  refine ⟨.inr hF4, ?_⟩
  refine wpAnyC_step [5] (by kernel_rfl) (by simp) ?_
  intro j hj
  simp only [List.mem_cons, List.not_mem_nil, or_false] at hj
  subst hj
  refine ⟨_, rfl, ?_⟩
  go_wp2_with fail
  refine ⟨.inl trivial, wpAnyC_end (by kernel_rfl) ?_⟩
  go_wp2_with fail
  exact leaves_idle w _ _ _ (blk_set hr4 0 (.bool false)) rfl ((hx2.grow hF4).trans (Ext.setCell w4 ⟨w.heap.size + 1, 0, none⟩ (.bool false)) fun i hi e => by have h2 : i = w.heap.size + 1 := e; omega)

set_option maxHeartbeats 4000000 in
set_option maxRecDepth 100000 in
theorem broke_s_ok (w : World) (v : Vl) (hn : ¬ v.isN) (hv : v.isT) : Calls Tryd.prog 44 #[v.val, .bool true] w fun e w' => e = .returned (.bool false) ∧ Ext none_ w w' := by
  have hmf : ∀ (fn : Fn) (first cap : Array Value) (w : World), (Instr.makeFunc fn first cap).run Tryd.prog w = .ok (.func fn first cap) w := fun _ _ _ _ => rfl
  have hc := fun w : World => string_any w v hn hv
  obtain ⟨w2, hw2, hx2, hb, hr⟩ := vboxR w v.k v.n v.s
  clear hn hv
  unfold Vl.val at *
  generalize v.k = k at *
  generalize v.n = n at *
  generalize v.s = s at *
  go_enter_defers Tryd.func44, Tryd.ntmps44
  go_wp2_with fail
  obtain ⟨c0, c1, c2⟩ := cells3 hb
  clear hw2
  have hF := Ext.drew w2
  have e0 := fun i : Fam (fun w' => Ext none_ w2 w') => cell_ext0 i.h c0
  have e1 := fun i : Fam (fun w' => Ext none_ w2 w') => cell_ext0 i.h c1
  have e2 := fun i : Fam (fun w' => Ext none_ w2 w') => cell_ext0 i.h c2
  refine wp_region_hoistT (fun w' => Ext none_ w2 w') 5 [0, 2, 3] 3 mixedV (by kernel_rfl) hF ?_
  simp only [List.filterMap_cons, List.filterMap_nil, List.getElem?_cons_zero, List.getElem?_cons_succ]
  have hnn := Fam.ne hF
  generalize w2.drew = w3 at *
  repeat (refine wpV_step (fun K hK => ?_); go_simp; refine hK _ ?_; clear hK K)
  refine wpV_nil ?_
  clear e0 e1 e2 c0 c1 c2
  refine wpAnyC_step [1] (by kernel_rfl) (by simp) ?_
  intro j hj
  simp only [List.mem_cons, List.not_mem_nil, or_false] at hj
  subst hj
  refine ⟨_, rfl, ?_⟩
  go_wp2_with fail
  refine (hc _).mono ?_
  rintro e w4 ⟨rfl, hx4⟩
  have hF4 := hF.grow hx4
  have hr4 := hF4.blk0 hr
  have hcl : w4.cell? ⟨w.heap.size + 1, 0, none⟩ = some (.bool false) := by rw [cell_of hr4]; rfl
  have hz := frozen_of hr4
  clear hF hx4 hc
  go_wp2_with fail
  refine ⟨.inr hF4, ?_⟩
  refine wpAnyC_step [4] (by kernel_rfl) (by simp) ?_
  intro j hj
  simp only [List.mem_cons, List.not_mem_nil, or_false] at hj
  subst hj
  refine ⟨_, rfl, ?_⟩
  go_wp2_with fail
  refine ⟨.inr hF4, ?_⟩
  refine wpAnyC_step [5] (by kernel_rfl) (by simp) ?_
  intro j hj
  simp only [List.mem_cons, List.not_mem_nil, or_false] at hj
  subst hj
  refine ⟨_, rfl, ?_⟩
  go_wp2_with fail
  refine ⟨.inl trivial, wpAnyC_end (by kernel_rfl) ?_⟩
  go_wp2_with fail
  exact leaves_idle w _ _ _ (blk_set hr4 0 (.bool false)) rfl ((hx2.grow hF4).trans (Ext.setCell w4 ⟨w.heap.size + 1, 0, none⟩ (.bool false)) fun i hi e => by have h2 : i = w.heap.size + 1 := e; omega)

end Go.Proofs.YtocjidlbjmghdaaDoor
