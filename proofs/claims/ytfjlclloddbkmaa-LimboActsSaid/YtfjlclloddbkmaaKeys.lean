/- The keys of the limbo as a Lean structure, their comparison, and the closure of Retire. -/
import Derived.Test.YtfjlclloddbkmaaProg
import Derived.Test.YtfjlclloddbkmaaBase
import Derived.ProofKit
namespace Go.Proofs.Ytfjlclloddbkmaa
open Go.RowKit Go.Cw

/-- A key. -/
structure K where
  k : Int
  a : Int
  b : Int
  s : ByteArray
  hk : (Lit.int .i64 k).wf = true
  ha : (Lit.int .i64 a).wf = true
  hb : (Lit.int .i64 b).wf = true
  hs : s.size ≤ maxLen

noncomputable instance : DecidableEq K := fun _ _ => Classical.propDecidable _

def K.val (x : K) : Value := .agg #[.int .i64 x.k, .int .i64 x.a, .int .i64 x.b, .string x.s]
def K.cells (x : K) : List Value := [.int .i64 x.k, .int .i64 x.a, .int .i64 x.b, .string x.s]
theorem K.ext' {x y : K} (h1 : x.k = y.k) (h2 : x.a = y.a) (h3 : x.b = y.b) (h4 : x.s = y.s) : x = y := by
  cases x; cases y; simp_all
theorem K.inj (x y : K) (h : x.val = y.val) : x = y := by
  simp [K.val] at h
  exact K.ext' h.1 h.2.1 h.2.2.1 h.2.2.2
theorem laidOut : laidOutB Try.prog = true := by kernel_rfl
theorem row30 : 30 < Try.prog.types.size := of_decide_eq_true (by kernel_rfl)
theorem wide30 : (match Try.prog.underlying 30 with | some (.array _ _) | some (.struct _) => true | _ => false) = true := by kernel_rfl
theorem keyed30 : Maps.Keyed Try.prog 30 := Maps.Keyed.of_law (deep_law_laid laidOut (m := 2) (by omega) row30 (by kernel_rfl) wide30)
theorem keyType30 : Try.prog.keyType 30 = true := by kernel_rfl
theorem cellsOf3 : Try.prog.cellsOf 3 = 1 := by kernel_rfl
theorem cellsOf9 : Try.prog.cellsOf 9 = 1 := by kernel_rfl
theorem cellsOf30 : Try.prog.cellsOf 30 = 4 := by kernel_rfl

section
variable {P : Program} {k ti ts : TypeId} {f0 f1 f2 f3 : Field}

theorem keyOf_key4 (hU : P.underlying k = some (.struct #[f0, f1, f2, f3])) (n0 : f0.name ≠ "_") (n1 : f1.name ≠ "_") (n2 : f2.name ≠ "_") (n3 : f3.name ≠ "_")
    (t0 : f0.type = ti) (t1 : f1.type = ti) (t2 : f2.type = ti) (t3 : f3.type = ts) (o0 : f0.offset = 0) (o1 : f1.offset = 1) (o2 : f2.offset = 2) (o3 : f3.offset = 3)
    (hi : P.underlying ti = some (.int .i64)) (hs : P.underlying ts = some .string) (hk : P.keyType k = true) (c : P.cellsOf k = 4) (ci : P.cellsOf ti = 1) (cs : P.cellsOf ts = 1) {m : Nat} (hm : P.types.size = m + 1)
    (x : K) : keyOf P k x.val = some (.string (keyBytes [.int .i64 x.k, .int .i64 x.a, .int .i64 x.b, .string x.s.data.toList])) := by
  simp [keyOf, hU, hk, K.val, Value.formed, Value.cells, hm, Program.keyLits, hi, hs, c, ci, cs, x.hk, x.ha, x.hb, x.hs, n0, n1, n2, n3, t0, t1, t2, t3, o0, o1, o2, o3]

theorem eql_key4 (hU : P.underlying k = some (.struct #[f0, f1, f2, f3])) (n0 : f0.name ≠ "_") (n1 : f1.name ≠ "_") (n2 : f2.name ≠ "_") (n3 : f3.name ≠ "_")
    (t0 : f0.type = ti) (t1 : f1.type = ti) (t2 : f2.type = ti) (t3 : f3.type = ts) (o0 : f0.offset = 0) (o1 : f1.offset = 1) (o2 : f2.offset = 2) (o3 : f3.offset = 3)
    (hi : P.underlying ti = some (.int .i64)) (hs : P.underlying ts = some .string) (hst : P.stoodInHeld k = false) (x y : K) (u : World) :
    (Go.binOp .eql k x.val y.val).run P u = .ok (.bool (decide (x = y))) u := by
  have hf : P.fieldsOf k = #[f0, f1, f2, f3] := by simp [Program.fieldsOf, hU]
  unfold K.val
  rw [run_eql_struct, run_equalIn_struct _ _ _ _ _ (by rw [hf]; exact hU) hst, hf]
  have pi : ∀ (cs : Array Value) (off : Nat) (v : Value) (u : World), cs[off]? = some v → (part ti cs off).run P u = .ok v u := fun cs off v u h => by
    simp [part, isAgg, run_underlying hi, h]
  have ps : ∀ (cs : Array Value) (off : Nat) (v : Value) (u : World), cs[off]? = some v → (part ts cs off).run P u = .ok v u := fun cs off v u h => by
    simp [part, isAgg, run_underlying hs, h]
  have p0 : ∀ (a b c d : Value) (u : World), (part ti #[a, b, c, d] 0).run P u = .ok a u := fun _ _ _ _ _ => pi _ _ _ _ rfl
  have p1 : ∀ (a b c d : Value) (u : World), (part ti #[a, b, c, d] 1).run P u = .ok b u := fun _ _ _ _ _ => pi _ _ _ _ rfl
  have p2 : ∀ (a b c d : Value) (u : World), (part ti #[a, b, c, d] 2).run P u = .ok c u := fun _ _ _ _ _ => pi _ _ _ _ rfl
  have p3 : ∀ (a b c d : Value) (u : World), (part ts #[a, b, c, d] 3).run P u = .ok d u := fun _ _ _ _ _ => ps _ _ _ _ rfl
  clear pi ps
  have hx : decide (x = y) = (x.k == y.k && (x.a == y.a && (x.b == y.b && x.s.toList == y.s.toList))) := by
    rw [Bool.eq_iff_iff]
    simp only [decide_eq_true_eq, Bool.and_eq_true, beq_iff_eq]
    constructor
    · rintro rfl; simp
    · rintro ⟨h1, h2, h3, h4⟩
      refine K.ext' h1 h2 h3 ?_
      rw [ByteArray.toList_eq, ByteArray.toList_eq] at h4
      have h5 : x.s.data = y.s.data := Array.toList_inj.1 h4
      cases hx : x.s; cases hy : y.s; rw [hx, hy] at h5; simp at h5; rw [h5]
  rw [hx]
  simp [Op.eqFields, n0, n1, n2, n3, t0, t1, t2, t3, o0, o1, o2, o3, p0, p1, p2, p3, run_equalIn_int _ _ _ _ _ _ _ hi, run_equalIn_string _ _ _ _ _ hs, Result.andThen]
  by_cases h1 : x.k = y.k <;> by_cases h2 : x.a = y.a <;> by_cases h3 : x.b = y.b <;> by_cases h4 : x.s.toList = y.s.toList <;> simp [h1, h2, h3, h4]

theorem neq_key4 (hU : P.underlying k = some (.struct #[f0, f1, f2, f3])) (n0 : f0.name ≠ "_") (n1 : f1.name ≠ "_") (n2 : f2.name ≠ "_") (n3 : f3.name ≠ "_")
    (t0 : f0.type = ti) (t1 : f1.type = ti) (t2 : f2.type = ti) (t3 : f3.type = ts) (o0 : f0.offset = 0) (o1 : f1.offset = 1) (o2 : f2.offset = 2) (o3 : f3.offset = 3)
    (hi : P.underlying ti = some (.int .i64)) (hs : P.underlying ts = some .string) (hst : P.stoodInHeld k = false) (x y : K) (u : World) :
    (Go.binOp .neq k x.val y.val).run P u = .ok (.bool (!decide (x = y))) u := by
  have hf : P.fieldsOf k = #[f0, f1, f2, f3] := by simp [Program.fieldsOf, hU]
  unfold K.val
  rw [run_neq_struct, run_equalIn_struct _ _ _ _ _ (by rw [hf]; exact hU) hst, hf]
  have pi : ∀ (cs : Array Value) (off : Nat) (v : Value) (u : World), cs[off]? = some v → (part ti cs off).run P u = .ok v u := fun cs off v u h => by
    simp [part, isAgg, run_underlying hi, h]
  have ps : ∀ (cs : Array Value) (off : Nat) (v : Value) (u : World), cs[off]? = some v → (part ts cs off).run P u = .ok v u := fun cs off v u h => by
    simp [part, isAgg, run_underlying hs, h]
  have p0 : ∀ (a b c d : Value) (u : World), (part ti #[a, b, c, d] 0).run P u = .ok a u := fun _ _ _ _ _ => pi _ _ _ _ rfl
  have p1 : ∀ (a b c d : Value) (u : World), (part ti #[a, b, c, d] 1).run P u = .ok b u := fun _ _ _ _ _ => pi _ _ _ _ rfl
  have p2 : ∀ (a b c d : Value) (u : World), (part ti #[a, b, c, d] 2).run P u = .ok c u := fun _ _ _ _ _ => pi _ _ _ _ rfl
  have p3 : ∀ (a b c d : Value) (u : World), (part ts #[a, b, c, d] 3).run P u = .ok d u := fun _ _ _ _ _ => ps _ _ _ _ rfl
  clear pi ps
  have hx : decide (x = y) = (x.k == y.k && (x.a == y.a && (x.b == y.b && x.s.toList == y.s.toList))) := by
    rw [Bool.eq_iff_iff]
    simp only [decide_eq_true_eq, Bool.and_eq_true, beq_iff_eq]
    constructor
    · rintro rfl; simp
    · rintro ⟨h1, h2, h3, h4⟩
      refine K.ext' h1 h2 h3 ?_
      rw [ByteArray.toList_eq, ByteArray.toList_eq] at h4
      have h5 : x.s.data = y.s.data := Array.toList_inj.1 h4
      cases hx : x.s; cases hy : y.s; rw [hx, hy] at h5; simp at h5; rw [h5]
  rw [hx]
  simp [Op.eqFields, n0, n1, n2, n3, t0, t1, t2, t3, o0, o1, o2, o3, p0, p1, p2, p3, run_equalIn_int _ _ _ _ _ _ _ hi, run_equalIn_string _ _ _ _ _ hs, Result.andThen]
  by_cases h1 : x.k = y.k <;> by_cases h2 : x.a = y.a <;> by_cases h3 : x.b = y.b <;> by_cases h4 : x.s.toList = y.s.toList <;> simp [h1, h2, h3, h4]

end

theorem kt30 : KT Try.prog 30 K.val where
  keyed := keyed30
  some := fun x => ⟨_, keyOf_key4 (m := Try.prog.types.size - 1) Try.underlying30 (by decide) (by decide) (by decide) (by decide) rfl rfl rfl rfl rfl rfl rfl rfl Try.underlying3 Try.underlying9 keyType30 cellsOf30 cellsOf3 cellsOf9 (by have := row30; omega) x⟩
  inj := K.inj

theorem stood30 : Try.prog.stoodInHeld 30 = false := by kernel_rfl
theorem key_eql (x y : K) (u : World) : (Go.binOp .eql 30 x.val y.val).run Try.prog u = .ok (.bool (decide (x = y))) u :=
  eql_key4 Try.underlying30 (by decide) (by decide) (by decide) (by decide) rfl rfl rfl rfl rfl rfl rfl rfl Try.underlying3 Try.underlying9 stood30 x y u

theorem key_neq (x y : K) (u : World) : (Go.binOp .neq 30 x.val y.val).run Try.prog u = .ok (.bool (!decide (x = y))) u :=
  neq_key4 Try.underlying30 (by decide) (by decide) (by decide) (by decide) rfl rfl rfl rfl rfl rfl rfl rfl Try.underlying3 Try.underlying9 stood30 x y u

set_option maxHeartbeats 400000 in
theorem retire1 (x k : K) (kb : Nat) (w : World) (hb : w.heap[kb]? = some (.cells #[.int .i64 k.k, .int .i64 k.a, .int .i64 k.b, .string k.s] 30 (0, 0))) :
    Calls Try.prog 22 #[x.val, .pointer (some ⟨kb, 0, none⟩)] w fun e w' => e = .returned (.bool (decide (x = k))) ∧ Ext none_ w w' := by
  obtain ⟨c0, c1, c2, c3⟩ := cells4 hb
  have hlt := blk_lt hb
  clear hb
  have he := key_eql x k
  unfold K.val at he ⊢
  go_enter Try.func22, Try.ntmps22
  go_wp2
  go_ret
  exact ⟨rfl, Ext.alloc _ _⟩
end Go.Proofs.Ytfjlclloddbkmaa
