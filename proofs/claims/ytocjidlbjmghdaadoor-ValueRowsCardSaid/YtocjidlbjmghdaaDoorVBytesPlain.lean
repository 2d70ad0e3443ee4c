/- The plain laws of values' bytes. -/
import Derived.Test.YtocjidlbjmghdaaDoorVCompare
namespace Go.Proofs.YtocjidlbjmghdaaDoor
open Go.RowKit Go.Cw

/-! ### the sign bit -/
theorem xor_top {l : Nat} (h : l < 2 ^ 63) : 2 ^ 63 ^^^ l = 2 ^ 63 + l := by
  apply Nat.eq_of_testBit_eq
  intro i
  rw [Nat.testBit_xor]
  rcases Nat.lt_trichotomy i 63 with hi | hi | hi
  · rw [Nat.testBit_two_pow_add_gt hi, Nat.testBit_two_pow_of_ne (by omega), Bool.false_xor]
  · subst hi
    rw [Nat.testBit_two_pow_add_eq, Nat.testBit_two_pow_self, Bool.true_xor]
  · have h1 : l.testBit i = false := Nat.testBit_lt_two_pow (Nat.lt_of_lt_of_le h (Nat.pow_le_pow_right (by omega) (by omega)))
    have h2 : (2 ^ 63 + l).testBit i = false := Nat.testBit_lt_two_pow (by
      have : 2 ^ 64 ≤ 2 ^ i := Nat.pow_le_pow_right (by omega) (by omega)
      omega)
    rw [h1, h2, Nat.testBit_two_pow_of_ne (by omega)]; rfl
theorem xor_off {l : Nat} (h : l < 2 ^ 63) : (2 ^ 63 + l) ^^^ 2 ^ 63 = l := by
  rw [← xor_top h, Nat.xor_comm, ← Nat.xor_assoc, Nat.xor_self, Nat.zero_xor]
theorem xor_on {l : Nat} (h : l < 2 ^ 63) : l ^^^ 2 ^ 63 = 2 ^ 63 + l := by rw [Nat.xor_comm, xor_top h]

/-- a number as the bytes hold it -/
def usign (n : Int) : Nat := (n + 9223372036854775808).toNat
theorem wrapu64 (n : Int) : IntKind.u64.wrap n = n % 18446744073709551616 := by
  unfold IntKind.wrap
  simp [IntKind.bits, IntKind.signed]
theorem ofInt64 {a : Nat} (h : a < 2 ^ 64) : (BitVec.ofInt 64 (a : Int)).toNat = a := by
  rw [BitVec.toNat_ofInt]
  omega
theorem bits_xor64 {a b : Nat} (ha : a < 2 ^ 64) (hb : b < 2 ^ 64) : bits .xor .u64 (a : Int) (b : Int) = ((a ^^^ b : Nat) : Int) := by
  show IntKind.u64.wrap ((BitVec.ofInt 64 (a : Int) ^^^ BitVec.ofInt 64 (b : Int)).toNat : Int) = _
  rw [BitVec.toNat_xor, ofInt64 ha, ofInt64 hb, wrapu64]
  have := Nat.xor_lt_two_pow ha hb
  omega
theorem bits_or64 {a b : Nat} (ha : a < 2 ^ 64) (hb : b < 2 ^ 64) : bits .or .u64 (a : Int) (b : Int) = ((a ||| b : Nat) : Int) := by
  show IntKind.u64.wrap ((BitVec.ofInt 64 (a : Int) ||| BitVec.ofInt 64 (b : Int)).toNat : Int) = _
  rw [BitVec.toNat_or, ofInt64 ha, ofInt64 hb, wrapu64]
  have := Nat.or_lt_two_pow ha hb
  omega
theorem bits_sign (n : Int) (hn : -9223372036854775808 ≤ n ∧ n ≤ 9223372036854775807) : bits .xor .u64 (IntKind.u64.wrap n) 9223372036854775808 = (usign n : Int) := by
  rw [wrapu64]
  obtain ⟨a, ha⟩ : ∃ a : Nat, n % 18446744073709551616 = (a : Int) := ⟨(n % 18446744073709551616).toNat, by omega⟩
  rw [ha, show (9223372036854775808 : Int) = ((2 ^ 63 : Nat) : Int) from rfl, bits_xor64 (by omega) (by omega)]
  congr 1
  unfold usign
  by_cases h : 0 ≤ n
  · rw [xor_on (by omega)]; omega
  · obtain ⟨l, hl⟩ : ∃ l : Nat, a = 2 ^ 63 + l := ⟨a - 2 ^ 63, by omega⟩
    rw [hl, xor_off (by omega)]; omega
/-- back: the number of which the bytes hold u -/
theorem bits_back {u : Nat} (h : u < 2 ^ 64) : IntKind.i64.wrap (bits .xor .u64 (u : Int) 9223372036854775808) = (u : Int) - 9223372036854775808 := by
  rw [show (9223372036854775808 : Int) = ((2 ^ 63 : Nat) : Int) from rfl, bits_xor64 h (by omega)]
  have hw : ∀ m : Int, IntKind.i64.wrap m = (m + 9223372036854775808) % 18446744073709551616 - 9223372036854775808 := fun m => by
    unfold IntKind.wrap
    simp [IntKind.bits, IntKind.signed]
    omega
  rw [hw]
  by_cases h2 : u < 2 ^ 63
  · rw [xor_on h2]; omega
  · obtain ⟨l, hl⟩ : ∃ l : Nat, u = 2 ^ 63 + l := ⟨u - 2 ^ 63, by omega⟩
    rw [hl, xor_off (by omega)]; omega
/-- a number's byte: the t-th of eight, the highest first -/
def byteN (u t : Nat) : UInt8 := (u / 256 ^ (7 - t) % 256).toUInt8
theorem byteN_int (u : Nat) {j : Nat} (hj : j < 8) : (u : Int) / 2 ^ (56 - 8 * j) % 256 = ((byteN u j).toNat : Int) := by
  unfold byteN
  rw [u8nat (Nat.mod_lt _ (by omega))]
  have : 2 ^ (56 - 8 * j) = 256 ^ (7 - j) := by
    rw [show (256 : Nat) = 2 ^ 8 from rfl, ← Nat.pow_mul]; congr 1; omega
  rw [← this, show (2 : Int) ^ (56 - 8 * j) = ((2 ^ (56 - 8 * j) : Nat) : Int) from (Int.natCast_pow 2 _).symm]
  generalize 2 ^ (56 - 8 * j) = D
  rw [← Int.natCast_ediv]
  generalize u / D = q
  omega
theorem or_byte {a b : Nat} (h : b < 256) : (a * 256) ||| b = a * 256 + b := by
  have := Nat.shiftLeft_add_eq_or_of_lt (b := b) (i := 8) (by omega) a
  rw [Nat.shiftLeft_eq] at this
  exact this.symm

/-! ### what a thing is asserted to be -/
theorem ta33 (v : Value) (w : World) : (Instr.typeAssert (.iface 3 v) 20 3 true).run Tryd.prog w = .ok (.tuple #[v, .bool true]) w := by
  simp [Instr.typeAssert, run_underlying Tryd.underlying3]
theorem ta93 (v : Value) (w : World) : (Instr.typeAssert (.iface 9 v) 20 3 true).run Tryd.prog w = .ok (.tuple #[.int .i64 0, .bool false]) w := by
  simp [Instr.typeAssert, run_underlying Tryd.underlying3, Tryd.zeroValue3]
theorem ta03 (w : World) : (Instr.typeAssert .nilIface 20 3 true).run Tryd.prog w = .ok (.tuple #[.int .i64 0, .bool false]) w := by
  simp [Instr.typeAssert, run_underlying Tryd.underlying3, Tryd.zeroValue3]
theorem ta39 (v : Value) (w : World) : (Instr.typeAssert (.iface 3 v) 20 9 true).run Tryd.prog w = .ok (.tuple #[.string ⟨#[]⟩, .bool false]) w := by
  simp [Instr.typeAssert, run_underlying Tryd.underlying9, Tryd.zeroValue9]
theorem ta99 (v : Value) (w : World) : (Instr.typeAssert (.iface 9 v) 20 9 true).run Tryd.prog w = .ok (.tuple #[v, .bool true]) w := by
  simp [Instr.typeAssert, run_underlying Tryd.underlying9]
theorem ta09 (w : World) : (Instr.typeAssert .nilIface 20 9 true).run Tryd.prog w = .ok (.tuple #[.string ⟨#[]⟩, .bool false]) w := by
  simp [Instr.typeAssert, run_underlying Tryd.underlying9, Tryd.zeroValue9]

end Go.Proofs.YtocjidlbjmghdaaDoor
