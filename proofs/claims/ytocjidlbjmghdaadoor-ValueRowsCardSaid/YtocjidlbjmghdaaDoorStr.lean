/- Laws on a text walked over, rune by rune; they speak of no program. -/
import Derived.Test.YtocjidlbjmghdaaDoorBase
import Derived.Laws.RangeAny
namespace Go.Cw
open Go Go.RowKit

/-! ### a text walked over, rune by rune -/
theorem decode_ge (s : ByteArray) (pos : Nat) (h : pos < s.size) : 1 ≤ (Utf8.decode s pos).2 := by
  by_cases ha : (s[pos]'h).toNat < 128
  · rw [decode_ascii s pos h ha]; exact Nat.le_refl _
  · exact (decode_high s pos h (by omega)).2

/-- the runes from a place on, each with the place at which it begins -/
def runesAt (s : ByteArray) (pos : Nat) : List (Nat × Nat) :=
  if _h : pos < s.size then (pos, (Utf8.decode s pos).1) :: runesAt s (pos + (Utf8.decode s pos).2) else []
termination_by s.size - pos
decreasing_by have := decode_ge s pos _h; omega

theorem runesAt_end {s : ByteArray} {pos : Nat} (h : ¬ pos < s.size) : runesAt s pos = [] := by unfold runesAt; rw [dif_neg h]
theorem runesAt_more {s : ByteArray} {pos : Nat} (h : pos < s.size) : runesAt s pos = (pos, (Utf8.decode s pos).1) :: runesAt s (pos + (Utf8.decode s pos).2) := by
  rw [runesAt, dif_pos h]

/-- a text's runes -/
def runes (s : ByteArray) : List Nat := (runesAt s 0).map (·.2)

theorem runesAt_len (s : ByteArray) (pos : Nat) : (runesAt s pos).length ≤ s.size - pos := by
  by_cases h : pos < s.size
  · have h1 := decode_ge s pos h
    have ih := runesAt_len s (pos + (Utf8.decode s pos).2)
    rw [runesAt_more h, List.length_cons]
    omega
  · rw [runesAt_end h]; simp
termination_by s.size - pos
theorem runes_len (s : ByteArray) : (runes s).length ≤ s.size := by
  have := runesAt_len s 0
  simpa [runes] using this

/-- Block r walks over the text s: these runes are to come. -/
def IterIs (w : World) (r : Nat) (s : ByteArray) (pos : Nat) : Prop := w.heap[r]? = some (.stringIter s pos)

def setIter (w : World) (r : Nat) (s : ByteArray) (p : Nat) : World := { w with heap := w.heap.setIfInBounds r (.stringIter s p) }
theorem IterIs.lt {w : World} {r : Nat} {s : ByteArray} {pos : Nat} (h : IterIs w r s pos) : r < w.heap.size := blk_lt h
theorem IterIs.set {w : World} {r : Nat} {s : ByteArray} {pos : Nat} (h : IterIs w r s pos) (p : Nat) : IterIs (setIter w r s p) r s p := by
  unfold IterIs setIter
  simp [h.lt]
theorem setIter_ext (w : World) (r : Nat) (s : ByteArray) (p : Nat) : Ext (· = r) w (setIter w r s p) :=
  ⟨rfl, rfl, rfl, by simp [setIter], fun k hk hne => by
    show (w.heap.setIfInBounds r (.stringIter s p))[k]? = _
    rw [Array.getElem?_setIfInBounds, if_neg (fun e => hne e.symm)]⟩

section
variable {P : Program}
theorem run_next_str {w : World} {r : Nat} {s : ByteArray} {pos : Nat} (ty : TypeId) (hr : IterIs w r s pos) (h : pos < s.size) :
    (Instr.next (.pointer (some ⟨r, 0, none⟩)) true ty).run P w = .ok (.tuple #[.bool true, .int .i64 pos, .int .i32 (Utf8.decode s pos).1]) (setIter w r s (pos + (Utf8.decode s pos).2)) := by
  have hr' : w.heap[r]? = some (.stringIter s pos) := hr
  simp only [Instr.next, getObj, setObj, Sem.run_bind, Sem.run, hr', Result.andThen, h, if_true]
  simp [goInt, setIter]
theorem run_next_strEnd {w : World} {r : Nat} {s : ByteArray} {pos : Nat} (ty : TypeId) (hr : IterIs w r s pos) (h : ¬ pos < s.size) :
    (Instr.next (.pointer (some ⟨r, 0, none⟩)) true ty).run P w = .ok (.tuple #[.bool false]) w := by
  have hr' : w.heap[r]? = some (.stringIter s pos) := hr
  simp [Instr.next, getObj, Sem.run, hr', h]

theorem wpList_nextStr {ops : Array Oper} {rest : List Oper} {o : Oper} {a : Act} {Q : Exit → Act → World → Prop} {w : World} (hgd : o.guard = none) (it : Operand) (hop : o.op = Op.next it true) {r : Nat} {s : ByteArray} {pos : Nat}
    (h1 : a.eval it = .pointer (some ⟨r, 0, none⟩)) (hr : IterIs w r s pos)
    (hDone : ¬ pos < s.size → wpList P ops Q rest (a.put o.dst (.tuple #[.bool false])) w)
    (hMore : pos < s.size → wpList P ops Q rest (a.put o.dst (.tuple #[.bool true, .int .i64 pos, .int .i32 (Utf8.decode s pos).1])) (setIter w r s (pos + (Utf8.decode s pos).2))) :
    wpList P ops Q (o :: rest) a w := by
  refine wpList_plain hgd fun K' hK' => ?_
  unfold Oper.wp
  by_cases h : pos < s.size
  · simp [execOp, hop, h1, run_next_str (P := P) o.type hr h, Result.andThen]
    exact hK' _ _ (hMore h)
  · simp [execOp, hop, h1, run_next_strEnd (P := P) o.type hr h, Result.andThen]
    exact hK' _ _ (hDone h)
end
end Go.Cw
