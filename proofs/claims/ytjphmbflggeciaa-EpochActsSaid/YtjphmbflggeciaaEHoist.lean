/- Quiet operations in the midst of a drawn region; it speaks of no program. -/
import Derived.Test.YtjphmbflggeciaaWalk
namespace Go.Cw
open Go Go.RowKit
section
variable {P : Program} {ops : Array Oper} {md : Region.Mode} {F : World → Prop} {Q : Exit → Act → World → Prop} {L : Nat}

def closedB (md : Region.Mode) (ops : Array Oper) (listed : Array Bool) : Bool :=
  (List.range ops.size).all fun k => match ops[k]? with
    | some ok => !listed.getD k false || ok.after.all fun e => !Region.binds md e || listed.getD e.on false
    | none => true
theorem closed_of {listed : Array Bool} (h : closedB md ops listed = true) : Closed md ops listed := by
  intro k ok hk hl e he hb
  have hks : k < ops.size := (Array.getElem?_eq_some_iff.1 hk).1
  have h1 := List.all_eq_true.1 h k (List.mem_range.2 hks)
  rw [hk] at h1
  simp only [hl, Bool.not_true, Bool.false_or] at h1
  obtain ⟨i, hi, e1⟩ := Array.mem_iff_getElem.1 he
  have h2 := Array.all_eq_true.1 h1 i hi
  rw [e1, hb] at h2
  simpa using h2

/-- In the midst of a region: these quiet operations first. -/
theorem wpAnyC_again {fuel : Nat} {listed : Array Bool} {a : Act} {w : World} (qs : List Nat) (m : Nat) (hB : (Region.noSelect ops && (fuel == qs.length + m) && closedB md ops listed && hoistTB md ops L qs listed) = true) (hF : F w)
    (h : wpV P ops F (fun a' => wpAnyC P md ops F Q L m (listedOf qs listed) a' w) (qs.filterMap (ops[·]?)) a) : wpAnyC P md ops F Q L fuel listed a w := by
  simp only [Bool.and_eq_true, beq_iff_eq] at hB
  exact wpAnyC_hoistT hB.1.1.1 m qs fuel listed a w hB.1.1.2 (closed_of hB.1.2) hB.2 hF h
end
end Go.Cw
