/- Laws on a region whose rest may take more than one order; they speak of no program. -/
import Derived.Test.YtocjidlbjmghdaaDoorBase
namespace Go.Cw
open Go Go.RowKit
section
variable {P : Program} {ops : Array Oper} {md : Region.Mode} {F : World → Prop} {Q : Exit → Act → World → Prop} {L : Nat}

/-- The check over a region: the quiet ones first, in this order. -/
def hoistTB (md : Region.Mode) (ops : Array Oper) (L : Nat) : List Nat → Array Bool → Bool
  | i :: qs, listed => (Region.ready md ops listed).contains i && Region.free md ops listed i &&
      (i == L || ops[L]?.isNone || reachB md ops i ops.size L) && hoistTB md ops L qs (listed.setIfInBounds i true)
  | [], _ => true

def listedOf (qs : List Nat) (listed : Array Bool) : Array Bool := qs.foldl (fun s i => s.setIfInBounds i true) listed

theorem wpAnyC_hoistT (hs : Region.noSelect ops = true) (m : Nat) : ∀ (qs : List Nat) (fuel : Nat) (listed : Array Bool) (a : Act) (w : World), fuel = qs.length + m → Closed md ops listed →
    hoistTB md ops L qs listed = true → F w → wpV P ops F (fun a' => wpAnyC P md ops F Q L m (listedOf qs listed) a' w) (qs.filterMap (ops[·]?)) a →
    wpAnyC P md ops F Q L fuel listed a w
  | i :: qs, fuel, listed, a, w, hl, hcl, hB, hF, h => by
    obtain ⟨fuel, rfl⟩ : ∃ f, fuel = f + 1 := ⟨fuel - 1, by simp at hl; omega⟩
    simp only [hoistTB, Bool.and_eq_true] at hB
    obtain ⟨⟨⟨hr, hf⟩, hLb⟩, hB'⟩ := hB
    have hr' : i ∈ Region.ready md ops listed := by simpa using hr
    obtain ⟨_, o, ho, _⟩ := mem_ready.1 hr'
    rw [List.filterMap_cons_some ho] at h
    obtain ⟨v, hy, hK⟩ := yieldsV_of h
    refine wpAnyC_first ho (Region.noSelect_spec hs) ?_ fuel listed a w hcl (Region.free_spec ho hf) hr' hy hF
      (wpAnyC_hoistT hs m qs fuel _ _ _ (by simp at hl ⊢; omega) (hcl.set hr') hB' hF hK)
    simp only [Bool.or_eq_true, beq_iff_eq] at hLb
    rcases hLb with (hLb | hLb) | hLb
    · exact .inl hLb
    · exact .inr (.inl (by simpa using hLb))
    · exact .inr (.inr hLb)
  | [], fuel, listed, a, w, hl, _, hB, hF, h => by
    obtain rfl : fuel = m := by simpa using hl
    exact h

/-- One operation, whichever of those that may come next. -/
theorem wpAnyC_step {fuel : Nat} {listed : Array Bool} {a : Act} {w : World} (js : List Nat) (hr : Region.ready md ops listed = js) (hne : js ≠ [])
    (h : ∀ j ∈ js, ∃ o, ops[j]? = some o ∧ wpList P ops (Exit.then (fun a' w' => (j = L ∨ F w') ∧ wpAnyC P md ops F Q L fuel (listed.setIfInBounds j true) a' w') (NoPanic Q)) [o] a w) :
    wpAnyC P md ops F Q L (fuel + 1) listed a w := by
  refine ⟨fun h0 => absurd (hr ▸ h0) hne, fun j hj => ?_⟩
  rw [hr] at hj
  obtain ⟨o, ho, h'⟩ := h j hj
  exact wpOp_of_list ho letsOut_noPanic (fun _ _ _ h => h) h'

theorem wpAnyC_end {fuel : Nat} {listed : Array Bool} {a : Act} {w : World} (hr : Region.ready md ops listed = []) (h : Q .normal a w) : wpAnyC P md ops F Q L fuel listed a w := by
  cases fuel with
  | zero => exact ⟨hr, h⟩
  | succ fuel => exact ⟨fun _ => h, by rw [hr]; simp⟩

/-- **A REGION THAT DRAWS ITS ORDER**: the quiet operations first, then whatever order the rest may take. -/
theorem wp_region_hoistT {id : Nat} {Q : Exit → Act → World → Prop} {a : Act} {w : World} {l : List Oper} (F : World → Prop) (L : Nat) (qs : List Nat) (m : Nat) (hm : P.follows .mixedOrders = true)
    (hB : (Region.noSelect l.toArray && (qs.length + m == l.length) && hoistTB .any l.toArray L qs (Array.replicate l.length false)) = true) (hF : F w.drew)
    (h : wpV P l.toArray F (fun a' => wpAnyC P .any l.toArray F Q L m (listedOf qs (Array.replicate l.length false)) a' w.drew) (qs.filterMap (l[·]?)) a) : (Code.region id l.toArray true).wp P Q a w := by
  simp only [Bool.and_eq_true, beq_iff_eq] at hB
  refine wp_region_any hm (wpAny_of_C _ _ _ _ (wpAnyC_hoistT (L := L) hB.1.1 m qs _ _ _ _ ?_ ?_ ?_ hF ?_))
  · simp [hB.1.2]
  · intro k ok hk hl
    rcases Nat.lt_or_ge k l.length with h' | h'
    · simp [h'] at hl
    · simp [h'] at hl
  · simpa using hB.2
  · simpa using h

end
end Go.Cw
namespace Go.Cw
open Go Go.RowKit
section
variable {P : Program} {ops : Array Oper} {md : Region.Mode} {F : World → Prop} {Q : Exit → Act → World → Prop} {L : Nat}

def closedB (md : Region.Mode) (ops : Array Oper) (listed : Array Bool) : Bool :=
  (List.range ops.size).all fun k => match ops[k]? with
    | some ok => !listed.getD k false || ok.after.all fun e => !Region.binds md e || listed.getD e.on false
    | none => true
theorem closed_of {listed : Array Bool} (h : closedB md ops listed = true) : Closed md ops listed := by
  intro k ok hk hl e he hb
  have hks : k < ops.size := (Array.getElem?_eq_some_iff.1 hk).1
  have h1 := List.all_eq_true.1 h k (List.mem_range.2 hks)
  rw [hk] at h1
  simp only [hl, Bool.not_true, Bool.false_or] at h1
  obtain ⟨i, hi, e1⟩ := Array.mem_iff_getElem.1 he
  have h2 := Array.all_eq_true.1 h1 i hi
  rw [e1, hb] at h2
  simpa using h2

/-- In the midst of a region: these quiet operations first. -/
theorem wpAnyC_again {fuel : Nat} {listed : Array Bool} {a : Act} {w : World} (qs : List Nat) (m : Nat) (hB : (Region.noSelect ops && (fuel == qs.length + m) && closedB md ops listed && hoistTB md ops L qs listed) = true) (hF : F w)
    (h : wpV P ops F (fun a' => wpAnyC P md ops F Q L m (listedOf qs listed) a' w) (qs.filterMap (ops[·]?)) a) : wpAnyC P md ops F Q L fuel listed a w := by
  simp only [Bool.and_eq_true, beq_iff_eq] at hB
  exact wpAnyC_hoistT hB.1.1.1 m qs fuel listed a w hB.1.1.2 (closed_of hB.1.2) hB.2 hF h
end
end Go.Cw
