/- The plain law of Like: the row of which beginnings fit. -/
import Derived.Test.YtocjidlbjmghdaaDoorConv
namespace Go.Proofs.YtocjidlbjmghdaaDoor
open Go.RowKit Go.Cw

/-- which beginnings of the text fit, the pattern's rune p more read -/
def nx (text : List Int) (p : Int) (fits : Nat → Bool) : Nat → Bool
  | 0 => decide (p = 42) && fits 0
  | i + 1 => if p = 42 then fits (i + 1) || nx text p fits i else (decide (p = 63) || decide (some p = text[i]?)) && fits i
def first (i : Nat) : Bool := decide (i = 0)
/-- does the text fit the pattern? -/
def likeP (text pat : List Int) : Bool := pat.foldl (fun f p => nx text p f) first text.length

theorem nx_star {text : List Int} {fits : Nat → Bool} : ∀ (i : Nat), nx text 42 fits i = decide (∃ j, j ≤ i ∧ fits j = true)
  | 0 => by
    unfold nx
    rw [Bool.eq_iff_iff]; simp
  | i + 1 => by
    unfold nx
    rw [if_pos rfl, nx_star i, Bool.eq_iff_iff]
    simp only [Bool.or_eq_true, decide_eq_true_eq]
    constructor
    · rintro (h | ⟨j, hj, h⟩)
      · exact ⟨i + 1, Nat.le_refl _, h⟩
      · exact ⟨j, by omega, h⟩
    · rintro ⟨j, hj, h⟩
      by_cases e : j = i + 1
      · exact .inl (e ▸ h)
      · exact .inr ⟨j, by omega, h⟩

end Go.Proofs.YtocjidlbjmghdaaDoor
