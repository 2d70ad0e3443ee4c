/-
  DERIVED. GIVEN WITH THE SEED: THE CARDS: each row of YtocjidlbjmghdaaDoorRows.lean that lists a variable, with what it lists TIED to the program's text (the seventh form; the later family's looks); each row that meets fmt, with fmt's text TOLD by the authors' own Lean function (tested against real Go, not proved from fmt's source: count such statements apart). THE CARD IS WHAT COUNTS. Prove the row's statement (the work); the ties are given (YtocjidlbjmghdaaDoorTie.lean); close each card by the builder's one call (the guide's Derived/Test/ToyasCard.lean, 'card_holds'). Laid BY PROGRAM, IN A SANDBOX (cutbox-door.mjs). By AI agents, Wed Nov 11 2026. No macro, syntax, notation, axiom, sorry.
-/
import Derived.Test.YtocjidlbjmghdaaDoorRows
import GoSem.ClaimSeven
namespace Go.Proofs.YtocjidlbjmghdaaDoor
namespace Rows

/-- THE TIED CARD OF 'cobweblaw01.LetterNames'. -/
def letterNamesCard : Claim7 := { stood := { row := letterNamesRow, standIns := [], harness := (true, "c7bbd90163630947fd625aa2dc10f1d8dd9d7c65480d539aa1c50a7a2d19ab7f"), looks := true }, kinds := [], alts := [], laidByText := true, laidKinds := [.data, .pinned], laidTests := true, laidLooks := .later }
def LetterNamesCardSaid : Prop := Claim7.holds Tryd.pinned (.plain (OpenSpec.ofChange letterNamesSpec)) letterNamesCard

/-- THE TIED CARD OF 'cobweblaw01.LetterFits'. -/
def letterFitsCard : Claim7 := { stood := { row := letterFitsRow, standIns := [], harness := (true, "c7bbd90163630947fd625aa2dc10f1d8dd9d7c65480d539aa1c50a7a2d19ab7f"), looks := true }, kinds := [], alts := [], laidByText := true, laidKinds := [.data, .pinned], laidTests := true, laidLooks := .later }
def LetterFitsCardSaid : Prop := Claim7.holds Tryd.pinned (.plain (OpenSpec.ofChange letterFitsSpec)) letterFitsCard

/-- THE TIED CARD OF 'cobweblaw01.LetterFolds'. -/
def letterFoldsCard : Claim7 := { stood := { row := letterFoldsRow, standIns := [], harness := (true, "c7bbd90163630947fd625aa2dc10f1d8dd9d7c65480d539aa1c50a7a2d19ab7f"), looks := true }, kinds := [], alts := [], laidByText := true, laidKinds := [.data, .pinned], laidTests := true, laidLooks := .later }
def LetterFoldsCardSaid : Prop := Claim7.holds Tryd.pinned (.plain (OpenSpec.ofChange letterFoldsSpec)) letterFoldsCard

/-- THE TIED CARD OF 'cobweblaw01.LetterCuts'. -/
def letterCutsCard : Claim7 := { stood := { row := letterCutsRow, standIns := [], harness := (true, "c7bbd90163630947fd625aa2dc10f1d8dd9d7c65480d539aa1c50a7a2d19ab7f"), looks := true }, kinds := [], alts := [], laidByText := true, laidKinds := [.data, .pinned], laidTests := true, laidLooks := .later }
def LetterCutsCardSaid : Prop := Claim7.holds Tryd.pinned (.plain (OpenSpec.ofChange letterCutsSpec)) letterCutsCard

/-- THE TIED CARD OF 'cobweblaw01.LetterQuotes'. -/
def letterQuotesCard : Claim7 := { stood := { row := letterQuotesRow, standIns := [], harness := (true, "c7bbd90163630947fd625aa2dc10f1d8dd9d7c65480d539aa1c50a7a2d19ab7f"), looks := true }, kinds := [], alts := [], laidByText := true, laidKinds := [.data, .pinned], laidTests := true, laidLooks := .later }
def LetterQuotesCardSaid : Prop := Claim7.holds Tryd.pinned (.plain (OpenSpec.ofChange letterQuotesSpec)) letterQuotesCard

/-- THE TIED CARD OF 'cobweblaw01.LetterBack'. -/
def letterBackCard : Claim7 := { stood := { row := letterBackRow, standIns := [], harness := (true, "c7bbd90163630947fd625aa2dc10f1d8dd9d7c65480d539aa1c50a7a2d19ab7f"), looks := true }, kinds := [], alts := [], laidByText := true, laidKinds := [.data, .pinned], laidTests := true, laidLooks := .later }
def LetterBackCardSaid : Prop := Claim7.holds Tryd.pinned (.plain (OpenSpec.ofChange letterBackSpec)) letterBackCard

/-- THE TIED CARD OF 'cobweblaw01.LetterCompares'. -/
def letterComparesCard : Claim7 := { stood := { row := letterComparesRow, standIns := [], harness := (true, "c7bbd90163630947fd625aa2dc10f1d8dd9d7c65480d539aa1c50a7a2d19ab7f"), looks := true }, kinds := [], alts := [], laidByText := true, laidKinds := [.data, .pinned], laidTests := true, laidLooks := .later }
def LetterComparesCardSaid : Prop := Claim7.holds Tryd.pinned (.plain (OpenSpec.ofChange letterComparesSpec)) letterComparesCard

/-- THE TIED CARD OF 'cobweblaw01.LetterStars'. -/
def letterStarsCard : Claim7 := { stood := { row := letterStarsRow, standIns := [], harness := (true, "c7bbd90163630947fd625aa2dc10f1d8dd9d7c65480d539aa1c50a7a2d19ab7f"), looks := true }, kinds := [], alts := [], laidByText := true, laidKinds := [.data, .pinned], laidTests := true, laidLooks := .later }
def LetterStarsCardSaid : Prop := Claim7.holds Tryd.pinned (.plain (OpenSpec.ofChange letterStarsSpec)) letterStarsCard

/-- THE TIED CARD OF 'cobweblaw01.LetterHeads'. -/
def letterHeadsCard : Claim7 := { stood := { row := letterHeadsRow, standIns := [], harness := (true, "c7bbd90163630947fd625aa2dc10f1d8dd9d7c65480d539aa1c50a7a2d19ab7f"), looks := true }, kinds := [], alts := [], laidByText := true, laidKinds := [.data, .pinned], laidTests := true, laidLooks := .later }
def LetterHeadsCardSaid : Prop := Claim7.holds Tryd.pinned (.plain (OpenSpec.ofChange letterHeadsSpec)) letterHeadsCard

/-- THE TIED CARD OF 'cobweblaw02.ValueApart'. -/
def valueApartCard : Claim7 := { stood := { row := valueApartRow, standIns := [], harness := (true, "c7bbd90163630947fd625aa2dc10f1d8dd9d7c65480d539aa1c50a7a2d19ab7f"), looks := true }, kinds := [], alts := [], laidByText := true, laidKinds := [.data, .data, .data, .sentinel, .sentinel], laidTests := true, laidLooks := .later }
def ValueApartCardSaid : Prop := Claim7.holds Tryd.pinned (.plain (OpenSpec.ofChange valueApartSpec)) valueApartCard

/-- THE TIED CARD OF 'cobweblaw02.ValueThings'. -/
def valueThingsCard : Claim7 := { stood := { row := valueThingsRow, standIns := [], harness := (true, "c7bbd90163630947fd625aa2dc10f1d8dd9d7c65480d539aa1c50a7a2d19ab7f"), looks := true }, kinds := [], alts := [], laidByText := true, laidKinds := [.data, .data, .data, .sentinel, .sentinel], laidTests := true, laidLooks := .later }
def ValueThingsCardSaid : Prop := Claim7.holds Tryd.pinned (.plain (OpenSpec.ofChange valueThingsSpec)) valueThingsCard

/-- THE TIED CARD OF 'cobweblaw02.ValueCompares'. -/
def valueComparesCard : Claim7 := { stood := { row := valueComparesRow, standIns := [], harness := (true, "c7bbd90163630947fd625aa2dc10f1d8dd9d7c65480d539aa1c50a7a2d19ab7f"), looks := true }, kinds := [], alts := [], laidByText := true, laidKinds := [.data, .data, .data, .sentinel, .sentinel], laidTests := true, laidLooks := .later }
def ValueComparesCardSaid : Prop := Claim7.holds Tryd.pinned (.plain (OpenSpec.ofChange valueComparesSpec)) valueComparesCard

/-- THE TIED CARD OF 'cobweblaw02.ValueOrders'. -/
def valueOrdersCard : Claim7 := { stood := { row := valueOrdersRow, standIns := [], harness := (true, "c7bbd90163630947fd625aa2dc10f1d8dd9d7c65480d539aa1c50a7a2d19ab7f"), looks := true }, kinds := [], alts := [], laidByText := true, laidKinds := [.data, .data, .data, .sentinel, .sentinel], laidTests := true, laidLooks := .later }
def ValueOrdersCardSaid : Prop := Claim7.holds Tryd.pinned (.plain (OpenSpec.ofChange valueOrdersSpec)) valueOrdersCard

/-- THE TIED CARD OF 'cobweblaw02.ValueTakes'. -/
def valueTakesCard : Claim7 := { stood := { row := valueTakesRow, standIns := [], harness := (true, "c7bbd90163630947fd625aa2dc10f1d8dd9d7c65480d539aa1c50a7a2d19ab7f"), looks := true }, kinds := [], alts := [], laidByText := true, laidKinds := [.data, .data, .data, .sentinel, .sentinel], laidTests := true, laidLooks := .later }
def ValueTakesCardSaid : Prop := Claim7.holds Tryd.pinned (.plain (OpenSpec.ofChange valueTakesSpec)) valueTakesCard

/-- THE TIED CARD OF 'cobweblaw02.ValueRows'. -/
def valueRowsCard : Claim7 := { stood := { row := valueRowsRow, standIns := [], harness := (true, "c7bbd90163630947fd625aa2dc10f1d8dd9d7c65480d539aa1c50a7a2d19ab7f"), looks := true }, kinds := [], alts := [], laidByText := true, laidKinds := [.data, .data, .data, .sentinel, .sentinel], laidTests := true, laidLooks := .later }
def ValueRowsCardSaid : Prop := Claim7.holds Tryd.pinned (.plain (OpenSpec.ofChange valueRowsSpec)) valueRowsCard

/-- THE TIED CARD OF 'cobweblaw23.AskApart'. -/
def askApartCard : Claim7 := { stood := { row := askApartRow, standIns := [], harness := (true, "c7bbd90163630947fd625aa2dc10f1d8dd9d7c65480d539aa1c50a7a2d19ab7f"), looks := true }, kinds := [], alts := [], laidByText := true, laidKinds := [.data, .data, .data, .data, .sentinel, .sentinel, .pinned], laidTests := true, laidLooks := .later }
def AskApartCardSaid : Prop := Claim7.holds Tryd.pinned (.plain (OpenSpec.ofChange askApartSpec)) askApartCard

/-- THE SECOND FORM's CARD OF 'cobweblaw01.LetterNames'. -/
def letterNamesUptoCard : Claim7 := { stood := { row := letterNamesUptoRow, standIns := [], harness := (true, "c7bbd90163630947fd625aa2dc10f1d8dd9d7c65480d539aa1c50a7a2d19ab7f"), looks := true }, kinds := [], alts := [], laidByText := true, laidKinds := [.data, .pinned], laidTests := true, laidLooks := .later }
def LetterNamesUptoCardSaid : Prop := Claim7.holds Tryd.pinned (.plain (OpenSpec.upto letterNamesSpec)) letterNamesUptoCard

/-- THE SECOND FORM's CARD OF 'cobweblaw01.LetterFits'. -/
def letterFitsUptoCard : Claim7 := { stood := { row := letterFitsUptoRow, standIns := [], harness := (true, "c7bbd90163630947fd625aa2dc10f1d8dd9d7c65480d539aa1c50a7a2d19ab7f"), looks := true }, kinds := [], alts := [], laidByText := true, laidKinds := [.data, .pinned], laidTests := true, laidLooks := .later }
def LetterFitsUptoCardSaid : Prop := Claim7.holds Tryd.pinned (.plain (OpenSpec.upto letterFitsSpec)) letterFitsUptoCard

/-- THE SECOND FORM's CARD OF 'cobweblaw01.LetterFolds'. -/
def letterFoldsUptoCard : Claim7 := { stood := { row := letterFoldsUptoRow, standIns := [], harness := (true, "c7bbd90163630947fd625aa2dc10f1d8dd9d7c65480d539aa1c50a7a2d19ab7f"), looks := true }, kinds := [], alts := [], laidByText := true, laidKinds := [.data, .pinned], laidTests := true, laidLooks := .later }
def LetterFoldsUptoCardSaid : Prop := Claim7.holds Tryd.pinned (.plain (OpenSpec.upto letterFoldsSpec)) letterFoldsUptoCard

/-- THE SECOND FORM's CARD OF 'cobweblaw01.LetterCuts'. -/
def letterCutsUptoCard : Claim7 := { stood := { row := letterCutsUptoRow, standIns := [], harness := (true, "c7bbd90163630947fd625aa2dc10f1d8dd9d7c65480d539aa1c50a7a2d19ab7f"), looks := true }, kinds := [], alts := [], laidByText := true, laidKinds := [.data, .pinned], laidTests := true, laidLooks := .later }
def LetterCutsUptoCardSaid : Prop := Claim7.holds Tryd.pinned (.plain (OpenSpec.upto letterCutsSpec)) letterCutsUptoCard

/-- THE SECOND FORM's CARD OF 'cobweblaw01.LetterQuotes'. -/
def letterQuotesUptoCard : Claim7 := { stood := { row := letterQuotesUptoRow, standIns := [], harness := (true, "c7bbd90163630947fd625aa2dc10f1d8dd9d7c65480d539aa1c50a7a2d19ab7f"), looks := true }, kinds := [], alts := [], laidByText := true, laidKinds := [.data, .pinned], laidTests := true, laidLooks := .later }
def LetterQuotesUptoCardSaid : Prop := Claim7.holds Tryd.pinned (.plain (OpenSpec.upto letterQuotesSpec)) letterQuotesUptoCard

/-- THE SECOND FORM's CARD OF 'cobweblaw01.LetterBack'. -/
def letterBackUptoCard : Claim7 := { stood := { row := letterBackUptoRow, standIns := [], harness := (true, "c7bbd90163630947fd625aa2dc10f1d8dd9d7c65480d539aa1c50a7a2d19ab7f"), looks := true }, kinds := [], alts := [], laidByText := true, laidKinds := [.data, .pinned], laidTests := true, laidLooks := .later }
def LetterBackUptoCardSaid : Prop := Claim7.holds Tryd.pinned (.plain (OpenSpec.upto letterBackSpec)) letterBackUptoCard

/-- THE SECOND FORM's CARD OF 'cobweblaw01.LetterCompares'. -/
def letterComparesUptoCard : Claim7 := { stood := { row := letterComparesUptoRow, standIns := [], harness := (true, "c7bbd90163630947fd625aa2dc10f1d8dd9d7c65480d539aa1c50a7a2d19ab7f"), looks := true }, kinds := [], alts := [], laidByText := true, laidKinds := [.data, .pinned], laidTests := true, laidLooks := .later }
def LetterComparesUptoCardSaid : Prop := Claim7.holds Tryd.pinned (.plain (OpenSpec.upto letterComparesSpec)) letterComparesUptoCard

/-- THE SECOND FORM's CARD OF 'cobweblaw01.LetterStars'. -/
def letterStarsUptoCard : Claim7 := { stood := { row := letterStarsUptoRow, standIns := [], harness := (true, "c7bbd90163630947fd625aa2dc10f1d8dd9d7c65480d539aa1c50a7a2d19ab7f"), looks := true }, kinds := [], alts := [], laidByText := true, laidKinds := [.data, .pinned], laidTests := true, laidLooks := .later }
def LetterStarsUptoCardSaid : Prop := Claim7.holds Tryd.pinned (.plain (OpenSpec.upto letterStarsSpec)) letterStarsUptoCard

/-- THE SECOND FORM's CARD OF 'cobweblaw01.LetterHeads'. -/
def letterHeadsUptoCard : Claim7 := { stood := { row := letterHeadsUptoRow, standIns := [], harness := (true, "c7bbd90163630947fd625aa2dc10f1d8dd9d7c65480d539aa1c50a7a2d19ab7f"), looks := true }, kinds := [], alts := [], laidByText := true, laidKinds := [.data, .pinned], laidTests := true, laidLooks := .later }
def LetterHeadsUptoCardSaid : Prop := Claim7.holds Tryd.pinned (.plain (OpenSpec.upto letterHeadsSpec)) letterHeadsUptoCard

/-- THE SECOND FORM's CARD OF 'cobweblaw02.ValueApart'. -/
def valueApartUptoCard : Claim7 := { stood := { row := valueApartUptoRow, standIns := [], harness := (true, "c7bbd90163630947fd625aa2dc10f1d8dd9d7c65480d539aa1c50a7a2d19ab7f"), looks := true }, kinds := [], alts := [], laidByText := true, laidKinds := [.data, .data, .data, .sentinel, .sentinel], laidTests := true, laidLooks := .later }
def ValueApartUptoCardSaid : Prop := Claim7.holds Tryd.pinned (.plain (OpenSpec.upto valueApartSpec)) valueApartUptoCard

/-- THE SECOND FORM's CARD OF 'cobweblaw02.ValueThings'. -/
def valueThingsUptoCard : Claim7 := { stood := { row := valueThingsUptoRow, standIns := [], harness := (true, "c7bbd90163630947fd625aa2dc10f1d8dd9d7c65480d539aa1c50a7a2d19ab7f"), looks := true }, kinds := [], alts := [], laidByText := true, laidKinds := [.data, .data, .data, .sentinel, .sentinel], laidTests := true, laidLooks := .later }
def ValueThingsUptoCardSaid : Prop := Claim7.holds Tryd.pinned (.plain (OpenSpec.upto valueThingsSpec)) valueThingsUptoCard

/-- THE SECOND FORM's CARD OF 'cobweblaw02.ValueCompares'. -/
def valueComparesUptoCard : Claim7 := { stood := { row := valueComparesUptoRow, standIns := [], harness := (true, "c7bbd90163630947fd625aa2dc10f1d8dd9d7c65480d539aa1c50a7a2d19ab7f"), looks := true }, kinds := [], alts := [], laidByText := true, laidKinds := [.data, .data, .data, .sentinel, .sentinel], laidTests := true, laidLooks := .later }
def ValueComparesUptoCardSaid : Prop := Claim7.holds Tryd.pinned (.plain (OpenSpec.upto valueComparesSpec)) valueComparesUptoCard

/-- THE SECOND FORM's CARD OF 'cobweblaw02.ValueOrders'. -/
def valueOrdersUptoCard : Claim7 := { stood := { row := valueOrdersUptoRow, standIns := [], harness := (true, "c7bbd90163630947fd625aa2dc10f1d8dd9d7c65480d539aa1c50a7a2d19ab7f"), looks := true }, kinds := [], alts := [], laidByText := true, laidKinds := [.data, .data, .data, .sentinel, .sentinel], laidTests := true, laidLooks := .later }
def ValueOrdersUptoCardSaid : Prop := Claim7.holds Tryd.pinned (.plain (OpenSpec.upto valueOrdersSpec)) valueOrdersUptoCard

/-- THE SECOND FORM's CARD OF 'cobweblaw02.ValueTakes'. -/
def valueTakesUptoCard : Claim7 := { stood := { row := valueTakesUptoRow, standIns := [], harness := (true, "c7bbd90163630947fd625aa2dc10f1d8dd9d7c65480d539aa1c50a7a2d19ab7f"), looks := true }, kinds := [], alts := [], laidByText := true, laidKinds := [.data, .data, .data, .sentinel, .sentinel], laidTests := true, laidLooks := .later }
def ValueTakesUptoCardSaid : Prop := Claim7.holds Tryd.pinned (.plain (OpenSpec.upto valueTakesSpec)) valueTakesUptoCard

/-- THE SECOND FORM's CARD OF 'cobweblaw02.ValueRows'. -/
def valueRowsUptoCard : Claim7 := { stood := { row := valueRowsUptoRow, standIns := [], harness := (true, "c7bbd90163630947fd625aa2dc10f1d8dd9d7c65480d539aa1c50a7a2d19ab7f"), looks := true }, kinds := [], alts := [], laidByText := true, laidKinds := [.data, .data, .data, .sentinel, .sentinel], laidTests := true, laidLooks := .later }
def ValueRowsUptoCardSaid : Prop := Claim7.holds Tryd.pinned (.plain (OpenSpec.upto valueRowsSpec)) valueRowsUptoCard

/-- THE SECOND FORM's CARD OF 'cobweblaw23.AskApart'. -/
def askApartUptoCard : Claim7 := { stood := { row := askApartUptoRow, standIns := [], harness := (true, "c7bbd90163630947fd625aa2dc10f1d8dd9d7c65480d539aa1c50a7a2d19ab7f"), looks := true }, kinds := [], alts := [], laidByText := true, laidKinds := [.data, .data, .data, .data, .sentinel, .sentinel, .pinned], laidTests := true, laidLooks := .later }
def AskApartUptoCardSaid : Prop := Claim7.holds Tryd.pinned (.plain (OpenSpec.upto askApartSpec)) askApartUptoCard
end Rows
end Go.Proofs.YtocjidlbjmghdaaDoor
