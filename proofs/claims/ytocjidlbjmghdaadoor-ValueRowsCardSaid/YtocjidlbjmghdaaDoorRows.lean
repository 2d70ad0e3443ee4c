/-
  NARROWER THAN 'FOR EVERY INPUT', by the rows' own cells (each row's printed sentence says how): LetterNames: laid · LetterFits: laid · LetterFolds: laid · LetterCuts: laid · LetterQuotes: laid · LetterBack: laid · LetterCompares: laid · LetterStars: laid · LetterHeads: laid · ValueApart: laid · ValueThings: laid · ValueCompares: laid · ValueOrders: laid · ValueTakes: laid · ValueRows: laid · AskApart: laid.
  DERIVED. THE GIVEN ROWS OF THIS SEAT. 16 by the template 'for every input the law returns true; each argument reads behind the call as it read before'; 0 by the template 'total and deterministic' (their statements: YtocjidlbjmghdaaDoorTotals.lean).
  GIVEN WITH THE SEED: the statements are not yours to turn. If you find one false, say at which input.
  Laid BY PROGRAM, IN A SANDBOX (cutbox-rows.mjs): the forced cells as the released guide's own fill.sh prints them over the translation 31de0da2ba1c26a7… (all of the seat's roots in one cut). By AI agents, Wed Nov 11 2026. No macro, syntax, notation, axiom, sorry.
-/
import Derived.Test.YtocjidlbjmghdaaDoorChecked
import GoSem.PinnedTables
import GoSem.Claim
import GoSem.ClaimJoined
import GoSem.ClaimMapViews
import Derived.JoinedTies
import Derived.KernelRfl
namespace Go.Proofs.YtocjidlbjmghdaaDoor
/- THE CELL 'sum', in the pinned program and in every row, IS THE sha256 OF THE DUMP (.gsa) THAT YtocjidlbjmghdaaDoorProg.lean LOADS. Nothing in Lean hashes anything: it is a label: what it is worth is what the hold of that sum in a sandbox is worth. -/
noncomputable def Tryd.pinned : Pinned := { name := "ytocjidlbjmghdaadoor", sum := "31de0da2ba1c26a778c2e553d8bc74e6861e6bcbec48f1140a21b8104e73eec2", checked := Tryd.checked }
namespace Rows
def none {H : Type} : Left H := { results := [], args := [] }

/- WHAT THE LISTED PACKAGE-LEVEL VARIABLES READ AS WHEN THE CALL BEGINS. Each datum BY PROGRAM (the guide's laid-datum.mjs) off the statement by which the dump's own 'gosem.cut.vars' lays the variable. In a bare row this is a premise. The card (YtocjidlbjmghdaaDoorCards.lean) ties it to the program's text. -/
def laid_unicode_utf8_acceptRanges {H : Type} : DataW H := .agg [.agg [.lit (.int .u8 128), .lit (.int .u8 191)], .agg [.lit (.int .u8 160), .lit (.int .u8 191)], .agg [.lit (.int .u8 128), .lit (.int .u8 159)], .agg [.lit (.int .u8 144), .lit (.int .u8 191)], .agg [.lit (.int .u8 128), .lit (.int .u8 143)], .agg [.lit (.int .u8 0), .lit (.int .u8 0)], .agg [.lit (.int .u8 0), .lit (.int .u8 0)], .agg [.lit (.int .u8 0), .lit (.int .u8 0)], .agg [.lit (.int .u8 0), .lit (.int .u8 0)], .agg [.lit (.int .u8 0), .lit (.int .u8 0)], .agg [.lit (.int .u8 0), .lit (.int .u8 0)], .agg [.lit (.int .u8 0), .lit (.int .u8 0)], .agg [.lit (.int .u8 0), .lit (.int .u8 0)], .agg [.lit (.int .u8 0), .lit (.int .u8 0)], .agg [.lit (.int .u8 0), .lit (.int .u8 0)], .agg [.lit (.int .u8 0), .lit (.int .u8 0)]]
/-- One of Go's own tables, pinned by name: the form's constant. -/
def laid_unicode_utf8_first : DataW Unit := Go.Pinned.utf8First
def laid_math_bits_deBruijn32tab {H : Type} : DataW H := .agg [.lit (.int .u8 0), .lit (.int .u8 1), .lit (.int .u8 28), .lit (.int .u8 2), .lit (.int .u8 29), .lit (.int .u8 14), .lit (.int .u8 24), .lit (.int .u8 3), .lit (.int .u8 30), .lit (.int .u8 22), .lit (.int .u8 20), .lit (.int .u8 15), .lit (.int .u8 25), .lit (.int .u8 17), .lit (.int .u8 4), .lit (.int .u8 8), .lit (.int .u8 31), .lit (.int .u8 27), .lit (.int .u8 13), .lit (.int .u8 23), .lit (.int .u8 21), .lit (.int .u8 19), .lit (.int .u8 16), .lit (.int .u8 7), .lit (.int .u8 26), .lit (.int .u8 12), .lit (.int .u8 18), .lit (.int .u8 6), .lit (.int .u8 11), .lit (.int .u8 5), .lit (.int .u8 10), .lit (.int .u8 9)]
def laid_math_bits_deBruijn64tab {H : Type} : DataW H := .agg [.lit (.int .u8 0), .lit (.int .u8 1), .lit (.int .u8 56), .lit (.int .u8 2), .lit (.int .u8 57), .lit (.int .u8 49), .lit (.int .u8 28), .lit (.int .u8 3), .lit (.int .u8 61), .lit (.int .u8 58), .lit (.int .u8 42), .lit (.int .u8 50), .lit (.int .u8 38), .lit (.int .u8 29), .lit (.int .u8 17), .lit (.int .u8 4), .lit (.int .u8 62), .lit (.int .u8 47), .lit (.int .u8 59), .lit (.int .u8 36), .lit (.int .u8 45), .lit (.int .u8 43), .lit (.int .u8 51), .lit (.int .u8 22), .lit (.int .u8 53), .lit (.int .u8 39), .lit (.int .u8 33), .lit (.int .u8 30), .lit (.int .u8 24), .lit (.int .u8 18), .lit (.int .u8 12), .lit (.int .u8 5), .lit (.int .u8 63), .lit (.int .u8 55), .lit (.int .u8 48), .lit (.int .u8 27), .lit (.int .u8 60), .lit (.int .u8 41), .lit (.int .u8 37), .lit (.int .u8 16), .lit (.int .u8 46), .lit (.int .u8 35), .lit (.int .u8 44), .lit (.int .u8 21), .lit (.int .u8 52), .lit (.int .u8 32), .lit (.int .u8 23), .lit (.int .u8 11), .lit (.int .u8 54), .lit (.int .u8 26), .lit (.int .u8 40), .lit (.int .u8 15), .lit (.int .u8 34), .lit (.int .u8 20), .lit (.int .u8 31), .lit (.int .u8 10), .lit (.int .u8 25), .lit (.int .u8 14), .lit (.int .u8 19), .lit (.int .u8 9), .lit (.int .u8 13), .lit (.int .u8 8), .lit (.int .u8 7), .lit (.int .u8 6)]
def laid_internal_strconv_uint64pow10 {H : Type} : DataW H := .agg [.lit (.int .u64 1), .lit (.int .u64 10), .lit (.int .u64 100), .lit (.int .u64 1000), .lit (.int .u64 10000), .lit (.int .u64 100000), .lit (.int .u64 1000000), .lit (.int .u64 10000000), .lit (.int .u64 100000000), .lit (.int .u64 1000000000), .lit (.int .u64 10000000000), .lit (.int .u64 100000000000), .lit (.int .u64 1000000000000), .lit (.int .u64 10000000000000), .lit (.int .u64 100000000000000), .lit (.int .u64 1000000000000000), .lit (.int .u64 10000000000000000), .lit (.int .u64 100000000000000000), .lit (.int .u64 1000000000000000000), .lit (.int .u64 10000000000000000000)]
def laid_strconv_ErrRange {H : Type} : DataW H := .iface "*errors.errorString" (.ptr (.agg [.lit (.string [118, 97, 108, 117, 101, 32, 111, 117, 116, 32, 111, 102, 32, 114, 97, 110, 103, 101])]))
def laid_strconv_ErrSyntax {H : Type} : DataW H := .iface "*errors.errorString" (.ptr (.agg [.lit (.string [105, 110, 118, 97, 108, 105, 100, 32, 115, 121, 110, 116, 97, 120])]))

/-- 'cobweblaw01.LetterNames': WHATEVER THE INPUT: true; the input reads as it did. -/
def letterNamesSpec : ChangeSpec := { name := "letterNames", fn := fun _ => fun
  | [d] => { results := [.lit (.bool true)], args := [d] }
  | _ => none }
def letterNamesRow : OpenClaim := { program := "ytocjidlbjmghdaadoor", sum := "31de0da2ba1c26a778c2e553d8bc74e6861e6bcbec48f1140a21b8104e73eec2", func := "cobweb/cobweblaw01.LetterNames", spec := "letterNames", inPlace := ["internal/abi.NoEscape", "internal/bytealg.MakeNoZero"], unfollowed := true, recurses := true, named := ["unicode/utf8.first", "unicode/utf8.acceptRanges"], apart := false, laid := [("unicode/utf8.acceptRanges", laid_unicode_utf8_acceptRanges), ("unicode/utf8.first", laid_unicode_utf8_first)] }
def LetterNamesSaid : Prop := letterNamesRow.holds Tryd.pinned (OpenSpec.ofChange letterNamesSpec)

/-- ITS FALSE NEIGHBOUR: 'it returns false'. Refute it at one input. -/
def letterNamesWrong : ChangeSpec := { name := "letterNames", fn := fun _ => fun
  | [d] => { results := [.lit (.bool false)], args := [d] }
  | _ => none }
def LetterNamesWrongFalsely : Prop := letterNamesRow.holds Tryd.pinned (OpenSpec.ofChange letterNamesWrong)

/-- 'cobweblaw01.LetterFits': WHATEVER THE INPUT: true; the input reads as it did. -/
def letterFitsSpec : ChangeSpec := { name := "letterFits", fn := fun _ => fun
  | [d1, d2] => { results := [.lit (.bool true)], args := [d1, d2] }
  | _ => none }
def letterFitsRow : OpenClaim := { program := "ytocjidlbjmghdaadoor", sum := "31de0da2ba1c26a778c2e553d8bc74e6861e6bcbec48f1140a21b8104e73eec2", func := "cobweb/cobweblaw01.LetterFits", spec := "letterFits", inPlace := ["internal/abi.NoEscape", "internal/bytealg.MakeNoZero"], unfollowed := true, recurses := true, named := ["unicode/utf8.first", "unicode/utf8.acceptRanges"], apart := false, laid := [("unicode/utf8.acceptRanges", laid_unicode_utf8_acceptRanges), ("unicode/utf8.first", laid_unicode_utf8_first)] }
def LetterFitsSaid : Prop := letterFitsRow.holds Tryd.pinned (OpenSpec.ofChange letterFitsSpec)

/-- ITS FALSE NEIGHBOUR: 'it returns false'. Refute it at one input. -/
def letterFitsWrong : ChangeSpec := { name := "letterFits", fn := fun _ => fun
  | [d1, d2] => { results := [.lit (.bool false)], args := [d1, d2] }
  | _ => none }
def LetterFitsWrongFalsely : Prop := letterFitsRow.holds Tryd.pinned (OpenSpec.ofChange letterFitsWrong)

/-- 'cobweblaw01.LetterFolds': WHATEVER THE INPUT: true; the input reads as it did. -/
def letterFoldsSpec : ChangeSpec := { name := "letterFolds", fn := fun _ => fun
  | [d1, d2] => { results := [.lit (.bool true)], args := [d1, d2] }
  | _ => none }
def letterFoldsRow : OpenClaim := { program := "ytocjidlbjmghdaadoor", sum := "31de0da2ba1c26a778c2e553d8bc74e6861e6bcbec48f1140a21b8104e73eec2", func := "cobweb/cobweblaw01.LetterFolds", spec := "letterFolds", inPlace := ["internal/abi.NoEscape", "internal/bytealg.MakeNoZero"], unfollowed := true, recurses := true, named := ["unicode/utf8.first", "unicode/utf8.acceptRanges"], apart := false, laid := [("unicode/utf8.acceptRanges", laid_unicode_utf8_acceptRanges), ("unicode/utf8.first", laid_unicode_utf8_first)] }
def LetterFoldsSaid : Prop := letterFoldsRow.holds Tryd.pinned (OpenSpec.ofChange letterFoldsSpec)

/-- ITS FALSE NEIGHBOUR: 'it returns false'. Refute it at one input. -/
def letterFoldsWrong : ChangeSpec := { name := "letterFolds", fn := fun _ => fun
  | [d1, d2] => { results := [.lit (.bool false)], args := [d1, d2] }
  | _ => none }
def LetterFoldsWrongFalsely : Prop := letterFoldsRow.holds Tryd.pinned (OpenSpec.ofChange letterFoldsWrong)

/-- 'cobweblaw01.LetterCuts': WHATEVER THE INPUT: true; the input reads as it did. -/
def letterCutsSpec : ChangeSpec := { name := "letterCuts", fn := fun _ => fun
  | [d1, d2, d3] => { results := [.lit (.bool true)], args := [d1, d2, d3] }
  | _ => none }
def letterCutsRow : OpenClaim := { program := "ytocjidlbjmghdaadoor", sum := "31de0da2ba1c26a778c2e553d8bc74e6861e6bcbec48f1140a21b8104e73eec2", func := "cobweb/cobweblaw01.LetterCuts", spec := "letterCuts", inPlace := ["internal/abi.NoEscape", "internal/bytealg.MakeNoZero"], unfollowed := true, recurses := true, named := ["unicode/utf8.first", "unicode/utf8.acceptRanges"], apart := false, laid := [("unicode/utf8.acceptRanges", laid_unicode_utf8_acceptRanges), ("unicode/utf8.first", laid_unicode_utf8_first)] }
def LetterCutsSaid : Prop := letterCutsRow.holds Tryd.pinned (OpenSpec.ofChange letterCutsSpec)

/-- ITS FALSE NEIGHBOUR: 'it returns false'. Refute it at one input. -/
def letterCutsWrong : ChangeSpec := { name := "letterCuts", fn := fun _ => fun
  | [d1, d2, d3] => { results := [.lit (.bool false)], args := [d1, d2, d3] }
  | _ => none }
def LetterCutsWrongFalsely : Prop := letterCutsRow.holds Tryd.pinned (OpenSpec.ofChange letterCutsWrong)

/-- 'cobweblaw01.LetterQuotes': WHATEVER THE INPUT: true; the input reads as it did. -/
def letterQuotesSpec : ChangeSpec := { name := "letterQuotes", fn := fun _ => fun
  | [d] => { results := [.lit (.bool true)], args := [d] }
  | _ => none }
def letterQuotesRow : OpenClaim := { program := "ytocjidlbjmghdaadoor", sum := "31de0da2ba1c26a778c2e553d8bc74e6861e6bcbec48f1140a21b8104e73eec2", func := "cobweb/cobweblaw01.LetterQuotes", spec := "letterQuotes", inPlace := ["internal/abi.NoEscape", "internal/bytealg.MakeNoZero"], unfollowed := true, recurses := true, named := ["unicode/utf8.first", "unicode/utf8.acceptRanges"], apart := false, laid := [("unicode/utf8.acceptRanges", laid_unicode_utf8_acceptRanges), ("unicode/utf8.first", laid_unicode_utf8_first)] }
def LetterQuotesSaid : Prop := letterQuotesRow.holds Tryd.pinned (OpenSpec.ofChange letterQuotesSpec)

/-- ITS FALSE NEIGHBOUR: 'it returns false'. Refute it at one input. -/
def letterQuotesWrong : ChangeSpec := { name := "letterQuotes", fn := fun _ => fun
  | [d] => { results := [.lit (.bool false)], args := [d] }
  | _ => none }
def LetterQuotesWrongFalsely : Prop := letterQuotesRow.holds Tryd.pinned (OpenSpec.ofChange letterQuotesWrong)

/-- 'cobweblaw01.LetterBack': WHATEVER THE INPUT: true; the input reads as it did. -/
def letterBackSpec : ChangeSpec := { name := "letterBack", fn := fun _ => fun
  | [d1, d2] => { results := [.lit (.bool true)], args := [d1, d2] }
  | _ => none }
def letterBackRow : OpenClaim := { program := "ytocjidlbjmghdaadoor", sum := "31de0da2ba1c26a778c2e553d8bc74e6861e6bcbec48f1140a21b8104e73eec2", func := "cobweb/cobweblaw01.LetterBack", spec := "letterBack", inPlace := ["internal/abi.NoEscape", "internal/bytealg.MakeNoZero"], unfollowed := true, recurses := true, named := ["unicode/utf8.first", "unicode/utf8.acceptRanges"], apart := false, laid := [("unicode/utf8.acceptRanges", laid_unicode_utf8_acceptRanges), ("unicode/utf8.first", laid_unicode_utf8_first)] }
def LetterBackSaid : Prop := letterBackRow.holds Tryd.pinned (OpenSpec.ofChange letterBackSpec)

/-- ITS FALSE NEIGHBOUR: 'it returns false'. Refute it at one input. -/
def letterBackWrong : ChangeSpec := { name := "letterBack", fn := fun _ => fun
  | [d1, d2] => { results := [.lit (.bool false)], args := [d1, d2] }
  | _ => none }
def LetterBackWrongFalsely : Prop := letterBackRow.holds Tryd.pinned (OpenSpec.ofChange letterBackWrong)

/-- 'cobweblaw01.LetterCompares': WHATEVER THE INPUT: true; the input reads as it did. -/
def letterComparesSpec : ChangeSpec := { name := "letterCompares", fn := fun _ => fun
  | [d1, d2, d3] => { results := [.lit (.bool true)], args := [d1, d2, d3] }
  | _ => none }
def letterComparesRow : OpenClaim := { program := "ytocjidlbjmghdaadoor", sum := "31de0da2ba1c26a778c2e553d8bc74e6861e6bcbec48f1140a21b8104e73eec2", func := "cobweb/cobweblaw01.LetterCompares", spec := "letterCompares", inPlace := ["internal/abi.NoEscape", "internal/bytealg.MakeNoZero"], unfollowed := true, recurses := true, named := ["unicode/utf8.first", "unicode/utf8.acceptRanges"], apart := false, laid := [("unicode/utf8.acceptRanges", laid_unicode_utf8_acceptRanges), ("unicode/utf8.first", laid_unicode_utf8_first)] }
def LetterComparesSaid : Prop := letterComparesRow.holds Tryd.pinned (OpenSpec.ofChange letterComparesSpec)

/-- ITS FALSE NEIGHBOUR: 'it returns false'. Refute it at one input. -/
def letterComparesWrong : ChangeSpec := { name := "letterCompares", fn := fun _ => fun
  | [d1, d2, d3] => { results := [.lit (.bool false)], args := [d1, d2, d3] }
  | _ => none }
def LetterComparesWrongFalsely : Prop := letterComparesRow.holds Tryd.pinned (OpenSpec.ofChange letterComparesWrong)

/-- 'cobweblaw01.LetterStars': WHATEVER THE INPUT: true; the input reads as it did. -/
def letterStarsSpec : ChangeSpec := { name := "letterStars", fn := fun _ => fun
  | [d1, d2, d3] => { results := [.lit (.bool true)], args := [d1, d2, d3] }
  | _ => none }
def letterStarsRow : OpenClaim := { program := "ytocjidlbjmghdaadoor", sum := "31de0da2ba1c26a778c2e553d8bc74e6861e6bcbec48f1140a21b8104e73eec2", func := "cobweb/cobweblaw01.LetterStars", spec := "letterStars", inPlace := ["internal/abi.NoEscape", "internal/bytealg.MakeNoZero"], unfollowed := true, recurses := true, named := ["unicode/utf8.first", "unicode/utf8.acceptRanges"], apart := false, laid := [("unicode/utf8.acceptRanges", laid_unicode_utf8_acceptRanges), ("unicode/utf8.first", laid_unicode_utf8_first)] }
def LetterStarsSaid : Prop := letterStarsRow.holds Tryd.pinned (OpenSpec.ofChange letterStarsSpec)

/-- ITS FALSE NEIGHBOUR: 'it returns false'. Refute it at one input. -/
def letterStarsWrong : ChangeSpec := { name := "letterStars", fn := fun _ => fun
  | [d1, d2, d3] => { results := [.lit (.bool false)], args := [d1, d2, d3] }
  | _ => none }
def LetterStarsWrongFalsely : Prop := letterStarsRow.holds Tryd.pinned (OpenSpec.ofChange letterStarsWrong)

/-- 'cobweblaw01.LetterHeads': WHATEVER THE INPUT: true; the input reads as it did. -/
def letterHeadsSpec : ChangeSpec := { name := "letterHeads", fn := fun _ => fun
  | [d1, d2, d3] => { results := [.lit (.bool true)], args := [d1, d2, d3] }
  | _ => none }
def letterHeadsRow : OpenClaim := { program := "ytocjidlbjmghdaadoor", sum := "31de0da2ba1c26a778c2e553d8bc74e6861e6bcbec48f1140a21b8104e73eec2", func := "cobweb/cobweblaw01.LetterHeads", spec := "letterHeads", inPlace := ["internal/abi.NoEscape", "internal/bytealg.MakeNoZero"], unfollowed := true, recurses := true, named := ["unicode/utf8.first", "unicode/utf8.acceptRanges"], apart := false, laid := [("unicode/utf8.acceptRanges", laid_unicode_utf8_acceptRanges), ("unicode/utf8.first", laid_unicode_utf8_first)] }
def LetterHeadsSaid : Prop := letterHeadsRow.holds Tryd.pinned (OpenSpec.ofChange letterHeadsSpec)

/-- ITS FALSE NEIGHBOUR: 'it returns false'. Refute it at one input. -/
def letterHeadsWrong : ChangeSpec := { name := "letterHeads", fn := fun _ => fun
  | [d1, d2, d3] => { results := [.lit (.bool false)], args := [d1, d2, d3] }
  | _ => none }
def LetterHeadsWrongFalsely : Prop := letterHeadsRow.holds Tryd.pinned (OpenSpec.ofChange letterHeadsWrong)

/-- 'cobweblaw02.ValueApart': WHATEVER THE INPUT: true; the input reads as it did. -/
def valueApartSpec : ChangeSpec := { name := "valueApart", fn := fun _ => fun
  | [d1, d2] => { results := [.lit (.bool true)], args := [d1, d2] }
  | _ => none }
def valueApartRow : OpenClaim := { program := "ytocjidlbjmghdaadoor", sum := "31de0da2ba1c26a778c2e553d8bc74e6861e6bcbec48f1140a21b8104e73eec2", func := "cobweb/cobweblaw02.ValueApart", spec := "valueApart", inPlace := ["internal/abi.NoEscape"], named := ["strconv.ErrSyntax", "strconv.ErrRange", "internal/strconv.uint64pow10", "math/bits.deBruijn32tab", "math/bits.deBruijn64tab"], apart := false, laid := [("math/bits.deBruijn32tab", laid_math_bits_deBruijn32tab), ("math/bits.deBruijn64tab", laid_math_bits_deBruijn64tab), ("internal/strconv.uint64pow10", laid_internal_strconv_uint64pow10), ("strconv.ErrRange", laid_strconv_ErrRange), ("strconv.ErrSyntax", laid_strconv_ErrSyntax)] }
def ValueApartSaid : Prop := valueApartRow.holds Tryd.pinned (OpenSpec.ofChange valueApartSpec)

/-- ITS FALSE NEIGHBOUR: 'it returns false'. Refute it at one input. -/
def valueApartWrong : ChangeSpec := { name := "valueApart", fn := fun _ => fun
  | [d1, d2] => { results := [.lit (.bool false)], args := [d1, d2] }
  | _ => none }
def ValueApartWrongFalsely : Prop := valueApartRow.holds Tryd.pinned (OpenSpec.ofChange valueApartWrong)

/-- 'cobweblaw02.ValueThings': WHATEVER THE INPUT: true; the input reads as it did. -/
def valueThingsSpec : ChangeSpec := { name := "valueThings", fn := fun _ => fun
  | [d1, d2] => { results := [.lit (.bool true)], args := [d1, d2] }
  | _ => none }
def valueThingsRow : OpenClaim := { program := "ytocjidlbjmghdaadoor", sum := "31de0da2ba1c26a778c2e553d8bc74e6861e6bcbec48f1140a21b8104e73eec2", func := "cobweb/cobweblaw02.ValueThings", spec := "valueThings", inPlace := ["internal/abi.NoEscape"], unfollowed := true, recurses := true, named := ["strconv.ErrSyntax", "strconv.ErrRange", "internal/strconv.uint64pow10", "math/bits.deBruijn32tab", "math/bits.deBruijn64tab"], apart := false, laid := [("math/bits.deBruijn32tab", laid_math_bits_deBruijn32tab), ("math/bits.deBruijn64tab", laid_math_bits_deBruijn64tab), ("internal/strconv.uint64pow10", laid_internal_strconv_uint64pow10), ("strconv.ErrRange", laid_strconv_ErrRange), ("strconv.ErrSyntax", laid_strconv_ErrSyntax)] }
def ValueThingsSaid : Prop := valueThingsRow.holds Tryd.pinned (OpenSpec.ofChange valueThingsSpec)

/-- ITS FALSE NEIGHBOUR: 'it returns false'. Refute it at one input. -/
def valueThingsWrong : ChangeSpec := { name := "valueThings", fn := fun _ => fun
  | [d1, d2] => { results := [.lit (.bool false)], args := [d1, d2] }
  | _ => none }
def ValueThingsWrongFalsely : Prop := valueThingsRow.holds Tryd.pinned (OpenSpec.ofChange valueThingsWrong)

/-- 'cobweblaw02.ValueCompares': WHATEVER THE INPUT: true; the input reads as it did. -/
def valueComparesSpec : ChangeSpec := { name := "valueCompares", fn := fun _ => fun
  | [d1, d2, d3] => { results := [.lit (.bool true)], args := [d1, d2, d3] }
  | _ => none }
def valueComparesRow : OpenClaim := { program := "ytocjidlbjmghdaadoor", sum := "31de0da2ba1c26a778c2e553d8bc74e6861e6bcbec48f1140a21b8104e73eec2", func := "cobweb/cobweblaw02.ValueCompares", spec := "valueCompares", inPlace := ["internal/abi.NoEscape", "internal/bytealg.abigen_runtime_cmpstring"], named := ["strconv.ErrSyntax", "strconv.ErrRange", "internal/strconv.uint64pow10", "math/bits.deBruijn32tab", "math/bits.deBruijn64tab"], apart := false, laid := [("math/bits.deBruijn32tab", laid_math_bits_deBruijn32tab), ("math/bits.deBruijn64tab", laid_math_bits_deBruijn64tab), ("internal/strconv.uint64pow10", laid_internal_strconv_uint64pow10), ("strconv.ErrRange", laid_strconv_ErrRange), ("strconv.ErrSyntax", laid_strconv_ErrSyntax)] }
def ValueComparesSaid : Prop := valueComparesRow.holds Tryd.pinned (OpenSpec.ofChange valueComparesSpec)

/-- ITS FALSE NEIGHBOUR: 'it returns false'. Refute it at one input. -/
def valueComparesWrong : ChangeSpec := { name := "valueCompares", fn := fun _ => fun
  | [d1, d2, d3] => { results := [.lit (.bool false)], args := [d1, d2, d3] }
  | _ => none }
def ValueComparesWrongFalsely : Prop := valueComparesRow.holds Tryd.pinned (OpenSpec.ofChange valueComparesWrong)

/-- 'cobweblaw02.ValueOrders': WHATEVER THE INPUT: true; the input reads as it did. -/
def valueOrdersSpec : ChangeSpec := { name := "valueOrders", fn := fun _ => fun
  | [d1, d2, d3] => { results := [.lit (.bool true)], args := [d1, d2, d3] }
  | _ => none }
def valueOrdersRow : OpenClaim := { program := "ytocjidlbjmghdaadoor", sum := "31de0da2ba1c26a778c2e553d8bc74e6861e6bcbec48f1140a21b8104e73eec2", func := "cobweb/cobweblaw02.ValueOrders", spec := "valueOrders", inPlace := ["internal/abi.NoEscape", "internal/bytealg.abigen_runtime_cmpstring"], named := ["strconv.ErrSyntax", "strconv.ErrRange", "internal/strconv.uint64pow10", "math/bits.deBruijn32tab", "math/bits.deBruijn64tab"], apart := false, laid := [("math/bits.deBruijn32tab", laid_math_bits_deBruijn32tab), ("math/bits.deBruijn64tab", laid_math_bits_deBruijn64tab), ("internal/strconv.uint64pow10", laid_internal_strconv_uint64pow10), ("strconv.ErrRange", laid_strconv_ErrRange), ("strconv.ErrSyntax", laid_strconv_ErrSyntax)] }
def ValueOrdersSaid : Prop := valueOrdersRow.holds Tryd.pinned (OpenSpec.ofChange valueOrdersSpec)

/-- ITS FALSE NEIGHBOUR: 'it returns false'. Refute it at one input. -/
def valueOrdersWrong : ChangeSpec := { name := "valueOrders", fn := fun _ => fun
  | [d1, d2, d3] => { results := [.lit (.bool false)], args := [d1, d2, d3] }
  | _ => none }
def ValueOrdersWrongFalsely : Prop := valueOrdersRow.holds Tryd.pinned (OpenSpec.ofChange valueOrdersWrong)

/-- 'cobweblaw02.ValueTakes': WHATEVER THE INPUT: true; the input reads as it did. -/
def valueTakesSpec : ChangeSpec := { name := "valueTakes", fn := fun _ => fun
  | [d1, d2] => { results := [.lit (.bool true)], args := [d1, d2] }
  | _ => none }
def valueTakesRow : OpenClaim := { program := "ytocjidlbjmghdaadoor", sum := "31de0da2ba1c26a778c2e553d8bc74e6861e6bcbec48f1140a21b8104e73eec2", func := "cobweb/cobweblaw02.ValueTakes", spec := "valueTakes", inPlace := ["internal/abi.NoEscape"], named := ["strconv.ErrSyntax", "strconv.ErrRange", "internal/strconv.uint64pow10", "math/bits.deBruijn32tab", "math/bits.deBruijn64tab"], apart := false, laid := [("math/bits.deBruijn32tab", laid_math_bits_deBruijn32tab), ("math/bits.deBruijn64tab", laid_math_bits_deBruijn64tab), ("internal/strconv.uint64pow10", laid_internal_strconv_uint64pow10), ("strconv.ErrRange", laid_strconv_ErrRange), ("strconv.ErrSyntax", laid_strconv_ErrSyntax)] }
def ValueTakesSaid : Prop := valueTakesRow.holds Tryd.pinned (OpenSpec.ofChange valueTakesSpec)

/-- ITS FALSE NEIGHBOUR: 'it returns false'. Refute it at one input. -/
def valueTakesWrong : ChangeSpec := { name := "valueTakes", fn := fun _ => fun
  | [d1, d2] => { results := [.lit (.bool false)], args := [d1, d2] }
  | _ => none }
def ValueTakesWrongFalsely : Prop := valueTakesRow.holds Tryd.pinned (OpenSpec.ofChange valueTakesWrong)

/-- 'cobweblaw02.ValueRows': WHATEVER THE INPUT: true; the input reads as it did. -/
def valueRowsSpec : ChangeSpec := { name := "valueRows", fn := fun _ => fun
  | [d] => { results := [.lit (.bool true)], args := [d] }
  | _ => none }
def valueRowsRow : OpenClaim := { program := "ytocjidlbjmghdaadoor", sum := "31de0da2ba1c26a778c2e553d8bc74e6861e6bcbec48f1140a21b8104e73eec2", func := "cobweb/cobweblaw02.ValueRows", spec := "valueRows", inPlace := ["internal/abi.NoEscape"], named := ["strconv.ErrSyntax", "strconv.ErrRange", "internal/strconv.uint64pow10", "math/bits.deBruijn32tab", "math/bits.deBruijn64tab"], apart := false, laid := [("math/bits.deBruijn32tab", laid_math_bits_deBruijn32tab), ("math/bits.deBruijn64tab", laid_math_bits_deBruijn64tab), ("internal/strconv.uint64pow10", laid_internal_strconv_uint64pow10), ("strconv.ErrRange", laid_strconv_ErrRange), ("strconv.ErrSyntax", laid_strconv_ErrSyntax)] }
def ValueRowsSaid : Prop := valueRowsRow.holds Tryd.pinned (OpenSpec.ofChange valueRowsSpec)

/-- ITS FALSE NEIGHBOUR: 'it returns false'. Refute it at one input. -/
def valueRowsWrong : ChangeSpec := { name := "valueRows", fn := fun _ => fun
  | [d] => { results := [.lit (.bool false)], args := [d] }
  | _ => none }
def ValueRowsWrongFalsely : Prop := valueRowsRow.holds Tryd.pinned (OpenSpec.ofChange valueRowsWrong)

/-- 'cobweblaw23.AskApart': WHATEVER THE INPUT: true; the input reads as it did. -/
def askApartSpec : ChangeSpec := { name := "askApart", fn := fun _ => fun
  | [d1, d2] => { results := [.lit (.bool true)], args := [d1, d2] }
  | _ => none }
def askApartRow : OpenClaim := { program := "ytocjidlbjmghdaadoor", sum := "31de0da2ba1c26a778c2e553d8bc74e6861e6bcbec48f1140a21b8104e73eec2", func := "cobweb/cobweblaw23.AskApart", spec := "askApart", inPlace := ["internal/abi.NoEscape", "internal/bytealg.MakeNoZero"], unfollowed := true, recurses := true, named := ["strconv.ErrSyntax", "strconv.ErrRange", "internal/strconv.uint64pow10", "math/bits.deBruijn32tab", "math/bits.deBruijn64tab", "unicode/utf8.first", "unicode/utf8.acceptRanges"], apart := false, laid := [("math/bits.deBruijn32tab", laid_math_bits_deBruijn32tab), ("math/bits.deBruijn64tab", laid_math_bits_deBruijn64tab), ("internal/strconv.uint64pow10", laid_internal_strconv_uint64pow10), ("unicode/utf8.acceptRanges", laid_unicode_utf8_acceptRanges), ("strconv.ErrRange", laid_strconv_ErrRange), ("strconv.ErrSyntax", laid_strconv_ErrSyntax), ("unicode/utf8.first", laid_unicode_utf8_first)] }
def AskApartSaid : Prop := askApartRow.holds Tryd.pinned (OpenSpec.ofChange askApartSpec)

/-- ITS FALSE NEIGHBOUR: 'it returns false'. Refute it at one input. -/
def askApartWrong : ChangeSpec := { name := "askApart", fn := fun _ => fun
  | [d1, d2] => { results := [.lit (.bool false)], args := [d1, d2] }
  | _ => none }
def AskApartWrongFalsely : Prop := askApartRow.holds Tryd.pinned (OpenSpec.ofChange askApartWrong)

/- THE SECOND FORM. 'bulk': how many values and letters a reading holds, each counted each time it is reached (what is shared counts as often as it is met; a slice's spare places count too). A statement '..UptoSaid' is the law's where the arguments, and the package variables that the reading takes, are together of bulk at most 1048576: NARROWER than '..Said'. Prove '..Said' where nothing that the law and all that it calls make is longer than what came in: it says more and counts as full. Else prove '..UptoSaid'. A law counts once. -/
mutual
def uptoBulk {H : Type} : DataW H → Nat
  | .lit (.string bytes) => bytes.length + 1
  | .lit _ => 1
  | .nil => 1
  | .ptr d => uptoBulk d + 1
  | .slice elems spare => uptoBulkAll elems + uptoBulkAll spare + 1
  | .agg parts => uptoBulkAll parts + 1
  | .iface _ d => uptoBulk d + 1
  | .map entries => uptoBulkEntries entries + 1
  | .held _ => 1
def uptoBulkAll {H : Type} : List (DataW H) → Nat
  | [] => 0
  | d :: r => uptoBulk d + uptoBulkAll r
def uptoBulkEntries {H : Type} : List (Lit × DataW H) → Nat
  | [] => 0
  | x :: r => uptoBulkEntry x + uptoBulkEntries r
def uptoBulkEntry {H : Type} : Lit × DataW H → Nat
  | (.string bytes, d) => bytes.length + uptoBulk d + 1
  | (_, d) => uptoBulk d + 1
 end
def uptoSmall : (H : Type) → List (DataW H) → Bool := fun _ ds => decide (uptoBulkAll ds ≤ 1048576)
def OpenSpec.upto (s : _root_.Go.ChangeSpec) : _root_.Go.OpenSpec := { _root_.Go.OpenSpec.ofChange s with cond := some uptoSmall }

/-- 'cobweblaw01.LetterNames', WHERE WHAT IT READS IS OF BULK AT MOST 1048576: true; the input reads as it did. -/
def letterNamesUptoRow : OpenClaim := { program := "ytocjidlbjmghdaadoor", sum := "31de0da2ba1c26a778c2e553d8bc74e6861e6bcbec48f1140a21b8104e73eec2", func := "cobweb/cobweblaw01.LetterNames", spec := "letterNames", inPlace := ["internal/abi.NoEscape", "internal/bytealg.MakeNoZero"], unfollowed := true, recurses := true, named := ["unicode/utf8.first", "unicode/utf8.acceptRanges"], apart := false, laid := [("unicode/utf8.acceptRanges", laid_unicode_utf8_acceptRanges), ("unicode/utf8.first", laid_unicode_utf8_first)], narrowed := true }
def LetterNamesUptoSaid : Prop := letterNamesUptoRow.holds Tryd.pinned (OpenSpec.upto letterNamesSpec)

/-- 'cobweblaw01.LetterFits', WHERE WHAT IT READS IS OF BULK AT MOST 1048576: true; the input reads as it did. -/
def letterFitsUptoRow : OpenClaim := { program := "ytocjidlbjmghdaadoor", sum := "31de0da2ba1c26a778c2e553d8bc74e6861e6bcbec48f1140a21b8104e73eec2", func := "cobweb/cobweblaw01.LetterFits", spec := "letterFits", inPlace := ["internal/abi.NoEscape", "internal/bytealg.MakeNoZero"], unfollowed := true, recurses := true, named := ["unicode/utf8.first", "unicode/utf8.acceptRanges"], apart := false, laid := [("unicode/utf8.acceptRanges", laid_unicode_utf8_acceptRanges), ("unicode/utf8.first", laid_unicode_utf8_first)], narrowed := true }
def LetterFitsUptoSaid : Prop := letterFitsUptoRow.holds Tryd.pinned (OpenSpec.upto letterFitsSpec)

/-- 'cobweblaw01.LetterFolds', WHERE WHAT IT READS IS OF BULK AT MOST 1048576: true; the input reads as it did. -/
def letterFoldsUptoRow : OpenClaim := { program := "ytocjidlbjmghdaadoor", sum := "31de0da2ba1c26a778c2e553d8bc74e6861e6bcbec48f1140a21b8104e73eec2", func := "cobweb/cobweblaw01.LetterFolds", spec := "letterFolds", inPlace := ["internal/abi.NoEscape", "internal/bytealg.MakeNoZero"], unfollowed := true, recurses := true, named := ["unicode/utf8.first", "unicode/utf8.acceptRanges"], apart := false, laid := [("unicode/utf8.acceptRanges", laid_unicode_utf8_acceptRanges), ("unicode/utf8.first", laid_unicode_utf8_first)], narrowed := true }
def LetterFoldsUptoSaid : Prop := letterFoldsUptoRow.holds Tryd.pinned (OpenSpec.upto letterFoldsSpec)

/-- 'cobweblaw01.LetterCuts', WHERE WHAT IT READS IS OF BULK AT MOST 1048576: true; the input reads as it did. -/
def letterCutsUptoRow : OpenClaim := { program := "ytocjidlbjmghdaadoor", sum := "31de0da2ba1c26a778c2e553d8bc74e6861e6bcbec48f1140a21b8104e73eec2", func := "cobweb/cobweblaw01.LetterCuts", spec := "letterCuts", inPlace := ["internal/abi.NoEscape", "internal/bytealg.MakeNoZero"], unfollowed := true, recurses := true, named := ["unicode/utf8.first", "unicode/utf8.acceptRanges"], apart := false, laid := [("unicode/utf8.acceptRanges", laid_unicode_utf8_acceptRanges), ("unicode/utf8.first", laid_unicode_utf8_first)], narrowed := true }
def LetterCutsUptoSaid : Prop := letterCutsUptoRow.holds Tryd.pinned (OpenSpec.upto letterCutsSpec)

/-- 'cobweblaw01.LetterQuotes', WHERE WHAT IT READS IS OF BULK AT MOST 1048576: true; the input reads as it did. -/
def letterQuotesUptoRow : OpenClaim := { program := "ytocjidlbjmghdaadoor", sum := "31de0da2ba1c26a778c2e553d8bc74e6861e6bcbec48f1140a21b8104e73eec2", func := "cobweb/cobweblaw01.LetterQuotes", spec := "letterQuotes", inPlace := ["internal/abi.NoEscape", "internal/bytealg.MakeNoZero"], unfollowed := true, recurses := true, named := ["unicode/utf8.first", "unicode/utf8.acceptRanges"], apart := false, laid := [("unicode/utf8.acceptRanges", laid_unicode_utf8_acceptRanges), ("unicode/utf8.first", laid_unicode_utf8_first)], narrowed := true }
def LetterQuotesUptoSaid : Prop := letterQuotesUptoRow.holds Tryd.pinned (OpenSpec.upto letterQuotesSpec)

/-- 'cobweblaw01.LetterBack', WHERE WHAT IT READS IS OF BULK AT MOST 1048576: true; the input reads as it did. -/
def letterBackUptoRow : OpenClaim := { program := "ytocjidlbjmghdaadoor", sum := "31de0da2ba1c26a778c2e553d8bc74e6861e6bcbec48f1140a21b8104e73eec2", func := "cobweb/cobweblaw01.LetterBack", spec := "letterBack", inPlace := ["internal/abi.NoEscape", "internal/bytealg.MakeNoZero"], unfollowed := true, recurses := true, named := ["unicode/utf8.first", "unicode/utf8.acceptRanges"], apart := false, laid := [("unicode/utf8.acceptRanges", laid_unicode_utf8_acceptRanges), ("unicode/utf8.first", laid_unicode_utf8_first)], narrowed := true }
def LetterBackUptoSaid : Prop := letterBackUptoRow.holds Tryd.pinned (OpenSpec.upto letterBackSpec)

/-- 'cobweblaw01.LetterCompares', WHERE WHAT IT READS IS OF BULK AT MOST 1048576: true; the input reads as it did. -/
def letterComparesUptoRow : OpenClaim := { program := "ytocjidlbjmghdaadoor", sum := "31de0da2ba1c26a778c2e553d8bc74e6861e6bcbec48f1140a21b8104e73eec2", func := "cobweb/cobweblaw01.LetterCompares", spec := "letterCompares", inPlace := ["internal/abi.NoEscape", "internal/bytealg.MakeNoZero"], unfollowed := true, recurses := true, named := ["unicode/utf8.first", "unicode/utf8.acceptRanges"], apart := false, laid := [("unicode/utf8.acceptRanges", laid_unicode_utf8_acceptRanges), ("unicode/utf8.first", laid_unicode_utf8_first)], narrowed := true }
def LetterComparesUptoSaid : Prop := letterComparesUptoRow.holds Tryd.pinned (OpenSpec.upto letterComparesSpec)

/-- 'cobweblaw01.LetterStars', WHERE WHAT IT READS IS OF BULK AT MOST 1048576: true; the input reads as it did. -/
def letterStarsUptoRow : OpenClaim := { program := "ytocjidlbjmghdaadoor", sum := "31de0da2ba1c26a778c2e553d8bc74e6861e6bcbec48f1140a21b8104e73eec2", func := "cobweb/cobweblaw01.LetterStars", spec := "letterStars", inPlace := ["internal/abi.NoEscape", "internal/bytealg.MakeNoZero"], unfollowed := true, recurses := true, named := ["unicode/utf8.first", "unicode/utf8.acceptRanges"], apart := false, laid := [("unicode/utf8.acceptRanges", laid_unicode_utf8_acceptRanges), ("unicode/utf8.first", laid_unicode_utf8_first)], narrowed := true }
def LetterStarsUptoSaid : Prop := letterStarsUptoRow.holds Tryd.pinned (OpenSpec.upto letterStarsSpec)

/-- 'cobweblaw01.LetterHeads', WHERE WHAT IT READS IS OF BULK AT MOST 1048576: true; the input reads as it did. -/
def letterHeadsUptoRow : OpenClaim := { program := "ytocjidlbjmghdaadoor", sum := "31de0da2ba1c26a778c2e553d8bc74e6861e6bcbec48f1140a21b8104e73eec2", func := "cobweb/cobweblaw01.LetterHeads", spec := "letterHeads", inPlace := ["internal/abi.NoEscape", "internal/bytealg.MakeNoZero"], unfollowed := true, recurses := true, named := ["unicode/utf8.first", "unicode/utf8.acceptRanges"], apart := false, laid := [("unicode/utf8.acceptRanges", laid_unicode_utf8_acceptRanges), ("unicode/utf8.first", laid_unicode_utf8_first)], narrowed := true }
def LetterHeadsUptoSaid : Prop := letterHeadsUptoRow.holds Tryd.pinned (OpenSpec.upto letterHeadsSpec)

/-- 'cobweblaw02.ValueApart', WHERE WHAT IT READS IS OF BULK AT MOST 1048576: true; the input reads as it did. -/
def valueApartUptoRow : OpenClaim := { program := "ytocjidlbjmghdaadoor", sum := "31de0da2ba1c26a778c2e553d8bc74e6861e6bcbec48f1140a21b8104e73eec2", func := "cobweb/cobweblaw02.ValueApart", spec := "valueApart", inPlace := ["internal/abi.NoEscape"], named := ["strconv.ErrSyntax", "strconv.ErrRange", "internal/strconv.uint64pow10", "math/bits.deBruijn32tab", "math/bits.deBruijn64tab"], apart := false, laid := [("math/bits.deBruijn32tab", laid_math_bits_deBruijn32tab), ("math/bits.deBruijn64tab", laid_math_bits_deBruijn64tab), ("internal/strconv.uint64pow10", laid_internal_strconv_uint64pow10), ("strconv.ErrRange", laid_strconv_ErrRange), ("strconv.ErrSyntax", laid_strconv_ErrSyntax)], narrowed := true }
def ValueApartUptoSaid : Prop := valueApartUptoRow.holds Tryd.pinned (OpenSpec.upto valueApartSpec)

/-- 'cobweblaw02.ValueThings', WHERE WHAT IT READS IS OF BULK AT MOST 1048576: true; the input reads as it did. -/
def valueThingsUptoRow : OpenClaim := { program := "ytocjidlbjmghdaadoor", sum := "31de0da2ba1c26a778c2e553d8bc74e6861e6bcbec48f1140a21b8104e73eec2", func := "cobweb/cobweblaw02.ValueThings", spec := "valueThings", inPlace := ["internal/abi.NoEscape"], unfollowed := true, recurses := true, named := ["strconv.ErrSyntax", "strconv.ErrRange", "internal/strconv.uint64pow10", "math/bits.deBruijn32tab", "math/bits.deBruijn64tab"], apart := false, laid := [("math/bits.deBruijn32tab", laid_math_bits_deBruijn32tab), ("math/bits.deBruijn64tab", laid_math_bits_deBruijn64tab), ("internal/strconv.uint64pow10", laid_internal_strconv_uint64pow10), ("strconv.ErrRange", laid_strconv_ErrRange), ("strconv.ErrSyntax", laid_strconv_ErrSyntax)], narrowed := true }
def ValueThingsUptoSaid : Prop := valueThingsUptoRow.holds Tryd.pinned (OpenSpec.upto valueThingsSpec)

/-- 'cobweblaw02.ValueCompares', WHERE WHAT IT READS IS OF BULK AT MOST 1048576: true; the input reads as it did. -/
def valueComparesUptoRow : OpenClaim := { program := "ytocjidlbjmghdaadoor", sum := "31de0da2ba1c26a778c2e553d8bc74e6861e6bcbec48f1140a21b8104e73eec2", func := "cobweb/cobweblaw02.ValueCompares", spec := "valueCompares", inPlace := ["internal/abi.NoEscape", "internal/bytealg.abigen_runtime_cmpstring"], named := ["strconv.ErrSyntax", "strconv.ErrRange", "internal/strconv.uint64pow10", "math/bits.deBruijn32tab", "math/bits.deBruijn64tab"], apart := false, laid := [("math/bits.deBruijn32tab", laid_math_bits_deBruijn32tab), ("math/bits.deBruijn64tab", laid_math_bits_deBruijn64tab), ("internal/strconv.uint64pow10", laid_internal_strconv_uint64pow10), ("strconv.ErrRange", laid_strconv_ErrRange), ("strconv.ErrSyntax", laid_strconv_ErrSyntax)], narrowed := true }
def ValueComparesUptoSaid : Prop := valueComparesUptoRow.holds Tryd.pinned (OpenSpec.upto valueComparesSpec)

/-- 'cobweblaw02.ValueOrders', WHERE WHAT IT READS IS OF BULK AT MOST 1048576: true; the input reads as it did. -/
def valueOrdersUptoRow : OpenClaim := { program := "ytocjidlbjmghdaadoor", sum := "31de0da2ba1c26a778c2e553d8bc74e6861e6bcbec48f1140a21b8104e73eec2", func := "cobweb/cobweblaw02.ValueOrders", spec := "valueOrders", inPlace := ["internal/abi.NoEscape", "internal/bytealg.abigen_runtime_cmpstring"], named := ["strconv.ErrSyntax", "strconv.ErrRange", "internal/strconv.uint64pow10", "math/bits.deBruijn32tab", "math/bits.deBruijn64tab"], apart := false, laid := [("math/bits.deBruijn32tab", laid_math_bits_deBruijn32tab), ("math/bits.deBruijn64tab", laid_math_bits_deBruijn64tab), ("internal/strconv.uint64pow10", laid_internal_strconv_uint64pow10), ("strconv.ErrRange", laid_strconv_ErrRange), ("strconv.ErrSyntax", laid_strconv_ErrSyntax)], narrowed := true }
def ValueOrdersUptoSaid : Prop := valueOrdersUptoRow.holds Tryd.pinned (OpenSpec.upto valueOrdersSpec)

/-- 'cobweblaw02.ValueTakes', WHERE WHAT IT READS IS OF BULK AT MOST 1048576: true; the input reads as it did. -/
def valueTakesUptoRow : OpenClaim := { program := "ytocjidlbjmghdaadoor", sum := "31de0da2ba1c26a778c2e553d8bc74e6861e6bcbec48f1140a21b8104e73eec2", func := "cobweb/cobweblaw02.ValueTakes", spec := "valueTakes", inPlace := ["internal/abi.NoEscape"], named := ["strconv.ErrSyntax", "strconv.ErrRange", "internal/strconv.uint64pow10", "math/bits.deBruijn32tab", "math/bits.deBruijn64tab"], apart := false, laid := [("math/bits.deBruijn32tab", laid_math_bits_deBruijn32tab), ("math/bits.deBruijn64tab", laid_math_bits_deBruijn64tab), ("internal/strconv.uint64pow10", laid_internal_strconv_uint64pow10), ("strconv.ErrRange", laid_strconv_ErrRange), ("strconv.ErrSyntax", laid_strconv_ErrSyntax)], narrowed := true }
def ValueTakesUptoSaid : Prop := valueTakesUptoRow.holds Tryd.pinned (OpenSpec.upto valueTakesSpec)

/-- 'cobweblaw02.ValueRows', WHERE WHAT IT READS IS OF BULK AT MOST 1048576: true; the input reads as it did. -/
def valueRowsUptoRow : OpenClaim := { program := "ytocjidlbjmghdaadoor", sum := "31de0da2ba1c26a778c2e553d8bc74e6861e6bcbec48f1140a21b8104e73eec2", func := "cobweb/cobweblaw02.ValueRows", spec := "valueRows", inPlace := ["internal/abi.NoEscape"], named := ["strconv.ErrSyntax", "strconv.ErrRange", "internal/strconv.uint64pow10", "math/bits.deBruijn32tab", "math/bits.deBruijn64tab"], apart := false, laid := [("math/bits.deBruijn32tab", laid_math_bits_deBruijn32tab), ("math/bits.deBruijn64tab", laid_math_bits_deBruijn64tab), ("internal/strconv.uint64pow10", laid_internal_strconv_uint64pow10), ("strconv.ErrRange", laid_strconv_ErrRange), ("strconv.ErrSyntax", laid_strconv_ErrSyntax)], narrowed := true }
def ValueRowsUptoSaid : Prop := valueRowsUptoRow.holds Tryd.pinned (OpenSpec.upto valueRowsSpec)

/-- 'cobweblaw23.AskApart', WHERE WHAT IT READS IS OF BULK AT MOST 1048576: true; the input reads as it did. -/
def askApartUptoRow : OpenClaim := { program := "ytocjidlbjmghdaadoor", sum := "31de0da2ba1c26a778c2e553d8bc74e6861e6bcbec48f1140a21b8104e73eec2", func := "cobweb/cobweblaw23.AskApart", spec := "askApart", inPlace := ["internal/abi.NoEscape", "internal/bytealg.MakeNoZero"], unfollowed := true, recurses := true, named := ["strconv.ErrSyntax", "strconv.ErrRange", "internal/strconv.uint64pow10", "math/bits.deBruijn32tab", "math/bits.deBruijn64tab", "unicode/utf8.first", "unicode/utf8.acceptRanges"], apart := false, laid := [("math/bits.deBruijn32tab", laid_math_bits_deBruijn32tab), ("math/bits.deBruijn64tab", laid_math_bits_deBruijn64tab), ("internal/strconv.uint64pow10", laid_internal_strconv_uint64pow10), ("unicode/utf8.acceptRanges", laid_unicode_utf8_acceptRanges), ("strconv.ErrRange", laid_strconv_ErrRange), ("strconv.ErrSyntax", laid_strconv_ErrSyntax), ("unicode/utf8.first", laid_unicode_utf8_first)], narrowed := true }
def AskApartUptoSaid : Prop := askApartUptoRow.holds Tryd.pinned (OpenSpec.upto askApartSpec)

end Rows
end Go.Proofs.YtocjidlbjmghdaaDoor
