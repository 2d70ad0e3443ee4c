/-
  No cell of these rows narrows 'for every input' (looked for: loops, veiled, ifaces, maps, wideKeys, modest, calm, conditions, laid).
  DERIVED. THE GIVEN ROWS OF THIS SEAT. 3 by the template 'for every input the law returns true; each argument reads behind the call as it read before'; 0 by the template 'total and deterministic' (their statements: YtjphmbflggeciaaTotals.lean).
  GIVEN WITH THE SEED: the statements are not yours to turn. If you find one false, say at which input.
  Laid BY PROGRAM, IN A SANDBOX (cutbox-rows.mjs): the forced cells as the released guide's own fill.sh prints them over the translation 4763eac6ed84d995… (all of the seat's roots in one cut). By AI agents, Wed Nov 11 2026. No macro, syntax, notation, axiom, sorry.
-/
import Derived.Test.YtjphmbflggeciaaChecked
import GoSem.Claim
import GoSem.ClaimJoined
import GoSem.ClaimMapViews
import Derived.JoinedTies
import Derived.KernelRfl
namespace Go.Proofs.Ytjphmbflggeciaa
/- THE CELL 'sum', in the pinned program and in every row, IS THE sha256 OF THE DUMP (.gsa) THAT YtjphmbflggeciaaProg.lean LOADS. Nothing in Lean hashes anything: it is a label: what it is worth is what the hold of that sum in a sandbox is worth. -/
noncomputable def Try.pinned : Pinned := { name := "ytjphmbflggeciaa", sum := "4763eac6ed84d995c791c7e433871351bf7ee6acc3b17579066acfab8b16899d", checked := Try.checked }
namespace Rows
def none {H : Type} : Left H := { results := [], args := [] }

/-- 'cobweblaw06.EpochWaits': WHATEVER THE INPUT: true; the input reads as it did. -/
def epochWaitsSpec : ChangeSpec := { name := "epochWaits", fn := fun _ => fun
  | [d1, d2] => { results := [.lit (.bool true)], args := [d1, d2] }
  | _ => none }
def epochWaitsRow : OpenClaim := { program := "ytjphmbflggeciaa", sum := "4763eac6ed84d995c791c7e433871351bf7ee6acc3b17579066acfab8b16899d", func := "cobweb/cobweblaw06.EpochWaits", spec := "epochWaits", unfollowed := true, recurses := true, apart := false }
def EpochWaitsSaid : Prop := epochWaitsRow.holds Try.pinned (OpenSpec.ofChange epochWaitsSpec)

/-- ITS FALSE NEIGHBOUR: 'it returns false'. Refute it at one input. -/
def epochWaitsWrong : ChangeSpec := { name := "epochWaits", fn := fun _ => fun
  | [d1, d2] => { results := [.lit (.bool false)], args := [d1, d2] }
  | _ => none }
def EpochWaitsWrongFalsely : Prop := epochWaitsRow.holds Try.pinned (OpenSpec.ofChange epochWaitsWrong)

/-- 'cobweblaw06.EpochApart': WHATEVER THE INPUT: true; the input reads as it did. -/
def epochApartSpec : ChangeSpec := { name := "epochApart", fn := fun _ => fun
  | [d1, d2] => { results := [.lit (.bool true)], args := [d1, d2] }
  | _ => none }
def epochApartRow : OpenClaim := { program := "ytjphmbflggeciaa", sum := "4763eac6ed84d995c791c7e433871351bf7ee6acc3b17579066acfab8b16899d", func := "cobweb/cobweblaw06.EpochApart", spec := "epochApart", unfollowed := true, recurses := true, apart := false }
def EpochApartSaid : Prop := epochApartRow.holds Try.pinned (OpenSpec.ofChange epochApartSpec)

/-- ITS FALSE NEIGHBOUR: 'it returns false'. Refute it at one input. -/
def epochApartWrong : ChangeSpec := { name := "epochApart", fn := fun _ => fun
  | [d1, d2] => { results := [.lit (.bool false)], args := [d1, d2] }
  | _ => none }
def EpochApartWrongFalsely : Prop := epochApartRow.holds Try.pinned (OpenSpec.ofChange epochApartWrong)

/-- 'cobweblaw06.EpochActs': WHATEVER THE INPUT: true; the input reads as it did. -/
def epochActsSpec : ChangeSpec := { name := "epochActs", fn := fun _ => fun
  | [d1, d2, d3] => { results := [.lit (.bool true)], args := [d1, d2, d3] }
  | _ => none }
def epochActsRow : OpenClaim := { program := "ytjphmbflggeciaa", sum := "4763eac6ed84d995c791c7e433871351bf7ee6acc3b17579066acfab8b16899d", func := "cobweb/cobweblaw06.EpochActs", spec := "epochActs", unfollowed := true, recurses := true, apart := false }
def EpochActsSaid : Prop := epochActsRow.holds Try.pinned (OpenSpec.ofChange epochActsSpec)

/-- ITS FALSE NEIGHBOUR: 'it returns false'. Refute it at one input. -/
def epochActsWrong : ChangeSpec := { name := "epochActs", fn := fun _ => fun
  | [d1, d2, d3] => { results := [.lit (.bool false)], args := [d1, d2, d3] }
  | _ => none }
def EpochActsWrongFalsely : Prop := epochActsRow.holds Try.pinned (OpenSpec.ofChange epochActsWrong)

/- THE SECOND FORM. 'bulk': how many values and letters a reading holds, each counted each time it is reached (what is shared counts as often as it is met; a slice's spare places count too). A statement '..UptoSaid' is the law's where the arguments, and the package variables that the reading takes, are together of bulk at most 1048576: NARROWER than '..Said'. Prove '..Said' where nothing that the law and all that it calls make is longer than what came in: it says more and counts as full. Else prove '..UptoSaid'. A law counts once. -/
mutual
def uptoBulk {H : Type} : DataW H → Nat
  | .lit (.string bytes) => bytes.length + 1
  | .lit _ => 1
  | .nil => 1
  | .ptr d => uptoBulk d + 1
  | .slice elems spare => uptoBulkAll elems + uptoBulkAll spare + 1
  | .agg parts => uptoBulkAll parts + 1
  | .iface _ d => uptoBulk d + 1
  | .map entries => uptoBulkEntries entries + 1
  | .held _ => 1
def uptoBulkAll {H : Type} : List (DataW H) → Nat
  | [] => 0
  | d :: r => uptoBulk d + uptoBulkAll r
def uptoBulkEntries {H : Type} : List (Lit × DataW H) → Nat
  | [] => 0
  | x :: r => uptoBulkEntry x + uptoBulkEntries r
def uptoBulkEntry {H : Type} : Lit × DataW H → Nat
  | (.string bytes, d) => bytes.length + uptoBulk d + 1
  | (_, d) => uptoBulk d + 1
 end
def uptoSmall : (H : Type) → List (DataW H) → Bool := fun _ ds => decide (uptoBulkAll ds ≤ 1048576)
def OpenSpec.upto (s : _root_.Go.ChangeSpec) : _root_.Go.OpenSpec := { _root_.Go.OpenSpec.ofChange s with cond := some uptoSmall }

/-- 'cobweblaw06.EpochWaits', WHERE WHAT IT READS IS OF BULK AT MOST 1048576: true; the input reads as it did. -/
def epochWaitsUptoRow : OpenClaim := { program := "ytjphmbflggeciaa", sum := "4763eac6ed84d995c791c7e433871351bf7ee6acc3b17579066acfab8b16899d", func := "cobweb/cobweblaw06.EpochWaits", spec := "epochWaits", unfollowed := true, recurses := true, apart := false, narrowed := true }
def EpochWaitsUptoSaid : Prop := epochWaitsUptoRow.holds Try.pinned (OpenSpec.upto epochWaitsSpec)

/-- 'cobweblaw06.EpochApart', WHERE WHAT IT READS IS OF BULK AT MOST 1048576: true; the input reads as it did. -/
def epochApartUptoRow : OpenClaim := { program := "ytjphmbflggeciaa", sum := "4763eac6ed84d995c791c7e433871351bf7ee6acc3b17579066acfab8b16899d", func := "cobweb/cobweblaw06.EpochApart", spec := "epochApart", unfollowed := true, recurses := true, apart := false, narrowed := true }
def EpochApartUptoSaid : Prop := epochApartUptoRow.holds Try.pinned (OpenSpec.upto epochApartSpec)

/-- 'cobweblaw06.EpochActs', WHERE WHAT IT READS IS OF BULK AT MOST 1048576: true; the input reads as it did. -/
def epochActsUptoRow : OpenClaim := { program := "ytjphmbflggeciaa", sum := "4763eac6ed84d995c791c7e433871351bf7ee6acc3b17579066acfab8b16899d", func := "cobweb/cobweblaw06.EpochActs", spec := "epochActs", unfollowed := true, recurses := true, apart := false, narrowed := true }
def EpochActsUptoSaid : Prop := epochActsUptoRow.holds Try.pinned (OpenSpec.upto epochActsSpec)

end Rows
end Go.Proofs.Ytjphmbflggeciaa
