/-
  No cell of these rows narrows 'for every input' (looked for: loops, veiled, ifaces, maps, wideKeys, modest, calm, conditions, laid).
  DERIVED. THE GIVEN ROWS OF THIS SEAT. 6 by the template 'for every input the law returns true; each argument reads behind the call as it read before'; 0 by the template 'total and deterministic' (their statements: YtfllmnaillilhaaTotals.lean).
  GIVEN WITH THE SEED: the statements are not yours to turn. If you find one false, say at which input.
  Laid BY PROGRAM, IN A SANDBOX (cutbox-rows.mjs): the forced cells as the released guide's own fill.sh prints them over the translation 0b710c0566e5efc4… (all of the seat's roots in one cut). By AI agents, Wed Nov 11 2026. No macro, syntax, notation, axiom, sorry.
-/
import Derived.Test.YtfllmnaillilhaaChecked
import GoSem.Claim
import GoSem.ClaimJoined
import GoSem.ClaimMapViews
import Derived.JoinedTies
import Derived.KernelRfl
namespace Go.Proofs.Ytfllmnaillilhaa
/- THE CELL 'sum', in the pinned program and in every row, IS THE sha256 OF THE DUMP (.gsa) THAT YtfllmnaillilhaaProg.lean LOADS. Nothing in Lean hashes anything: it is a label: what it is worth is what the hold of that sum in a sandbox is worth. -/
noncomputable def Try.pinned : Pinned := { name := "ytfllmnaillilhaa", sum := "0b710c0566e5efc40509e3dd1fe0a96afd1552c405933fc9e345f7c85d6dd5b8", checked := Try.checked }
namespace Rows
def none {H : Type} : Left H := { results := [], args := [] }

/-- 'confluentlaw18.SystemRows': WHATEVER THE INPUT: true; the input reads as it did. -/
def systemRowsSpec : ChangeSpec := { name := "systemRows", fn := fun _ => fun
  | [d1, d2] => { results := [.lit (.bool true)], args := [d1, d2] }
  | _ => none }
def systemRowsRow : OpenClaim := { program := "ytfllmnaillilhaa", sum := "0b710c0566e5efc40509e3dd1fe0a96afd1552c405933fc9e345f7c85d6dd5b8", func := "confluent/confluentlaw18.SystemRows", spec := "systemRows", unfollowed := true, recurses := true, apart := false }
def SystemRowsSaid : Prop := systemRowsRow.holds Try.pinned (OpenSpec.ofChange systemRowsSpec)

/-- ITS FALSE NEIGHBOUR: 'it returns false'. Refute it at one input. -/
def systemRowsWrong : ChangeSpec := { name := "systemRows", fn := fun _ => fun
  | [d1, d2] => { results := [.lit (.bool false)], args := [d1, d2] }
  | _ => none }
def SystemRowsWrongFalsely : Prop := systemRowsRow.holds Try.pinned (OpenSpec.ofChange systemRowsWrong)

/-- 'confluentlaw18.SystemCounts': WHATEVER THE INPUT: true; the input reads as it did. -/
def systemCountsSpec : ChangeSpec := { name := "systemCounts", fn := fun _ => fun
  | [d] => { results := [.lit (.bool true)], args := [d] }
  | _ => none }
def systemCountsRow : OpenClaim := { program := "ytfllmnaillilhaa", sum := "0b710c0566e5efc40509e3dd1fe0a96afd1552c405933fc9e345f7c85d6dd5b8", func := "confluent/confluentlaw18.SystemCounts", spec := "systemCounts", unfollowed := true, recurses := true, apart := false }
def SystemCountsSaid : Prop := systemCountsRow.holds Try.pinned (OpenSpec.ofChange systemCountsSpec)

/-- ITS FALSE NEIGHBOUR: 'it returns false'. Refute it at one input. -/
def systemCountsWrong : ChangeSpec := { name := "systemCounts", fn := fun _ => fun
  | [d] => { results := [.lit (.bool false)], args := [d] }
  | _ => none }
def SystemCountsWrongFalsely : Prop := systemCountsRow.holds Try.pinned (OpenSpec.ofChange systemCountsWrong)

/-- 'confluentlaw18.SystemKeeps': WHATEVER THE INPUT: true; the input reads as it did. -/
def systemKeepsSpec : ChangeSpec := { name := "systemKeeps", fn := fun _ => fun
  | [d] => { results := [.lit (.bool true)], args := [d] }
  | _ => none }
def systemKeepsRow : OpenClaim := { program := "ytfllmnaillilhaa", sum := "0b710c0566e5efc40509e3dd1fe0a96afd1552c405933fc9e345f7c85d6dd5b8", func := "confluent/confluentlaw18.SystemKeeps", spec := "systemKeeps", unfollowed := true, recurses := true, apart := false }
def SystemKeepsSaid : Prop := systemKeepsRow.holds Try.pinned (OpenSpec.ofChange systemKeepsSpec)

/-- ITS FALSE NEIGHBOUR: 'it returns false'. Refute it at one input. -/
def systemKeepsWrong : ChangeSpec := { name := "systemKeeps", fn := fun _ => fun
  | [d] => { results := [.lit (.bool false)], args := [d] }
  | _ => none }
def SystemKeepsWrongFalsely : Prop := systemKeepsRow.holds Try.pinned (OpenSpec.ofChange systemKeepsWrong)

/-- 'confluentlaw18.SystemCases': WHATEVER THE INPUT: true; the input reads as it did. -/
def systemCasesSpec : ChangeSpec := { name := "systemCases", fn := fun _ => fun
  | [d] => { results := [.lit (.bool true)], args := [d] }
  | _ => none }
def systemCasesRow : OpenClaim := { program := "ytfllmnaillilhaa", sum := "0b710c0566e5efc40509e3dd1fe0a96afd1552c405933fc9e345f7c85d6dd5b8", func := "confluent/confluentlaw18.SystemCases", spec := "systemCases", unfollowed := true, recurses := true, apart := false }
def SystemCasesSaid : Prop := systemCasesRow.holds Try.pinned (OpenSpec.ofChange systemCasesSpec)

/-- ITS FALSE NEIGHBOUR: 'it returns false'. Refute it at one input. -/
def systemCasesWrong : ChangeSpec := { name := "systemCases", fn := fun _ => fun
  | [d] => { results := [.lit (.bool false)], args := [d] }
  | _ => none }
def SystemCasesWrongFalsely : Prop := systemCasesRow.holds Try.pinned (OpenSpec.ofChange systemCasesWrong)

/-- 'confluentlaw18.SystemSplits': WHATEVER THE INPUT: true; the input reads as it did. -/
def systemSplitsSpec : ChangeSpec := { name := "systemSplits", fn := fun _ => fun
  | [d1, d2, d3] => { results := [.lit (.bool true)], args := [d1, d2, d3] }
  | _ => none }
def systemSplitsRow : OpenClaim := { program := "ytfllmnaillilhaa", sum := "0b710c0566e5efc40509e3dd1fe0a96afd1552c405933fc9e345f7c85d6dd5b8", func := "confluent/confluentlaw18.SystemSplits", spec := "systemSplits", unfollowed := true, recurses := true, apart := false }
def SystemSplitsSaid : Prop := systemSplitsRow.holds Try.pinned (OpenSpec.ofChange systemSplitsSpec)

/-- ITS FALSE NEIGHBOUR: 'it returns false'. Refute it at one input. -/
def systemSplitsWrong : ChangeSpec := { name := "systemSplits", fn := fun _ => fun
  | [d1, d2, d3] => { results := [.lit (.bool false)], args := [d1, d2, d3] }
  | _ => none }
def SystemSplitsWrongFalsely : Prop := systemSplitsRow.holds Try.pinned (OpenSpec.ofChange systemSplitsWrong)

/-- 'confluentlaw18.SystemParts': WHATEVER THE INPUT: true; the input reads as it did. -/
def systemPartsSpec : ChangeSpec := { name := "systemParts", fn := fun _ => fun
  | [d1, d2, d3, d4] => { results := [.lit (.bool true)], args := [d1, d2, d3, d4] }
  | _ => none }
def systemPartsRow : OpenClaim := { program := "ytfllmnaillilhaa", sum := "0b710c0566e5efc40509e3dd1fe0a96afd1552c405933fc9e345f7c85d6dd5b8", func := "confluent/confluentlaw18.SystemParts", spec := "systemParts", unfollowed := true, recurses := true, apart := false }
def SystemPartsSaid : Prop := systemPartsRow.holds Try.pinned (OpenSpec.ofChange systemPartsSpec)

/-- ITS FALSE NEIGHBOUR: 'it returns false'. Refute it at one input. -/
def systemPartsWrong : ChangeSpec := { name := "systemParts", fn := fun _ => fun
  | [d1, d2, d3, d4] => { results := [.lit (.bool false)], args := [d1, d2, d3, d4] }
  | _ => none }
def SystemPartsWrongFalsely : Prop := systemPartsRow.holds Try.pinned (OpenSpec.ofChange systemPartsWrong)

/- THE SECOND FORM. 'bulk': how many values and letters a reading holds, each counted each time it is reached (what is shared counts as often as it is met; a slice's spare places count too). A statement '..UptoSaid' is the law's where the arguments, and the package variables that the reading takes, are together of bulk at most 1048576: NARROWER than '..Said'. Prove '..Said' where nothing that the law and all that it calls make is longer than what came in: it says more and counts as full. Else prove '..UptoSaid'. A law counts once. -/
mutual
def uptoBulk {H : Type} : DataW H → Nat
  | .lit (.string bytes) => bytes.length + 1
  | .lit _ => 1
  | .nil => 1
  | .ptr d => uptoBulk d + 1
  | .slice elems spare => uptoBulkAll elems + uptoBulkAll spare + 1
  | .agg parts => uptoBulkAll parts + 1
  | .iface _ d => uptoBulk d + 1
  | .map entries => uptoBulkEntries entries + 1
  | .held _ => 1
def uptoBulkAll {H : Type} : List (DataW H) → Nat
  | [] => 0
  | d :: r => uptoBulk d + uptoBulkAll r
def uptoBulkEntries {H : Type} : List (Lit × DataW H) → Nat
  | [] => 0
  | x :: r => uptoBulkEntry x + uptoBulkEntries r
def uptoBulkEntry {H : Type} : Lit × DataW H → Nat
  | (.string bytes, d) => bytes.length + uptoBulk d + 1
  | (_, d) => uptoBulk d + 1
 end
def uptoSmall : (H : Type) → List (DataW H) → Bool := fun _ ds => decide (uptoBulkAll ds ≤ 1048576)
def OpenSpec.upto (s : _root_.Go.ChangeSpec) : _root_.Go.OpenSpec := { _root_.Go.OpenSpec.ofChange s with cond := some uptoSmall }

/-- 'confluentlaw18.SystemRows', WHERE WHAT IT READS IS OF BULK AT MOST 1048576: true; the input reads as it did. -/
def systemRowsUptoRow : OpenClaim := { program := "ytfllmnaillilhaa", sum := "0b710c0566e5efc40509e3dd1fe0a96afd1552c405933fc9e345f7c85d6dd5b8", func := "confluent/confluentlaw18.SystemRows", spec := "systemRows", unfollowed := true, recurses := true, apart := false, narrowed := true }
def SystemRowsUptoSaid : Prop := systemRowsUptoRow.holds Try.pinned (OpenSpec.upto systemRowsSpec)

/-- 'confluentlaw18.SystemCounts', WHERE WHAT IT READS IS OF BULK AT MOST 1048576: true; the input reads as it did. -/
def systemCountsUptoRow : OpenClaim := { program := "ytfllmnaillilhaa", sum := "0b710c0566e5efc40509e3dd1fe0a96afd1552c405933fc9e345f7c85d6dd5b8", func := "confluent/confluentlaw18.SystemCounts", spec := "systemCounts", unfollowed := true, recurses := true, apart := false, narrowed := true }
def SystemCountsUptoSaid : Prop := systemCountsUptoRow.holds Try.pinned (OpenSpec.upto systemCountsSpec)

/-- 'confluentlaw18.SystemKeeps', WHERE WHAT IT READS IS OF BULK AT MOST 1048576: true; the input reads as it did. -/
def systemKeepsUptoRow : OpenClaim := { program := "ytfllmnaillilhaa", sum := "0b710c0566e5efc40509e3dd1fe0a96afd1552c405933fc9e345f7c85d6dd5b8", func := "confluent/confluentlaw18.SystemKeeps", spec := "systemKeeps", unfollowed := true, recurses := true, apart := false, narrowed := true }
def SystemKeepsUptoSaid : Prop := systemKeepsUptoRow.holds Try.pinned (OpenSpec.upto systemKeepsSpec)

/-- 'confluentlaw18.SystemCases', WHERE WHAT IT READS IS OF BULK AT MOST 1048576: true; the input reads as it did. -/
def systemCasesUptoRow : OpenClaim := { program := "ytfllmnaillilhaa", sum := "0b710c0566e5efc40509e3dd1fe0a96afd1552c405933fc9e345f7c85d6dd5b8", func := "confluent/confluentlaw18.SystemCases", spec := "systemCases", unfollowed := true, recurses := true, apart := false, narrowed := true }
def SystemCasesUptoSaid : Prop := systemCasesUptoRow.holds Try.pinned (OpenSpec.upto systemCasesSpec)

/-- 'confluentlaw18.SystemSplits', WHERE WHAT IT READS IS OF BULK AT MOST 1048576: true; the input reads as it did. -/
def systemSplitsUptoRow : OpenClaim := { program := "ytfllmnaillilhaa", sum := "0b710c0566e5efc40509e3dd1fe0a96afd1552c405933fc9e345f7c85d6dd5b8", func := "confluent/confluentlaw18.SystemSplits", spec := "systemSplits", unfollowed := true, recurses := true, apart := false, narrowed := true }
def SystemSplitsUptoSaid : Prop := systemSplitsUptoRow.holds Try.pinned (OpenSpec.upto systemSplitsSpec)

/-- 'confluentlaw18.SystemParts', WHERE WHAT IT READS IS OF BULK AT MOST 1048576: true; the input reads as it did. -/
def systemPartsUptoRow : OpenClaim := { program := "ytfllmnaillilhaa", sum := "0b710c0566e5efc40509e3dd1fe0a96afd1552c405933fc9e345f7c85d6dd5b8", func := "confluent/confluentlaw18.SystemParts", spec := "systemParts", unfollowed := true, recurses := true, apart := false, narrowed := true }
def SystemPartsUptoSaid : Prop := systemPartsUptoRow.holds Try.pinned (OpenSpec.upto systemPartsSpec)

end Rows
end Go.Proofs.Ytfllmnaillilhaa
