/-
  No cell of these rows narrows 'for every input' (looked for: loops, veiled, ifaces, maps, wideKeys, modest, calm, conditions, laid).
  DERIVED. THE GIVEN ROWS OF THIS SEAT. 7 by the template 'for every input the law returns true; each argument reads behind the call as it read before'; 0 by the template 'total and deterministic' (their statements: YtlkabhjkncklnaaTotals.lean).
  GIVEN WITH THE SEED: the statements are not yours to turn. If you find one false, say at which input.
  Laid BY PROGRAM, IN A SANDBOX (cutbox-rows.mjs): the forced cells as the released guide's own fill.sh prints them over the translation 9d5df10f31f15676… (all of the seat's roots in one cut). By AI agents, Wed Nov 11 2026. No macro, syntax, notation, axiom, sorry.
-/
import Derived.Test.YtlkabhjkncklnaaChecked
import GoSem.Claim
import GoSem.ClaimJoined
import GoSem.ClaimMapViews
import Derived.JoinedTies
import Derived.KernelRfl
namespace Go.Proofs.Ytlkabhjkncklnaa
/- THE CELL 'sum', in the pinned program and in every row, IS THE sha256 OF THE DUMP (.gsa) THAT YtlkabhjkncklnaaProg.lean LOADS. Nothing in Lean hashes anything: it is a label: what it is worth is what the hold of that sum in a sandbox is worth. -/
noncomputable def Try.pinned : Pinned := { name := "ytlkabhjkncklnaa", sum := "9d5df10f31f15676750767571274e2e8da93b4f1115fff7d90baff72c4832ce3", checked := Try.checked }
namespace Rows
def none {H : Type} : Left H := { results := [], args := [] }

/-- 'confluentlaw19.DigraphReaches': WHATEVER THE INPUT: true; the input reads as it did. -/
def digraphReachesSpec : ChangeSpec := { name := "digraphReaches", fn := fun _ => fun
  | [d1, d2, d3, d4] => { results := [.lit (.bool true)], args := [d1, d2, d3, d4] }
  | _ => none }
def digraphReachesRow : OpenClaim := { program := "ytlkabhjkncklnaa", sum := "9d5df10f31f15676750767571274e2e8da93b4f1115fff7d90baff72c4832ce3", func := "confluent/confluentlaw19.DigraphReaches", spec := "digraphReaches", unfollowed := true, recurses := true, apart := false }
def DigraphReachesSaid : Prop := digraphReachesRow.holds Try.pinned (OpenSpec.ofChange digraphReachesSpec)

/-- ITS FALSE NEIGHBOUR: 'it returns false'. Refute it at one input. -/
def digraphReachesWrong : ChangeSpec := { name := "digraphReaches", fn := fun _ => fun
  | [d1, d2, d3, d4] => { results := [.lit (.bool false)], args := [d1, d2, d3, d4] }
  | _ => none }
def DigraphReachesWrongFalsely : Prop := digraphReachesRow.holds Try.pinned (OpenSpec.ofChange digraphReachesWrong)

/-- 'confluentlaw19.DigraphCycles': WHATEVER THE INPUT: true; the input reads as it did. -/
def digraphCyclesSpec : ChangeSpec := { name := "digraphCycles", fn := fun _ => fun
  | [d1, d2] => { results := [.lit (.bool true)], args := [d1, d2] }
  | _ => none }
def digraphCyclesRow : OpenClaim := { program := "ytlkabhjkncklnaa", sum := "9d5df10f31f15676750767571274e2e8da93b4f1115fff7d90baff72c4832ce3", func := "confluent/confluentlaw19.DigraphCycles", spec := "digraphCycles", unfollowed := true, recurses := true, apart := false }
def DigraphCyclesSaid : Prop := digraphCyclesRow.holds Try.pinned (OpenSpec.ofChange digraphCyclesSpec)

/-- ITS FALSE NEIGHBOUR: 'it returns false'. Refute it at one input. -/
def digraphCyclesWrong : ChangeSpec := { name := "digraphCycles", fn := fun _ => fun
  | [d1, d2] => { results := [.lit (.bool false)], args := [d1, d2] }
  | _ => none }
def DigraphCyclesWrongFalsely : Prop := digraphCyclesRow.holds Try.pinned (OpenSpec.ofChange digraphCyclesWrong)

/-- 'confluentlaw19.DigraphForbids': WHATEVER THE INPUT: true; the input reads as it did. -/
def digraphForbidsSpec : ChangeSpec := { name := "digraphForbids", fn := fun _ => fun
  | [d1, d2, d3] => { results := [.lit (.bool true)], args := [d1, d2, d3] }
  | _ => none }
def digraphForbidsRow : OpenClaim := { program := "ytlkabhjkncklnaa", sum := "9d5df10f31f15676750767571274e2e8da93b4f1115fff7d90baff72c4832ce3", func := "confluent/confluentlaw19.DigraphForbids", spec := "digraphForbids", unfollowed := true, recurses := true, apart := false }
def DigraphForbidsSaid : Prop := digraphForbidsRow.holds Try.pinned (OpenSpec.ofChange digraphForbidsSpec)

/-- ITS FALSE NEIGHBOUR: 'it returns false'. Refute it at one input. -/
def digraphForbidsWrong : ChangeSpec := { name := "digraphForbids", fn := fun _ => fun
  | [d1, d2, d3] => { results := [.lit (.bool false)], args := [d1, d2, d3] }
  | _ => none }
def DigraphForbidsWrongFalsely : Prop := digraphForbidsRow.holds Try.pinned (OpenSpec.ofChange digraphForbidsWrong)

/-- 'confluentlaw19.DigraphPaths': WHATEVER THE INPUT: true; the input reads as it did. -/
def digraphPathsSpec : ChangeSpec := { name := "digraphPaths", fn := fun _ => fun
  | [d1, d2] => { results := [.lit (.bool true)], args := [d1, d2] }
  | _ => none }
def digraphPathsRow : OpenClaim := { program := "ytlkabhjkncklnaa", sum := "9d5df10f31f15676750767571274e2e8da93b4f1115fff7d90baff72c4832ce3", func := "confluent/confluentlaw19.DigraphPaths", spec := "digraphPaths", unfollowed := true, recurses := true, apart := false }
def DigraphPathsSaid : Prop := digraphPathsRow.holds Try.pinned (OpenSpec.ofChange digraphPathsSpec)

/-- ITS FALSE NEIGHBOUR: 'it returns false'. Refute it at one input. -/
def digraphPathsWrong : ChangeSpec := { name := "digraphPaths", fn := fun _ => fun
  | [d1, d2] => { results := [.lit (.bool false)], args := [d1, d2] }
  | _ => none }
def DigraphPathsWrongFalsely : Prop := digraphPathsRow.holds Try.pinned (OpenSpec.ofChange digraphPathsWrong)

/-- 'confluentlaw19.DigraphOrders': WHATEVER THE INPUT: true; the input reads as it did. -/
def digraphOrdersSpec : ChangeSpec := { name := "digraphOrders", fn := fun _ => fun
  | [d1, d2] => { results := [.lit (.bool true)], args := [d1, d2] }
  | _ => none }
def digraphOrdersRow : OpenClaim := { program := "ytlkabhjkncklnaa", sum := "9d5df10f31f15676750767571274e2e8da93b4f1115fff7d90baff72c4832ce3", func := "confluent/confluentlaw19.DigraphOrders", spec := "digraphOrders", unfollowed := true, recurses := true, apart := false }
def DigraphOrdersSaid : Prop := digraphOrdersRow.holds Try.pinned (OpenSpec.ofChange digraphOrdersSpec)

/-- ITS FALSE NEIGHBOUR: 'it returns false'. Refute it at one input. -/
def digraphOrdersWrong : ChangeSpec := { name := "digraphOrders", fn := fun _ => fun
  | [d1, d2] => { results := [.lit (.bool false)], args := [d1, d2] }
  | _ => none }
def DigraphOrdersWrongFalsely : Prop := digraphOrdersRow.holds Try.pinned (OpenSpec.ofChange digraphOrdersWrong)

/-- 'confluentlaw19.DigraphCloses': WHATEVER THE INPUT: true; the input reads as it did. -/
def digraphClosesSpec : ChangeSpec := { name := "digraphCloses", fn := fun _ => fun
  | [d1, d2, d3] => { results := [.lit (.bool true)], args := [d1, d2, d3] }
  | _ => none }
def digraphClosesRow : OpenClaim := { program := "ytlkabhjkncklnaa", sum := "9d5df10f31f15676750767571274e2e8da93b4f1115fff7d90baff72c4832ce3", func := "confluent/confluentlaw19.DigraphCloses", spec := "digraphCloses", unfollowed := true, recurses := true, apart := false }
def DigraphClosesSaid : Prop := digraphClosesRow.holds Try.pinned (OpenSpec.ofChange digraphClosesSpec)

/-- ITS FALSE NEIGHBOUR: 'it returns false'. Refute it at one input. -/
def digraphClosesWrong : ChangeSpec := { name := "digraphCloses", fn := fun _ => fun
  | [d1, d2, d3] => { results := [.lit (.bool false)], args := [d1, d2, d3] }
  | _ => none }
def DigraphClosesWrongFalsely : Prop := digraphClosesRow.holds Try.pinned (OpenSpec.ofChange digraphClosesWrong)

/-- 'confluentlaw19.DigraphSimple': WHATEVER THE INPUT: true; the input reads as it did. -/
def digraphSimpleSpec : ChangeSpec := { name := "digraphSimple", fn := fun _ => fun
  | [d1, d2, d3] => { results := [.lit (.bool true)], args := [d1, d2, d3] }
  | _ => none }
def digraphSimpleRow : OpenClaim := { program := "ytlkabhjkncklnaa", sum := "9d5df10f31f15676750767571274e2e8da93b4f1115fff7d90baff72c4832ce3", func := "confluent/confluentlaw19.DigraphSimple", spec := "digraphSimple", unfollowed := true, recurses := true, apart := false }
def DigraphSimpleSaid : Prop := digraphSimpleRow.holds Try.pinned (OpenSpec.ofChange digraphSimpleSpec)

/-- ITS FALSE NEIGHBOUR: 'it returns false'. Refute it at one input. -/
def digraphSimpleWrong : ChangeSpec := { name := "digraphSimple", fn := fun _ => fun
  | [d1, d2, d3] => { results := [.lit (.bool false)], args := [d1, d2, d3] }
  | _ => none }
def DigraphSimpleWrongFalsely : Prop := digraphSimpleRow.holds Try.pinned (OpenSpec.ofChange digraphSimpleWrong)

/- THE SECOND FORM. 'bulk': how many values and letters a reading holds, each counted each time it is reached (what is shared counts as often as it is met; a slice's spare places count too). A statement '..UptoSaid' is the law's where the arguments, and the package variables that the reading takes, are together of bulk at most 1048576: NARROWER than '..Said'. Prove '..Said' where nothing that the law and all that it calls make is longer than what came in: it says more and counts as full. Else prove '..UptoSaid'. A law counts once. -/
mutual
def uptoBulk {H : Type} : DataW H → Nat
  | .lit (.string bytes) => bytes.length + 1
  | .lit _ => 1
  | .nil => 1
  | .ptr d => uptoBulk d + 1
  | .slice elems spare => uptoBulkAll elems + uptoBulkAll spare + 1
  | .agg parts => uptoBulkAll parts + 1
  | .iface _ d => uptoBulk d + 1
  | .map entries => uptoBulkEntries entries + 1
  | .held _ => 1
def uptoBulkAll {H : Type} : List (DataW H) → Nat
  | [] => 0
  | d :: r => uptoBulk d + uptoBulkAll r
def uptoBulkEntries {H : Type} : List (Lit × DataW H) → Nat
  | [] => 0
  | x :: r => uptoBulkEntry x + uptoBulkEntries r
def uptoBulkEntry {H : Type} : Lit × DataW H → Nat
  | (.string bytes, d) => bytes.length + uptoBulk d + 1
  | (_, d) => uptoBulk d + 1
 end
def uptoSmall : (H : Type) → List (DataW H) → Bool := fun _ ds => decide (uptoBulkAll ds ≤ 1048576)
def OpenSpec.upto (s : _root_.Go.ChangeSpec) : _root_.Go.OpenSpec := { _root_.Go.OpenSpec.ofChange s with cond := some uptoSmall }

/-- 'confluentlaw19.DigraphReaches', WHERE WHAT IT READS IS OF BULK AT MOST 1048576: true; the input reads as it did. -/
def digraphReachesUptoRow : OpenClaim := { program := "ytlkabhjkncklnaa", sum := "9d5df10f31f15676750767571274e2e8da93b4f1115fff7d90baff72c4832ce3", func := "confluent/confluentlaw19.DigraphReaches", spec := "digraphReaches", unfollowed := true, recurses := true, apart := false, narrowed := true }
def DigraphReachesUptoSaid : Prop := digraphReachesUptoRow.holds Try.pinned (OpenSpec.upto digraphReachesSpec)

/-- 'confluentlaw19.DigraphCycles', WHERE WHAT IT READS IS OF BULK AT MOST 1048576: true; the input reads as it did. -/
def digraphCyclesUptoRow : OpenClaim := { program := "ytlkabhjkncklnaa", sum := "9d5df10f31f15676750767571274e2e8da93b4f1115fff7d90baff72c4832ce3", func := "confluent/confluentlaw19.DigraphCycles", spec := "digraphCycles", unfollowed := true, recurses := true, apart := false, narrowed := true }
def DigraphCyclesUptoSaid : Prop := digraphCyclesUptoRow.holds Try.pinned (OpenSpec.upto digraphCyclesSpec)

/-- 'confluentlaw19.DigraphForbids', WHERE WHAT IT READS IS OF BULK AT MOST 1048576: true; the input reads as it did. -/
def digraphForbidsUptoRow : OpenClaim := { program := "ytlkabhjkncklnaa", sum := "9d5df10f31f15676750767571274e2e8da93b4f1115fff7d90baff72c4832ce3", func := "confluent/confluentlaw19.DigraphForbids", spec := "digraphForbids", unfollowed := true, recurses := true, apart := false, narrowed := true }
def DigraphForbidsUptoSaid : Prop := digraphForbidsUptoRow.holds Try.pinned (OpenSpec.upto digraphForbidsSpec)

/-- 'confluentlaw19.DigraphPaths', WHERE WHAT IT READS IS OF BULK AT MOST 1048576: true; the input reads as it did. -/
def digraphPathsUptoRow : OpenClaim := { program := "ytlkabhjkncklnaa", sum := "9d5df10f31f15676750767571274e2e8da93b4f1115fff7d90baff72c4832ce3", func := "confluent/confluentlaw19.DigraphPaths", spec := "digraphPaths", unfollowed := true, recurses := true, apart := false, narrowed := true }
def DigraphPathsUptoSaid : Prop := digraphPathsUptoRow.holds Try.pinned (OpenSpec.upto digraphPathsSpec)

/-- 'confluentlaw19.DigraphOrders', WHERE WHAT IT READS IS OF BULK AT MOST 1048576: true; the input reads as it did. -/
def digraphOrdersUptoRow : OpenClaim := { program := "ytlkabhjkncklnaa", sum := "9d5df10f31f15676750767571274e2e8da93b4f1115fff7d90baff72c4832ce3", func := "confluent/confluentlaw19.DigraphOrders", spec := "digraphOrders", unfollowed := true, recurses := true, apart := false, narrowed := true }
def DigraphOrdersUptoSaid : Prop := digraphOrdersUptoRow.holds Try.pinned (OpenSpec.upto digraphOrdersSpec)

/-- 'confluentlaw19.DigraphCloses', WHERE WHAT IT READS IS OF BULK AT MOST 1048576: true; the input reads as it did. -/
def digraphClosesUptoRow : OpenClaim := { program := "ytlkabhjkncklnaa", sum := "9d5df10f31f15676750767571274e2e8da93b4f1115fff7d90baff72c4832ce3", func := "confluent/confluentlaw19.DigraphCloses", spec := "digraphCloses", unfollowed := true, recurses := true, apart := false, narrowed := true }
def DigraphClosesUptoSaid : Prop := digraphClosesUptoRow.holds Try.pinned (OpenSpec.upto digraphClosesSpec)

/-- 'confluentlaw19.DigraphSimple', WHERE WHAT IT READS IS OF BULK AT MOST 1048576: true; the input reads as it did. -/
def digraphSimpleUptoRow : OpenClaim := { program := "ytlkabhjkncklnaa", sum := "9d5df10f31f15676750767571274e2e8da93b4f1115fff7d90baff72c4832ce3", func := "confluent/confluentlaw19.DigraphSimple", spec := "digraphSimple", unfollowed := true, recurses := true, apart := false, narrowed := true }
def DigraphSimpleUptoSaid : Prop := digraphSimpleUptoRow.holds Try.pinned (OpenSpec.upto digraphSimpleSpec)

end Rows
end Go.Proofs.Ytlkabhjkncklnaa
