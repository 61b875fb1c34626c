/-
  No cell of these rows narrows 'for every input' (looked for: loops, veiled, ifaces, maps, wideKeys, modest, calm, conditions, laid).
  DERIVED. THE GIVEN ROWS OF THIS SEAT. 6 by the template 'for every input the law returns true; each argument reads behind the call as it read before'; 0 by the template 'total and deterministic' (their statements: YtlbhidiliogflaaTotals.lean).
  GIVEN WITH THE SEED: the statements are not yours to turn. If you find one false, say at which input.
  Laid BY PROGRAM, IN A SANDBOX (cutbox-rows.mjs): the forced cells as the released guide's own fill.sh prints them over the translation 0e7cbdde19e2c8b4… (all of the seat's roots in one cut). By AI agents, Wed Nov 11 2026. No macro, syntax, notation, axiom, sorry.
-/
import Derived.Test.YtlbhidiliogflaaChecked
import GoSem.Claim
import GoSem.ClaimJoined
import GoSem.ClaimMapViews
import Derived.JoinedTies
import Derived.KernelRfl
namespace Go.Proofs.Ytlbhidiliogflaa
/- THE CELL 'sum', in the pinned program and in every row, IS THE sha256 OF THE DUMP (.gsa) THAT YtlbhidiliogflaaProg.lean LOADS. Nothing in Lean hashes anything: it is a label: what it is worth is what the hold of that sum in a sandbox is worth. -/
noncomputable def Try.pinned : Pinned := { name := "ytlbhidiliogflaa", sum := "0e7cbdde19e2c8b4e3bf9c2fd6e12fc1f0ade4e59c88019d9c482d8f598e6adb", checked := Try.checked }
namespace Rows
def none {H : Type} : Left H := { results := [], args := [] }

/-- 'confluentlaw20.SearchPropagates': WHATEVER THE INPUT: true; the input reads as it did. -/
def searchPropagatesSpec : ChangeSpec := { name := "searchPropagates", fn := fun _ => fun
  | [d1, d2, d3] => { results := [.lit (.bool true)], args := [d1, d2, d3] }
  | _ => none }
def searchPropagatesRow : OpenClaim := { program := "ytlbhidiliogflaa", sum := "0e7cbdde19e2c8b4e3bf9c2fd6e12fc1f0ade4e59c88019d9c482d8f598e6adb", func := "confluent/confluentlaw20.SearchPropagates", spec := "searchPropagates", unfollowed := true, recurses := true, apart := false }
def SearchPropagatesSaid : Prop := searchPropagatesRow.holds Try.pinned (OpenSpec.ofChange searchPropagatesSpec)

/-- ITS FALSE NEIGHBOUR: 'it returns false'. Refute it at one input. -/
def searchPropagatesWrong : ChangeSpec := { name := "searchPropagates", fn := fun _ => fun
  | [d1, d2, d3] => { results := [.lit (.bool false)], args := [d1, d2, d3] }
  | _ => none }
def SearchPropagatesWrongFalsely : Prop := searchPropagatesRow.holds Try.pinned (OpenSpec.ofChange searchPropagatesWrong)

/-- 'confluentlaw20.SearchSolves': WHATEVER THE INPUT: true; the input reads as it did. -/
def searchSolvesSpec : ChangeSpec := { name := "searchSolves", fn := fun _ => fun
  | [d] => { results := [.lit (.bool true)], args := [d] }
  | _ => none }
def searchSolvesRow : OpenClaim := { program := "ytlbhidiliogflaa", sum := "0e7cbdde19e2c8b4e3bf9c2fd6e12fc1f0ade4e59c88019d9c482d8f598e6adb", func := "confluent/confluentlaw20.SearchSolves", spec := "searchSolves", unfollowed := true, recurses := true, apart := false }
def SearchSolvesSaid : Prop := searchSolvesRow.holds Try.pinned (OpenSpec.ofChange searchSolvesSpec)

/-- ITS FALSE NEIGHBOUR: 'it returns false'. Refute it at one input. -/
def searchSolvesWrong : ChangeSpec := { name := "searchSolves", fn := fun _ => fun
  | [d] => { results := [.lit (.bool false)], args := [d] }
  | _ => none }
def SearchSolvesWrongFalsely : Prop := searchSolvesRow.holds Try.pinned (OpenSpec.ofChange searchSolvesWrong)

/-- 'confluentlaw20.SearchBudgets': WHATEVER THE INPUT: true; the input reads as it did. -/
def searchBudgetsSpec : ChangeSpec := { name := "searchBudgets", fn := fun _ => fun
  | [d1, d2] => { results := [.lit (.bool true)], args := [d1, d2] }
  | _ => none }
def searchBudgetsRow : OpenClaim := { program := "ytlbhidiliogflaa", sum := "0e7cbdde19e2c8b4e3bf9c2fd6e12fc1f0ade4e59c88019d9c482d8f598e6adb", func := "confluent/confluentlaw20.SearchBudgets", spec := "searchBudgets", unfollowed := true, recurses := true, apart := false }
def SearchBudgetsSaid : Prop := searchBudgetsRow.holds Try.pinned (OpenSpec.ofChange searchBudgetsSpec)

/-- ITS FALSE NEIGHBOUR: 'it returns false'. Refute it at one input. -/
def searchBudgetsWrong : ChangeSpec := { name := "searchBudgets", fn := fun _ => fun
  | [d1, d2] => { results := [.lit (.bool false)], args := [d1, d2] }
  | _ => none }
def SearchBudgetsWrongFalsely : Prop := searchBudgetsRow.holds Try.pinned (OpenSpec.ofChange searchBudgetsWrong)

/-- 'confluentlaw20.SearchKeeps': WHATEVER THE INPUT: true; the input reads as it did. -/
def searchKeepsSpec : ChangeSpec := { name := "searchKeeps", fn := fun _ => fun
  | [d1, d2] => { results := [.lit (.bool true)], args := [d1, d2] }
  | _ => none }
def searchKeepsRow : OpenClaim := { program := "ytlbhidiliogflaa", sum := "0e7cbdde19e2c8b4e3bf9c2fd6e12fc1f0ade4e59c88019d9c482d8f598e6adb", func := "confluent/confluentlaw20.SearchKeeps", spec := "searchKeeps", unfollowed := true, recurses := true, apart := false }
def SearchKeepsSaid : Prop := searchKeepsRow.holds Try.pinned (OpenSpec.ofChange searchKeepsSpec)

/-- ITS FALSE NEIGHBOUR: 'it returns false'. Refute it at one input. -/
def searchKeepsWrong : ChangeSpec := { name := "searchKeeps", fn := fun _ => fun
  | [d1, d2] => { results := [.lit (.bool false)], args := [d1, d2] }
  | _ => none }
def SearchKeepsWrongFalsely : Prop := searchKeepsRow.holds Try.pinned (OpenSpec.ofChange searchKeepsWrong)

/-- 'confluentlaw20.SearchSplits': WHATEVER THE INPUT: true; the input reads as it did. -/
def searchSplitsSpec : ChangeSpec := { name := "searchSplits", fn := fun _ => fun
  | [d] => { results := [.lit (.bool true)], args := [d] }
  | _ => none }
def searchSplitsRow : OpenClaim := { program := "ytlbhidiliogflaa", sum := "0e7cbdde19e2c8b4e3bf9c2fd6e12fc1f0ade4e59c88019d9c482d8f598e6adb", func := "confluent/confluentlaw20.SearchSplits", spec := "searchSplits", unfollowed := true, recurses := true, apart := false }
def SearchSplitsSaid : Prop := searchSplitsRow.holds Try.pinned (OpenSpec.ofChange searchSplitsSpec)

/-- ITS FALSE NEIGHBOUR: 'it returns false'. Refute it at one input. -/
def searchSplitsWrong : ChangeSpec := { name := "searchSplits", fn := fun _ => fun
  | [d] => { results := [.lit (.bool false)], args := [d] }
  | _ => none }
def SearchSplitsWrongFalsely : Prop := searchSplitsRow.holds Try.pinned (OpenSpec.ofChange searchSplitsWrong)

/-- 'confluentlaw20.SearchAll': WHATEVER THE INPUT: true; the input reads as it did. -/
def searchAllSpec : ChangeSpec := { name := "searchAll", fn := fun _ => fun
  | [d1, d2] => { results := [.lit (.bool true)], args := [d1, d2] }
  | _ => none }
def searchAllRow : OpenClaim := { program := "ytlbhidiliogflaa", sum := "0e7cbdde19e2c8b4e3bf9c2fd6e12fc1f0ade4e59c88019d9c482d8f598e6adb", func := "confluent/confluentlaw20.SearchAll", spec := "searchAll", unfollowed := true, recurses := true, apart := false }
def SearchAllSaid : Prop := searchAllRow.holds Try.pinned (OpenSpec.ofChange searchAllSpec)

/-- ITS FALSE NEIGHBOUR: 'it returns false'. Refute it at one input. -/
def searchAllWrong : ChangeSpec := { name := "searchAll", fn := fun _ => fun
  | [d1, d2] => { results := [.lit (.bool false)], args := [d1, d2] }
  | _ => none }
def SearchAllWrongFalsely : Prop := searchAllRow.holds Try.pinned (OpenSpec.ofChange searchAllWrong)

/- THE SECOND FORM. 'bulk': how many values and letters a reading holds, each counted each time it is reached (what is shared counts as often as it is met; a slice's spare places count too). A statement '..UptoSaid' is the law's where the arguments, and the package variables that the reading takes, are together of bulk at most 1048576: NARROWER than '..Said'. Prove '..Said' where nothing that the law and all that it calls make is longer than what came in: it says more and counts as full. Else prove '..UptoSaid'. A law counts once. -/
mutual
def uptoBulk {H : Type} : DataW H → Nat
  | .lit (.string bytes) => bytes.length + 1
  | .lit _ => 1
  | .nil => 1
  | .ptr d => uptoBulk d + 1
  | .slice elems spare => uptoBulkAll elems + uptoBulkAll spare + 1
  | .agg parts => uptoBulkAll parts + 1
  | .iface _ d => uptoBulk d + 1
  | .map entries => uptoBulkEntries entries + 1
  | .held _ => 1
def uptoBulkAll {H : Type} : List (DataW H) → Nat
  | [] => 0
  | d :: r => uptoBulk d + uptoBulkAll r
def uptoBulkEntries {H : Type} : List (Lit × DataW H) → Nat
  | [] => 0
  | x :: r => uptoBulkEntry x + uptoBulkEntries r
def uptoBulkEntry {H : Type} : Lit × DataW H → Nat
  | (.string bytes, d) => bytes.length + uptoBulk d + 1
  | (_, d) => uptoBulk d + 1
 end
def uptoSmall : (H : Type) → List (DataW H) → Bool := fun _ ds => decide (uptoBulkAll ds ≤ 1048576)
def OpenSpec.upto (s : _root_.Go.ChangeSpec) : _root_.Go.OpenSpec := { _root_.Go.OpenSpec.ofChange s with cond := some uptoSmall }

/-- 'confluentlaw20.SearchPropagates', WHERE WHAT IT READS IS OF BULK AT MOST 1048576: true; the input reads as it did. -/
def searchPropagatesUptoRow : OpenClaim := { program := "ytlbhidiliogflaa", sum := "0e7cbdde19e2c8b4e3bf9c2fd6e12fc1f0ade4e59c88019d9c482d8f598e6adb", func := "confluent/confluentlaw20.SearchPropagates", spec := "searchPropagates", unfollowed := true, recurses := true, apart := false, narrowed := true }
def SearchPropagatesUptoSaid : Prop := searchPropagatesUptoRow.holds Try.pinned (OpenSpec.upto searchPropagatesSpec)

/-- 'confluentlaw20.SearchSolves', WHERE WHAT IT READS IS OF BULK AT MOST 1048576: true; the input reads as it did. -/
def searchSolvesUptoRow : OpenClaim := { program := "ytlbhidiliogflaa", sum := "0e7cbdde19e2c8b4e3bf9c2fd6e12fc1f0ade4e59c88019d9c482d8f598e6adb", func := "confluent/confluentlaw20.SearchSolves", spec := "searchSolves", unfollowed := true, recurses := true, apart := false, narrowed := true }
def SearchSolvesUptoSaid : Prop := searchSolvesUptoRow.holds Try.pinned (OpenSpec.upto searchSolvesSpec)

/-- 'confluentlaw20.SearchBudgets', WHERE WHAT IT READS IS OF BULK AT MOST 1048576: true; the input reads as it did. -/
def searchBudgetsUptoRow : OpenClaim := { program := "ytlbhidiliogflaa", sum := "0e7cbdde19e2c8b4e3bf9c2fd6e12fc1f0ade4e59c88019d9c482d8f598e6adb", func := "confluent/confluentlaw20.SearchBudgets", spec := "searchBudgets", unfollowed := true, recurses := true, apart := false, narrowed := true }
def SearchBudgetsUptoSaid : Prop := searchBudgetsUptoRow.holds Try.pinned (OpenSpec.upto searchBudgetsSpec)

/-- 'confluentlaw20.SearchKeeps', WHERE WHAT IT READS IS OF BULK AT MOST 1048576: true; the input reads as it did. -/
def searchKeepsUptoRow : OpenClaim := { program := "ytlbhidiliogflaa", sum := "0e7cbdde19e2c8b4e3bf9c2fd6e12fc1f0ade4e59c88019d9c482d8f598e6adb", func := "confluent/confluentlaw20.SearchKeeps", spec := "searchKeeps", unfollowed := true, recurses := true, apart := false, narrowed := true }
def SearchKeepsUptoSaid : Prop := searchKeepsUptoRow.holds Try.pinned (OpenSpec.upto searchKeepsSpec)

/-- 'confluentlaw20.SearchSplits', WHERE WHAT IT READS IS OF BULK AT MOST 1048576: true; the input reads as it did. -/
def searchSplitsUptoRow : OpenClaim := { program := "ytlbhidiliogflaa", sum := "0e7cbdde19e2c8b4e3bf9c2fd6e12fc1f0ade4e59c88019d9c482d8f598e6adb", func := "confluent/confluentlaw20.SearchSplits", spec := "searchSplits", unfollowed := true, recurses := true, apart := false, narrowed := true }
def SearchSplitsUptoSaid : Prop := searchSplitsUptoRow.holds Try.pinned (OpenSpec.upto searchSplitsSpec)

/-- 'confluentlaw20.SearchAll', WHERE WHAT IT READS IS OF BULK AT MOST 1048576: true; the input reads as it did. -/
def searchAllUptoRow : OpenClaim := { program := "ytlbhidiliogflaa", sum := "0e7cbdde19e2c8b4e3bf9c2fd6e12fc1f0ade4e59c88019d9c482d8f598e6adb", func := "confluent/confluentlaw20.SearchAll", spec := "searchAll", unfollowed := true, recurses := true, apart := false, narrowed := true }
def SearchAllUptoSaid : Prop := searchAllUptoRow.holds Try.pinned (OpenSpec.upto searchAllSpec)

end Rows
end Go.Proofs.Ytlbhidiliogflaa
