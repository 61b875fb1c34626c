/-
  No cell of these rows narrows 'for every input' (looked for: loops, veiled, ifaces, maps, wideKeys, modest, calm, conditions, laid).
  DERIVED. THE GIVEN ROWS OF THIS SEAT. 5 by the template 'for every input the law returns true; each argument reads behind the call as it read before'; 0 by the template 'total and deterministic' (their statements: YtmokpnkpfodppaaTotals.lean).
  GIVEN WITH THE SEED: the statements are not yours to turn. If you find one false, say at which input.
  Laid BY PROGRAM, IN A SANDBOX (cutbox-rows.mjs): the forced cells as the released guide's own fill.sh prints them over the translation 53db5128e9d163db… (all of the seat's roots in one cut). By AI agents, Wed Nov 11 2026. No macro, syntax, notation, axiom, sorry.
-/
import Derived.Test.YtmokpnkpfodppaaChecked
import GoSem.Claim
import GoSem.ClaimJoined
import GoSem.ClaimMapViews
import Derived.JoinedTies
import Derived.KernelRfl
namespace Go.Proofs.Ytmokpnkpfodppaa
/- THE CELL 'sum', in the pinned program and in every row, IS THE sha256 OF THE DUMP (.gsa) THAT YtmokpnkpfodppaaProg.lean LOADS. Nothing in Lean hashes anything: it is a label: what it is worth is what the hold of that sum in a sandbox is worth. -/
noncomputable def Try.pinned : Pinned := { name := "ytmokpnkpfodppaa", sum := "53db5128e9d163dbcb439105d75bc4d6a3d260bf1bb036062469748740e77709", checked := Try.checked }
namespace Rows
def none {H : Type} : Left H := { results := [], args := [] }

/-- 'confluentlaw50.NetworkReliable': WHATEVER THE INPUT: true; the input reads as it did. -/
def networkReliableSpec : ChangeSpec := { name := "networkReliable", fn := fun _ => fun
  | [d1, d2] => { results := [.lit (.bool true)], args := [d1, d2] }
  | _ => none }
def networkReliableRow : OpenClaim := { program := "ytmokpnkpfodppaa", sum := "53db5128e9d163dbcb439105d75bc4d6a3d260bf1bb036062469748740e77709", func := "confluent/confluentlaw50.NetworkReliable", spec := "networkReliable", unfollowed := true, recurses := true, plainKeys := false, apart := false }
def NetworkReliableSaid : Prop := networkReliableRow.holds Try.pinned (OpenSpec.ofChange networkReliableSpec)

/-- ITS FALSE NEIGHBOUR: 'it returns false'. Refute it at one input. -/
def networkReliableWrong : ChangeSpec := { name := "networkReliable", fn := fun _ => fun
  | [d1, d2] => { results := [.lit (.bool false)], args := [d1, d2] }
  | _ => none }
def NetworkReliableWrongFalsely : Prop := networkReliableRow.holds Try.pinned (OpenSpec.ofChange networkReliableWrong)

/-- 'confluentlaw50.NetworkFresh': WHATEVER THE INPUT: true; the input reads as it did. -/
def networkFreshSpec : ChangeSpec := { name := "networkFresh", fn := fun _ => fun
  | [d1, d2] => { results := [.lit (.bool true)], args := [d1, d2] }
  | _ => none }
def networkFreshRow : OpenClaim := { program := "ytmokpnkpfodppaa", sum := "53db5128e9d163dbcb439105d75bc4d6a3d260bf1bb036062469748740e77709", func := "confluent/confluentlaw50.NetworkFresh", spec := "networkFresh", unfollowed := true, recurses := true, plainKeys := false, apart := false }
def NetworkFreshSaid : Prop := networkFreshRow.holds Try.pinned (OpenSpec.ofChange networkFreshSpec)

/-- ITS FALSE NEIGHBOUR: 'it returns false'. Refute it at one input. -/
def networkFreshWrong : ChangeSpec := { name := "networkFresh", fn := fun _ => fun
  | [d1, d2] => { results := [.lit (.bool false)], args := [d1, d2] }
  | _ => none }
def NetworkFreshWrongFalsely : Prop := networkFreshRow.holds Try.pinned (OpenSpec.ofChange networkFreshWrong)

/-- 'confluentlaw50.NetworkDue': WHATEVER THE INPUT: true; the input reads as it did. -/
def networkDueSpec : ChangeSpec := { name := "networkDue", fn := fun _ => fun
  | [d1, d2, d3] => { results := [.lit (.bool true)], args := [d1, d2, d3] }
  | _ => none }
def networkDueRow : OpenClaim := { program := "ytmokpnkpfodppaa", sum := "53db5128e9d163dbcb439105d75bc4d6a3d260bf1bb036062469748740e77709", func := "confluent/confluentlaw50.NetworkDue", spec := "networkDue", unfollowed := true, recurses := true, plainKeys := false, apart := false }
def NetworkDueSaid : Prop := networkDueRow.holds Try.pinned (OpenSpec.ofChange networkDueSpec)

/-- ITS FALSE NEIGHBOUR: 'it returns false'. Refute it at one input. -/
def networkDueWrong : ChangeSpec := { name := "networkDue", fn := fun _ => fun
  | [d1, d2, d3] => { results := [.lit (.bool false)], args := [d1, d2, d3] }
  | _ => none }
def NetworkDueWrongFalsely : Prop := networkDueRow.holds Try.pinned (OpenSpec.ofChange networkDueWrong)

/-- 'confluentlaw50.NetworkSent': WHATEVER THE INPUT: true; the input reads as it did. -/
def networkSentSpec : ChangeSpec := { name := "networkSent", fn := fun _ => fun
  | [d1, d2, d3] => { results := [.lit (.bool true)], args := [d1, d2, d3] }
  | _ => none }
def networkSentRow : OpenClaim := { program := "ytmokpnkpfodppaa", sum := "53db5128e9d163dbcb439105d75bc4d6a3d260bf1bb036062469748740e77709", func := "confluent/confluentlaw50.NetworkSent", spec := "networkSent", unfollowed := true, recurses := true, plainKeys := false, apart := false }
def NetworkSentSaid : Prop := networkSentRow.holds Try.pinned (OpenSpec.ofChange networkSentSpec)

/-- ITS FALSE NEIGHBOUR: 'it returns false'. Refute it at one input. -/
def networkSentWrong : ChangeSpec := { name := "networkSent", fn := fun _ => fun
  | [d1, d2, d3] => { results := [.lit (.bool false)], args := [d1, d2, d3] }
  | _ => none }
def NetworkSentWrongFalsely : Prop := networkSentRow.holds Try.pinned (OpenSpec.ofChange networkSentWrong)

/-- 'confluentlaw50.NetworkOperations': WHATEVER THE INPUT: true; the input reads as it did. -/
def networkOperationsSpec : ChangeSpec := { name := "networkOperations", fn := fun _ => fun
  | [d1, d2, d3] => { results := [.lit (.bool true)], args := [d1, d2, d3] }
  | _ => none }
def networkOperationsRow : OpenClaim := { program := "ytmokpnkpfodppaa", sum := "53db5128e9d163dbcb439105d75bc4d6a3d260bf1bb036062469748740e77709", func := "confluent/confluentlaw50.NetworkOperations", spec := "networkOperations", unfollowed := true, recurses := true, plainKeys := false, apart := false }
def NetworkOperationsSaid : Prop := networkOperationsRow.holds Try.pinned (OpenSpec.ofChange networkOperationsSpec)

/-- ITS FALSE NEIGHBOUR: 'it returns false'. Refute it at one input. -/
def networkOperationsWrong : ChangeSpec := { name := "networkOperations", fn := fun _ => fun
  | [d1, d2, d3] => { results := [.lit (.bool false)], args := [d1, d2, d3] }
  | _ => none }
def NetworkOperationsWrongFalsely : Prop := networkOperationsRow.holds Try.pinned (OpenSpec.ofChange networkOperationsWrong)

/- THE SECOND FORM. 'bulk': how many values and letters a reading holds, each counted each time it is reached (what is shared counts as often as it is met; a slice's spare places count too). A statement '..UptoSaid' is the law's where the arguments, and the package variables that the reading takes, are together of bulk at most 1048576: NARROWER than '..Said'. Prove '..Said' where nothing that the law and all that it calls make is longer than what came in: it says more and counts as full. Else prove '..UptoSaid'. A law counts once. -/
mutual
def uptoBulk {H : Type} : DataW H → Nat
  | .lit (.string bytes) => bytes.length + 1
  | .lit _ => 1
  | .nil => 1
  | .ptr d => uptoBulk d + 1
  | .slice elems spare => uptoBulkAll elems + uptoBulkAll spare + 1
  | .agg parts => uptoBulkAll parts + 1
  | .iface _ d => uptoBulk d + 1
  | .map entries => uptoBulkEntries entries + 1
  | .held _ => 1
def uptoBulkAll {H : Type} : List (DataW H) → Nat
  | [] => 0
  | d :: r => uptoBulk d + uptoBulkAll r
def uptoBulkEntries {H : Type} : List (Lit × DataW H) → Nat
  | [] => 0
  | x :: r => uptoBulkEntry x + uptoBulkEntries r
def uptoBulkEntry {H : Type} : Lit × DataW H → Nat
  | (.string bytes, d) => bytes.length + uptoBulk d + 1
  | (_, d) => uptoBulk d + 1
 end
def uptoSmall : (H : Type) → List (DataW H) → Bool := fun _ ds => decide (uptoBulkAll ds ≤ 1048576)
def OpenSpec.upto (s : _root_.Go.ChangeSpec) : _root_.Go.OpenSpec := { _root_.Go.OpenSpec.ofChange s with cond := some uptoSmall }

/-- 'confluentlaw50.NetworkReliable', WHERE WHAT IT READS IS OF BULK AT MOST 1048576: true; the input reads as it did. -/
def networkReliableUptoRow : OpenClaim := { program := "ytmokpnkpfodppaa", sum := "53db5128e9d163dbcb439105d75bc4d6a3d260bf1bb036062469748740e77709", func := "confluent/confluentlaw50.NetworkReliable", spec := "networkReliable", unfollowed := true, recurses := true, plainKeys := false, apart := false, narrowed := true }
def NetworkReliableUptoSaid : Prop := networkReliableUptoRow.holds Try.pinned (OpenSpec.upto networkReliableSpec)

/-- 'confluentlaw50.NetworkFresh', WHERE WHAT IT READS IS OF BULK AT MOST 1048576: true; the input reads as it did. -/
def networkFreshUptoRow : OpenClaim := { program := "ytmokpnkpfodppaa", sum := "53db5128e9d163dbcb439105d75bc4d6a3d260bf1bb036062469748740e77709", func := "confluent/confluentlaw50.NetworkFresh", spec := "networkFresh", unfollowed := true, recurses := true, plainKeys := false, apart := false, narrowed := true }
def NetworkFreshUptoSaid : Prop := networkFreshUptoRow.holds Try.pinned (OpenSpec.upto networkFreshSpec)

/-- 'confluentlaw50.NetworkDue', WHERE WHAT IT READS IS OF BULK AT MOST 1048576: true; the input reads as it did. -/
def networkDueUptoRow : OpenClaim := { program := "ytmokpnkpfodppaa", sum := "53db5128e9d163dbcb439105d75bc4d6a3d260bf1bb036062469748740e77709", func := "confluent/confluentlaw50.NetworkDue", spec := "networkDue", unfollowed := true, recurses := true, plainKeys := false, apart := false, narrowed := true }
def NetworkDueUptoSaid : Prop := networkDueUptoRow.holds Try.pinned (OpenSpec.upto networkDueSpec)

/-- 'confluentlaw50.NetworkSent', WHERE WHAT IT READS IS OF BULK AT MOST 1048576: true; the input reads as it did. -/
def networkSentUptoRow : OpenClaim := { program := "ytmokpnkpfodppaa", sum := "53db5128e9d163dbcb439105d75bc4d6a3d260bf1bb036062469748740e77709", func := "confluent/confluentlaw50.NetworkSent", spec := "networkSent", unfollowed := true, recurses := true, plainKeys := false, apart := false, narrowed := true }
def NetworkSentUptoSaid : Prop := networkSentUptoRow.holds Try.pinned (OpenSpec.upto networkSentSpec)

/-- 'confluentlaw50.NetworkOperations', WHERE WHAT IT READS IS OF BULK AT MOST 1048576: true; the input reads as it did. -/
def networkOperationsUptoRow : OpenClaim := { program := "ytmokpnkpfodppaa", sum := "53db5128e9d163dbcb439105d75bc4d6a3d260bf1bb036062469748740e77709", func := "confluent/confluentlaw50.NetworkOperations", spec := "networkOperations", unfollowed := true, recurses := true, plainKeys := false, apart := false, narrowed := true }
def NetworkOperationsUptoSaid : Prop := networkOperationsUptoRow.holds Try.pinned (OpenSpec.upto networkOperationsSpec)

end Rows
end Go.Proofs.Ytmokpnkpfodppaa
