/-
  No cell of these rows narrows 'for every input' (looked for: loops, veiled, ifaces, maps, wideKeys, modest, calm, conditions, laid).
  DERIVED. THE GIVEN ROWS OF THIS SEAT. 5 by the template 'for every input the law returns true; each argument reads behind the call as it read before'; 0 by the template 'total and deterministic' (their statements: YtbcekihjcgnhkaaTotals.lean).
  GIVEN WITH THE SEED: the statements are not yours to turn. If you find one false, say at which input.
  Laid BY PROGRAM, IN A SANDBOX (cutbox-rows.mjs): the forced cells as the released guide's own fill.sh prints them over the translation 551f7444053b3bb1… (all of the seat's roots in one cut). By AI agents, Wed Nov 11 2026. No macro, syntax, notation, axiom, sorry.
-/
import Derived.Test.YtbcekihjcgnhkaaChecked
import GoSem.Claim
import GoSem.ClaimJoined
import GoSem.ClaimMapViews
import Derived.JoinedTies
import Derived.KernelRfl
namespace Go.Proofs.Ytbcekihjcgnhkaa
/- THE CELL 'sum', in the pinned program and in every row, IS THE sha256 OF THE DUMP (.gsa) THAT YtbcekihjcgnhkaaProg.lean LOADS. Nothing in Lean hashes anything: it is a label: what it is worth is what the hold of that sum in a sandbox is worth. -/
noncomputable def Try.pinned : Pinned := { name := "ytbcekihjcgnhkaa", sum := "551f7444053b3bb1e163cf60ae2f1698a06f348db20736bd77437a83d2585d16", checked := Try.checked }
namespace Rows
def none {H : Type} : Left H := { results := [], args := [] }

/-- 'confluentlaw41.BrokerOrder': WHATEVER THE INPUT: true; the input reads as it did. -/
def brokerOrderSpec : ChangeSpec := { name := "brokerOrder", fn := fun _ => fun
  | [d1, d2, d3] => { results := [.lit (.bool true)], args := [d1, d2, d3] }
  | _ => none }
def brokerOrderRow : OpenClaim := { program := "ytbcekihjcgnhkaa", sum := "551f7444053b3bb1e163cf60ae2f1698a06f348db20736bd77437a83d2585d16", func := "confluent/confluentlaw41.BrokerOrder", spec := "brokerOrder", unfollowed := true, recurses := true, plainKeys := false, apart := false }
def BrokerOrderSaid : Prop := brokerOrderRow.holds Try.pinned (OpenSpec.ofChange brokerOrderSpec)

/-- ITS FALSE NEIGHBOUR: 'it returns false'. Refute it at one input. -/
def brokerOrderWrong : ChangeSpec := { name := "brokerOrder", fn := fun _ => fun
  | [d1, d2, d3] => { results := [.lit (.bool false)], args := [d1, d2, d3] }
  | _ => none }
def BrokerOrderWrongFalsely : Prop := brokerOrderRow.holds Try.pinned (OpenSpec.ofChange brokerOrderWrong)

/-- 'confluentlaw41.BrokerOnce': WHATEVER THE INPUT: true; the input reads as it did. -/
def brokerOnceSpec : ChangeSpec := { name := "brokerOnce", fn := fun _ => fun
  | [d1, d2, d3] => { results := [.lit (.bool true)], args := [d1, d2, d3] }
  | _ => none }
def brokerOnceRow : OpenClaim := { program := "ytbcekihjcgnhkaa", sum := "551f7444053b3bb1e163cf60ae2f1698a06f348db20736bd77437a83d2585d16", func := "confluent/confluentlaw41.BrokerOnce", spec := "brokerOnce", unfollowed := true, recurses := true, plainKeys := false, apart := false }
def BrokerOnceSaid : Prop := brokerOnceRow.holds Try.pinned (OpenSpec.ofChange brokerOnceSpec)

/-- ITS FALSE NEIGHBOUR: 'it returns false'. Refute it at one input. -/
def brokerOnceWrong : ChangeSpec := { name := "brokerOnce", fn := fun _ => fun
  | [d1, d2, d3] => { results := [.lit (.bool false)], args := [d1, d2, d3] }
  | _ => none }
def BrokerOnceWrongFalsely : Prop := brokerOnceRow.holds Try.pinned (OpenSpec.ofChange brokerOnceWrong)

/-- 'confluentlaw41.BrokerFirst': WHATEVER THE INPUT: true; the input reads as it did. -/
def brokerFirstSpec : ChangeSpec := { name := "brokerFirst", fn := fun _ => fun
  | [d1, d2, d3] => { results := [.lit (.bool true)], args := [d1, d2, d3] }
  | _ => none }
def brokerFirstRow : OpenClaim := { program := "ytbcekihjcgnhkaa", sum := "551f7444053b3bb1e163cf60ae2f1698a06f348db20736bd77437a83d2585d16", func := "confluent/confluentlaw41.BrokerFirst", spec := "brokerFirst", unfollowed := true, recurses := true, plainKeys := false, apart := false }
def BrokerFirstSaid : Prop := brokerFirstRow.holds Try.pinned (OpenSpec.ofChange brokerFirstSpec)

/-- ITS FALSE NEIGHBOUR: 'it returns false'. Refute it at one input. -/
def brokerFirstWrong : ChangeSpec := { name := "brokerFirst", fn := fun _ => fun
  | [d1, d2, d3] => { results := [.lit (.bool false)], args := [d1, d2, d3] }
  | _ => none }
def BrokerFirstWrongFalsely : Prop := brokerFirstRow.holds Try.pinned (OpenSpec.ofChange brokerFirstWrong)

/-- 'confluentlaw41.BrokerCalls': WHATEVER THE INPUT: true; the input reads as it did. -/
def brokerCallsSpec : ChangeSpec := { name := "brokerCalls", fn := fun _ => fun
  | [d1, d2, d3] => { results := [.lit (.bool true)], args := [d1, d2, d3] }
  | _ => none }
def brokerCallsRow : OpenClaim := { program := "ytbcekihjcgnhkaa", sum := "551f7444053b3bb1e163cf60ae2f1698a06f348db20736bd77437a83d2585d16", func := "confluent/confluentlaw41.BrokerCalls", spec := "brokerCalls", unfollowed := true, recurses := true, plainKeys := false, apart := false }
def BrokerCallsSaid : Prop := brokerCallsRow.holds Try.pinned (OpenSpec.ofChange brokerCallsSpec)

/-- ITS FALSE NEIGHBOUR: 'it returns false'. Refute it at one input. -/
def brokerCallsWrong : ChangeSpec := { name := "brokerCalls", fn := fun _ => fun
  | [d1, d2, d3] => { results := [.lit (.bool false)], args := [d1, d2, d3] }
  | _ => none }
def BrokerCallsWrongFalsely : Prop := brokerCallsRow.holds Try.pinned (OpenSpec.ofChange brokerCallsWrong)

/-- 'confluentlaw41.BrokerGives': WHATEVER THE INPUT: true; the input reads as it did. -/
def brokerGivesSpec : ChangeSpec := { name := "brokerGives", fn := fun _ => fun
  | [d1, d2, d3, d4] => { results := [.lit (.bool true)], args := [d1, d2, d3, d4] }
  | _ => none }
def brokerGivesRow : OpenClaim := { program := "ytbcekihjcgnhkaa", sum := "551f7444053b3bb1e163cf60ae2f1698a06f348db20736bd77437a83d2585d16", func := "confluent/confluentlaw41.BrokerGives", spec := "brokerGives", unfollowed := true, recurses := true, plainKeys := false, apart := false }
def BrokerGivesSaid : Prop := brokerGivesRow.holds Try.pinned (OpenSpec.ofChange brokerGivesSpec)

/-- ITS FALSE NEIGHBOUR: 'it returns false'. Refute it at one input. -/
def brokerGivesWrong : ChangeSpec := { name := "brokerGives", fn := fun _ => fun
  | [d1, d2, d3, d4] => { results := [.lit (.bool false)], args := [d1, d2, d3, d4] }
  | _ => none }
def BrokerGivesWrongFalsely : Prop := brokerGivesRow.holds Try.pinned (OpenSpec.ofChange brokerGivesWrong)

/- THE SECOND FORM. 'bulk': how many values and letters a reading holds, each counted each time it is reached (what is shared counts as often as it is met; a slice's spare places count too). A statement '..UptoSaid' is the law's where the arguments, and the package variables that the reading takes, are together of bulk at most 1048576: NARROWER than '..Said'. Prove '..Said' where nothing that the law and all that it calls make is longer than what came in: it says more and counts as full. Else prove '..UptoSaid'. A law counts once. -/
mutual
def uptoBulk {H : Type} : DataW H → Nat
  | .lit (.string bytes) => bytes.length + 1
  | .lit _ => 1
  | .nil => 1
  | .ptr d => uptoBulk d + 1
  | .slice elems spare => uptoBulkAll elems + uptoBulkAll spare + 1
  | .agg parts => uptoBulkAll parts + 1
  | .iface _ d => uptoBulk d + 1
  | .map entries => uptoBulkEntries entries + 1
  | .held _ => 1
def uptoBulkAll {H : Type} : List (DataW H) → Nat
  | [] => 0
  | d :: r => uptoBulk d + uptoBulkAll r
def uptoBulkEntries {H : Type} : List (Lit × DataW H) → Nat
  | [] => 0
  | x :: r => uptoBulkEntry x + uptoBulkEntries r
def uptoBulkEntry {H : Type} : Lit × DataW H → Nat
  | (.string bytes, d) => bytes.length + uptoBulk d + 1
  | (_, d) => uptoBulk d + 1
 end
def uptoSmall : (H : Type) → List (DataW H) → Bool := fun _ ds => decide (uptoBulkAll ds ≤ 1048576)
def OpenSpec.upto (s : _root_.Go.ChangeSpec) : _root_.Go.OpenSpec := { _root_.Go.OpenSpec.ofChange s with cond := some uptoSmall }

/-- 'confluentlaw41.BrokerOrder', WHERE WHAT IT READS IS OF BULK AT MOST 1048576: true; the input reads as it did. -/
def brokerOrderUptoRow : OpenClaim := { program := "ytbcekihjcgnhkaa", sum := "551f7444053b3bb1e163cf60ae2f1698a06f348db20736bd77437a83d2585d16", func := "confluent/confluentlaw41.BrokerOrder", spec := "brokerOrder", unfollowed := true, recurses := true, plainKeys := false, apart := false, narrowed := true }
def BrokerOrderUptoSaid : Prop := brokerOrderUptoRow.holds Try.pinned (OpenSpec.upto brokerOrderSpec)

/-- 'confluentlaw41.BrokerOnce', WHERE WHAT IT READS IS OF BULK AT MOST 1048576: true; the input reads as it did. -/
def brokerOnceUptoRow : OpenClaim := { program := "ytbcekihjcgnhkaa", sum := "551f7444053b3bb1e163cf60ae2f1698a06f348db20736bd77437a83d2585d16", func := "confluent/confluentlaw41.BrokerOnce", spec := "brokerOnce", unfollowed := true, recurses := true, plainKeys := false, apart := false, narrowed := true }
def BrokerOnceUptoSaid : Prop := brokerOnceUptoRow.holds Try.pinned (OpenSpec.upto brokerOnceSpec)

/-- 'confluentlaw41.BrokerFirst', WHERE WHAT IT READS IS OF BULK AT MOST 1048576: true; the input reads as it did. -/
def brokerFirstUptoRow : OpenClaim := { program := "ytbcekihjcgnhkaa", sum := "551f7444053b3bb1e163cf60ae2f1698a06f348db20736bd77437a83d2585d16", func := "confluent/confluentlaw41.BrokerFirst", spec := "brokerFirst", unfollowed := true, recurses := true, plainKeys := false, apart := false, narrowed := true }
def BrokerFirstUptoSaid : Prop := brokerFirstUptoRow.holds Try.pinned (OpenSpec.upto brokerFirstSpec)

/-- 'confluentlaw41.BrokerCalls', WHERE WHAT IT READS IS OF BULK AT MOST 1048576: true; the input reads as it did. -/
def brokerCallsUptoRow : OpenClaim := { program := "ytbcekihjcgnhkaa", sum := "551f7444053b3bb1e163cf60ae2f1698a06f348db20736bd77437a83d2585d16", func := "confluent/confluentlaw41.BrokerCalls", spec := "brokerCalls", unfollowed := true, recurses := true, plainKeys := false, apart := false, narrowed := true }
def BrokerCallsUptoSaid : Prop := brokerCallsUptoRow.holds Try.pinned (OpenSpec.upto brokerCallsSpec)

/-- 'confluentlaw41.BrokerGives', WHERE WHAT IT READS IS OF BULK AT MOST 1048576: true; the input reads as it did. -/
def brokerGivesUptoRow : OpenClaim := { program := "ytbcekihjcgnhkaa", sum := "551f7444053b3bb1e163cf60ae2f1698a06f348db20736bd77437a83d2585d16", func := "confluent/confluentlaw41.BrokerGives", spec := "brokerGives", unfollowed := true, recurses := true, plainKeys := false, apart := false, narrowed := true }
def BrokerGivesUptoSaid : Prop := brokerGivesUptoRow.holds Try.pinned (OpenSpec.upto brokerGivesSpec)

end Rows
end Go.Proofs.Ytbcekihjcgnhkaa
