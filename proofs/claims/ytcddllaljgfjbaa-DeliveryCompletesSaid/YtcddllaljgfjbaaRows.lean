/-
  No cell of these rows narrows 'for every input' (looked for: loops, veiled, ifaces, maps, wideKeys, modest, calm, conditions, laid).
  DERIVED. THE GIVEN ROWS OF THIS SEAT. 6 by the template 'for every input the law returns true; each argument reads behind the call as it read before'; 0 by the template 'total and deterministic' (their statements: YtcddllaljgfjbaaTotals.lean).
  GIVEN WITH THE SEED: the statements are not yours to turn. If you find one false, say at which input.
  Laid BY PROGRAM, IN A SANDBOX (cutbox-rows.mjs): the forced cells as the released guide's own fill.sh prints them over the translation e357d025e4ef32e7… (all of the seat's roots in one cut). By AI agents, Wed Nov 11 2026. No macro, syntax, notation, axiom, sorry.
-/
import Derived.Test.YtcddllaljgfjbaaChecked
import GoSem.Claim
import GoSem.ClaimJoined
import GoSem.ClaimMapViews
import Derived.JoinedTies
import Derived.KernelRfl
namespace Go.Proofs.Ytcddllaljgfjbaa
/- THE CELL 'sum', in the pinned program and in every row, IS THE sha256 OF THE DUMP (.gsa) THAT YtcddllaljgfjbaaProg.lean LOADS. Nothing in Lean hashes anything: it is a label: what it is worth is what the hold of that sum in a sandbox is worth. -/
noncomputable def Try.pinned : Pinned := { name := "ytcddllaljgfjbaa", sum := "e357d025e4ef32e798fc16371d88ad7d0576ebc4a105b9b794b51c3b1e3fbd2b", checked := Try.checked }
namespace Rows
def none {H : Type} : Left H := { results := [], args := [] }

/-- 'confluentlaw33.DeliveryLimit': WHATEVER THE INPUT: true; the input reads as it did. -/
def deliveryLimitSpec : ChangeSpec := { name := "deliveryLimit", fn := fun _ => fun
  | [d1, d2] => { results := [.lit (.bool true)], args := [d1, d2] }
  | _ => none }
def deliveryLimitRow : OpenClaim := { program := "ytcddllaljgfjbaa", sum := "e357d025e4ef32e798fc16371d88ad7d0576ebc4a105b9b794b51c3b1e3fbd2b", func := "confluent/confluentlaw33.DeliveryLimit", spec := "deliveryLimit", unfollowed := true, recurses := true, plainKeys := false, apart := false }
def DeliveryLimitSaid : Prop := deliveryLimitRow.holds Try.pinned (OpenSpec.ofChange deliveryLimitSpec)

/-- ITS FALSE NEIGHBOUR: 'it returns false'. Refute it at one input. -/
def deliveryLimitWrong : ChangeSpec := { name := "deliveryLimit", fn := fun _ => fun
  | [d1, d2] => { results := [.lit (.bool false)], args := [d1, d2] }
  | _ => none }
def DeliveryLimitWrongFalsely : Prop := deliveryLimitRow.holds Try.pinned (OpenSpec.ofChange deliveryLimitWrong)

/-- 'confluentlaw33.DeliveryCalls': WHATEVER THE INPUT: true; the input reads as it did. -/
def deliveryCallsSpec : ChangeSpec := { name := "deliveryCalls", fn := fun _ => fun
  | [d1, d2] => { results := [.lit (.bool true)], args := [d1, d2] }
  | _ => none }
def deliveryCallsRow : OpenClaim := { program := "ytcddllaljgfjbaa", sum := "e357d025e4ef32e798fc16371d88ad7d0576ebc4a105b9b794b51c3b1e3fbd2b", func := "confluent/confluentlaw33.DeliveryCalls", spec := "deliveryCalls", unfollowed := true, recurses := true, plainKeys := false, apart := false }
def DeliveryCallsSaid : Prop := deliveryCallsRow.holds Try.pinned (OpenSpec.ofChange deliveryCallsSpec)

/-- ITS FALSE NEIGHBOUR: 'it returns false'. Refute it at one input. -/
def deliveryCallsWrong : ChangeSpec := { name := "deliveryCalls", fn := fun _ => fun
  | [d1, d2] => { results := [.lit (.bool false)], args := [d1, d2] }
  | _ => none }
def DeliveryCallsWrongFalsely : Prop := deliveryCallsRow.holds Try.pinned (OpenSpec.ofChange deliveryCallsWrong)

/-- 'confluentlaw33.DeliveryCausal': WHATEVER THE INPUT: true; the input reads as it did. -/
def deliveryCausalSpec : ChangeSpec := { name := "deliveryCausal", fn := fun _ => fun
  | [d1, d2] => { results := [.lit (.bool true)], args := [d1, d2] }
  | _ => none }
def deliveryCausalRow : OpenClaim := { program := "ytcddllaljgfjbaa", sum := "e357d025e4ef32e798fc16371d88ad7d0576ebc4a105b9b794b51c3b1e3fbd2b", func := "confluent/confluentlaw33.DeliveryCausal", spec := "deliveryCausal", unfollowed := true, recurses := true, plainKeys := false, apart := false }
def DeliveryCausalSaid : Prop := deliveryCausalRow.holds Try.pinned (OpenSpec.ofChange deliveryCausalSpec)

/-- ITS FALSE NEIGHBOUR: 'it returns false'. Refute it at one input. -/
def deliveryCausalWrong : ChangeSpec := { name := "deliveryCausal", fn := fun _ => fun
  | [d1, d2] => { results := [.lit (.bool false)], args := [d1, d2] }
  | _ => none }
def DeliveryCausalWrongFalsely : Prop := deliveryCausalRow.holds Try.pinned (OpenSpec.ofChange deliveryCausalWrong)

/-- 'confluentlaw33.DeliveryMisses': WHATEVER THE INPUT: true; the input reads as it did. -/
def deliveryMissesSpec : ChangeSpec := { name := "deliveryMisses", fn := fun _ => fun
  | [d1, d2] => { results := [.lit (.bool true)], args := [d1, d2] }
  | _ => none }
def deliveryMissesRow : OpenClaim := { program := "ytcddllaljgfjbaa", sum := "e357d025e4ef32e798fc16371d88ad7d0576ebc4a105b9b794b51c3b1e3fbd2b", func := "confluent/confluentlaw33.DeliveryMisses", spec := "deliveryMisses", unfollowed := true, recurses := true, plainKeys := false, apart := false }
def DeliveryMissesSaid : Prop := deliveryMissesRow.holds Try.pinned (OpenSpec.ofChange deliveryMissesSpec)

/-- ITS FALSE NEIGHBOUR: 'it returns false'. Refute it at one input. -/
def deliveryMissesWrong : ChangeSpec := { name := "deliveryMisses", fn := fun _ => fun
  | [d1, d2] => { results := [.lit (.bool false)], args := [d1, d2] }
  | _ => none }
def DeliveryMissesWrongFalsely : Prop := deliveryMissesRow.holds Try.pinned (OpenSpec.ofChange deliveryMissesWrong)

/-- 'confluentlaw33.DeliverySkips': WHATEVER THE INPUT: true; the input reads as it did. -/
def deliverySkipsSpec : ChangeSpec := { name := "deliverySkips", fn := fun _ => fun
  | [d1, d2, d3, d4] => { results := [.lit (.bool true)], args := [d1, d2, d3, d4] }
  | _ => none }
def deliverySkipsRow : OpenClaim := { program := "ytcddllaljgfjbaa", sum := "e357d025e4ef32e798fc16371d88ad7d0576ebc4a105b9b794b51c3b1e3fbd2b", func := "confluent/confluentlaw33.DeliverySkips", spec := "deliverySkips", unfollowed := true, recurses := true, plainKeys := false, apart := false }
def DeliverySkipsSaid : Prop := deliverySkipsRow.holds Try.pinned (OpenSpec.ofChange deliverySkipsSpec)

/-- ITS FALSE NEIGHBOUR: 'it returns false'. Refute it at one input. -/
def deliverySkipsWrong : ChangeSpec := { name := "deliverySkips", fn := fun _ => fun
  | [d1, d2, d3, d4] => { results := [.lit (.bool false)], args := [d1, d2, d3, d4] }
  | _ => none }
def DeliverySkipsWrongFalsely : Prop := deliverySkipsRow.holds Try.pinned (OpenSpec.ofChange deliverySkipsWrong)

/-- 'confluentlaw33.DeliveryCompletes': WHATEVER THE INPUT: true; the input reads as it did. -/
def deliveryCompletesSpec : ChangeSpec := { name := "deliveryCompletes", fn := fun _ => fun
  | [d1, d2] => { results := [.lit (.bool true)], args := [d1, d2] }
  | _ => none }
def deliveryCompletesRow : OpenClaim := { program := "ytcddllaljgfjbaa", sum := "e357d025e4ef32e798fc16371d88ad7d0576ebc4a105b9b794b51c3b1e3fbd2b", func := "confluent/confluentlaw33.DeliveryCompletes", spec := "deliveryCompletes", unfollowed := true, recurses := true, plainKeys := false, apart := false }
def DeliveryCompletesSaid : Prop := deliveryCompletesRow.holds Try.pinned (OpenSpec.ofChange deliveryCompletesSpec)

/-- ITS FALSE NEIGHBOUR: 'it returns false'. Refute it at one input. -/
def deliveryCompletesWrong : ChangeSpec := { name := "deliveryCompletes", fn := fun _ => fun
  | [d1, d2] => { results := [.lit (.bool false)], args := [d1, d2] }
  | _ => none }
def DeliveryCompletesWrongFalsely : Prop := deliveryCompletesRow.holds Try.pinned (OpenSpec.ofChange deliveryCompletesWrong)

/- THE SECOND FORM. 'bulk': how many values and letters a reading holds, each counted each time it is reached (what is shared counts as often as it is met; a slice's spare places count too). A statement '..UptoSaid' is the law's where the arguments, and the package variables that the reading takes, are together of bulk at most 1048576: NARROWER than '..Said'. Prove '..Said' where nothing that the law and all that it calls make is longer than what came in: it says more and counts as full. Else prove '..UptoSaid'. A law counts once. -/
mutual
def uptoBulk {H : Type} : DataW H → Nat
  | .lit (.string bytes) => bytes.length + 1
  | .lit _ => 1
  | .nil => 1
  | .ptr d => uptoBulk d + 1
  | .slice elems spare => uptoBulkAll elems + uptoBulkAll spare + 1
  | .agg parts => uptoBulkAll parts + 1
  | .iface _ d => uptoBulk d + 1
  | .map entries => uptoBulkEntries entries + 1
  | .held _ => 1
def uptoBulkAll {H : Type} : List (DataW H) → Nat
  | [] => 0
  | d :: r => uptoBulk d + uptoBulkAll r
def uptoBulkEntries {H : Type} : List (Lit × DataW H) → Nat
  | [] => 0
  | x :: r => uptoBulkEntry x + uptoBulkEntries r
def uptoBulkEntry {H : Type} : Lit × DataW H → Nat
  | (.string bytes, d) => bytes.length + uptoBulk d + 1
  | (_, d) => uptoBulk d + 1
 end
def uptoSmall : (H : Type) → List (DataW H) → Bool := fun _ ds => decide (uptoBulkAll ds ≤ 1048576)
def OpenSpec.upto (s : _root_.Go.ChangeSpec) : _root_.Go.OpenSpec := { _root_.Go.OpenSpec.ofChange s with cond := some uptoSmall }

/-- 'confluentlaw33.DeliveryLimit', WHERE WHAT IT READS IS OF BULK AT MOST 1048576: true; the input reads as it did. -/
def deliveryLimitUptoRow : OpenClaim := { program := "ytcddllaljgfjbaa", sum := "e357d025e4ef32e798fc16371d88ad7d0576ebc4a105b9b794b51c3b1e3fbd2b", func := "confluent/confluentlaw33.DeliveryLimit", spec := "deliveryLimit", unfollowed := true, recurses := true, plainKeys := false, apart := false, narrowed := true }
def DeliveryLimitUptoSaid : Prop := deliveryLimitUptoRow.holds Try.pinned (OpenSpec.upto deliveryLimitSpec)

/-- 'confluentlaw33.DeliveryCalls', WHERE WHAT IT READS IS OF BULK AT MOST 1048576: true; the input reads as it did. -/
def deliveryCallsUptoRow : OpenClaim := { program := "ytcddllaljgfjbaa", sum := "e357d025e4ef32e798fc16371d88ad7d0576ebc4a105b9b794b51c3b1e3fbd2b", func := "confluent/confluentlaw33.DeliveryCalls", spec := "deliveryCalls", unfollowed := true, recurses := true, plainKeys := false, apart := false, narrowed := true }
def DeliveryCallsUptoSaid : Prop := deliveryCallsUptoRow.holds Try.pinned (OpenSpec.upto deliveryCallsSpec)

/-- 'confluentlaw33.DeliveryCausal', WHERE WHAT IT READS IS OF BULK AT MOST 1048576: true; the input reads as it did. -/
def deliveryCausalUptoRow : OpenClaim := { program := "ytcddllaljgfjbaa", sum := "e357d025e4ef32e798fc16371d88ad7d0576ebc4a105b9b794b51c3b1e3fbd2b", func := "confluent/confluentlaw33.DeliveryCausal", spec := "deliveryCausal", unfollowed := true, recurses := true, plainKeys := false, apart := false, narrowed := true }
def DeliveryCausalUptoSaid : Prop := deliveryCausalUptoRow.holds Try.pinned (OpenSpec.upto deliveryCausalSpec)

/-- 'confluentlaw33.DeliveryMisses', WHERE WHAT IT READS IS OF BULK AT MOST 1048576: true; the input reads as it did. -/
def deliveryMissesUptoRow : OpenClaim := { program := "ytcddllaljgfjbaa", sum := "e357d025e4ef32e798fc16371d88ad7d0576ebc4a105b9b794b51c3b1e3fbd2b", func := "confluent/confluentlaw33.DeliveryMisses", spec := "deliveryMisses", unfollowed := true, recurses := true, plainKeys := false, apart := false, narrowed := true }
def DeliveryMissesUptoSaid : Prop := deliveryMissesUptoRow.holds Try.pinned (OpenSpec.upto deliveryMissesSpec)

/-- 'confluentlaw33.DeliverySkips', WHERE WHAT IT READS IS OF BULK AT MOST 1048576: true; the input reads as it did. -/
def deliverySkipsUptoRow : OpenClaim := { program := "ytcddllaljgfjbaa", sum := "e357d025e4ef32e798fc16371d88ad7d0576ebc4a105b9b794b51c3b1e3fbd2b", func := "confluent/confluentlaw33.DeliverySkips", spec := "deliverySkips", unfollowed := true, recurses := true, plainKeys := false, apart := false, narrowed := true }
def DeliverySkipsUptoSaid : Prop := deliverySkipsUptoRow.holds Try.pinned (OpenSpec.upto deliverySkipsSpec)

/-- 'confluentlaw33.DeliveryCompletes', WHERE WHAT IT READS IS OF BULK AT MOST 1048576: true; the input reads as it did. -/
def deliveryCompletesUptoRow : OpenClaim := { program := "ytcddllaljgfjbaa", sum := "e357d025e4ef32e798fc16371d88ad7d0576ebc4a105b9b794b51c3b1e3fbd2b", func := "confluent/confluentlaw33.DeliveryCompletes", spec := "deliveryCompletes", unfollowed := true, recurses := true, plainKeys := false, apart := false, narrowed := true }
def DeliveryCompletesUptoSaid : Prop := deliveryCompletesUptoRow.holds Try.pinned (OpenSpec.upto deliveryCompletesSpec)

end Rows
end Go.Proofs.Ytcddllaljgfjbaa
