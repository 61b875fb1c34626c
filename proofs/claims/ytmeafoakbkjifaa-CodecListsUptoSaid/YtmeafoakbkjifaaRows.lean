/-
  No cell of these rows narrows 'for every input' (looked for: loops, veiled, ifaces, maps, wideKeys, modest, calm, conditions, laid).
  DERIVED. THE GIVEN ROWS OF THIS SEAT. 8 by the template 'for every input the law returns true; each argument reads behind the call as it read before'; 0 by the template 'total and deterministic' (their statements: YtmeafoakbkjifaaTotals.lean).
  GIVEN WITH THE SEED: the statements are not yours to turn. If you find one false, say at which input.
  Laid BY PROGRAM, IN A SANDBOX (cutbox-rows.mjs): the forced cells as the released guide's own fill.sh prints them over the translation 7a67ca6e5cedda79… (all of the seat's roots in one cut). By AI agents, Wed Nov 11 2026. No macro, syntax, notation, axiom, sorry.
-/
import Derived.Test.YtmeafoakbkjifaaChecked
import GoSem.Claim
import GoSem.ClaimJoined
import GoSem.ClaimMapViews
import Derived.JoinedTies
import Derived.KernelRfl
namespace Go.Proofs.Ytmeafoakbkjifaa
/- THE CELL 'sum', in the pinned program and in every row, IS THE sha256 OF THE DUMP (.gsa) THAT YtmeafoakbkjifaaProg.lean LOADS. Nothing in Lean hashes anything: it is a label: what it is worth is what the hold of that sum in a sandbox is worth. -/
noncomputable def Try.pinned : Pinned := { name := "ytmeafoakbkjifaa", sum := "7a67ca6e5cedda79d1a379868e0cbece98abf14467d9a8936d16cdcd0f4c3b52", checked := Try.checked }
namespace Rows
def none {H : Type} : Left H := { results := [], args := [] }

/-- 'confluentlaw46.CodecIntegers': WHATEVER THE INPUT: true; the input reads as it did. -/
def codecIntegersSpec : ChangeSpec := { name := "codecIntegers", fn := fun _ => fun
  | [d1, d2] => { results := [.lit (.bool true)], args := [d1, d2] }
  | _ => none }
def codecIntegersRow : OpenClaim := { program := "ytmeafoakbkjifaa", sum := "7a67ca6e5cedda79d1a379868e0cbece98abf14467d9a8936d16cdcd0f4c3b52", func := "confluent/confluentlaw46.CodecIntegers", spec := "codecIntegers", unfollowed := true, recurses := true, apart := false }
def CodecIntegersSaid : Prop := codecIntegersRow.holds Try.pinned (OpenSpec.ofChange codecIntegersSpec)

/-- ITS FALSE NEIGHBOUR: 'it returns false'. Refute it at one input. -/
def codecIntegersWrong : ChangeSpec := { name := "codecIntegers", fn := fun _ => fun
  | [d1, d2] => { results := [.lit (.bool false)], args := [d1, d2] }
  | _ => none }
def CodecIntegersWrongFalsely : Prop := codecIntegersRow.holds Try.pinned (OpenSpec.ofChange codecIntegersWrong)

/-- 'confluentlaw46.CodecRecords': WHATEVER THE INPUT: true; the input reads as it did. -/
def codecRecordsSpec : ChangeSpec := { name := "codecRecords", fn := fun _ => fun
  | [d] => { results := [.lit (.bool true)], args := [d] }
  | _ => none }
def codecRecordsRow : OpenClaim := { program := "ytmeafoakbkjifaa", sum := "7a67ca6e5cedda79d1a379868e0cbece98abf14467d9a8936d16cdcd0f4c3b52", func := "confluent/confluentlaw46.CodecRecords", spec := "codecRecords", unfollowed := true, recurses := true, apart := false }
def CodecRecordsSaid : Prop := codecRecordsRow.holds Try.pinned (OpenSpec.ofChange codecRecordsSpec)

/-- ITS FALSE NEIGHBOUR: 'it returns false'. Refute it at one input. -/
def codecRecordsWrong : ChangeSpec := { name := "codecRecords", fn := fun _ => fun
  | [d] => { results := [.lit (.bool false)], args := [d] }
  | _ => none }
def CodecRecordsWrongFalsely : Prop := codecRecordsRow.holds Try.pinned (OpenSpec.ofChange codecRecordsWrong)

/-- 'confluentlaw46.CodecEvents': WHATEVER THE INPUT: true; the input reads as it did. -/
def codecEventsSpec : ChangeSpec := { name := "codecEvents", fn := fun _ => fun
  | [d1, d2] => { results := [.lit (.bool true)], args := [d1, d2] }
  | _ => none }
def codecEventsRow : OpenClaim := { program := "ytmeafoakbkjifaa", sum := "7a67ca6e5cedda79d1a379868e0cbece98abf14467d9a8936d16cdcd0f4c3b52", func := "confluent/confluentlaw46.CodecEvents", spec := "codecEvents", unfollowed := true, recurses := true, apart := false }
def CodecEventsSaid : Prop := codecEventsRow.holds Try.pinned (OpenSpec.ofChange codecEventsSpec)

/-- ITS FALSE NEIGHBOUR: 'it returns false'. Refute it at one input. -/
def codecEventsWrong : ChangeSpec := { name := "codecEvents", fn := fun _ => fun
  | [d1, d2] => { results := [.lit (.bool false)], args := [d1, d2] }
  | _ => none }
def CodecEventsWrongFalsely : Prop := codecEventsRow.holds Try.pinned (OpenSpec.ofChange codecEventsWrong)

/-- 'confluentlaw46.CodecLists': WHATEVER THE INPUT: true; the input reads as it did. -/
def codecListsSpec : ChangeSpec := { name := "codecLists", fn := fun _ => fun
  | [d1, d2] => { results := [.lit (.bool true)], args := [d1, d2] }
  | _ => none }
def codecListsRow : OpenClaim := { program := "ytmeafoakbkjifaa", sum := "7a67ca6e5cedda79d1a379868e0cbece98abf14467d9a8936d16cdcd0f4c3b52", func := "confluent/confluentlaw46.CodecLists", spec := "codecLists", unfollowed := true, recurses := true, apart := false }
def CodecListsSaid : Prop := codecListsRow.holds Try.pinned (OpenSpec.ofChange codecListsSpec)

/-- ITS FALSE NEIGHBOUR: 'it returns false'. Refute it at one input. -/
def codecListsWrong : ChangeSpec := { name := "codecLists", fn := fun _ => fun
  | [d1, d2] => { results := [.lit (.bool false)], args := [d1, d2] }
  | _ => none }
def CodecListsWrongFalsely : Prop := codecListsRow.holds Try.pinned (OpenSpec.ofChange codecListsWrong)

/-- 'confluentlaw46.CodecBytes': WHATEVER THE INPUT: true; the input reads as it did. -/
def codecBytesSpec : ChangeSpec := { name := "codecBytes", fn := fun _ => fun
  | [d] => { results := [.lit (.bool true)], args := [d] }
  | _ => none }
def codecBytesRow : OpenClaim := { program := "ytmeafoakbkjifaa", sum := "7a67ca6e5cedda79d1a379868e0cbece98abf14467d9a8936d16cdcd0f4c3b52", func := "confluent/confluentlaw46.CodecBytes", spec := "codecBytes", unfollowed := true, recurses := true, apart := false }
def CodecBytesSaid : Prop := codecBytesRow.holds Try.pinned (OpenSpec.ofChange codecBytesSpec)

/-- ITS FALSE NEIGHBOUR: 'it returns false'. Refute it at one input. -/
def codecBytesWrong : ChangeSpec := { name := "codecBytes", fn := fun _ => fun
  | [d] => { results := [.lit (.bool false)], args := [d] }
  | _ => none }
def CodecBytesWrongFalsely : Prop := codecBytesRow.holds Try.pinned (OpenSpec.ofChange codecBytesWrong)

/-- 'confluentlaw46.CodecMessages': WHATEVER THE INPUT: true; the input reads as it did. -/
def codecMessagesSpec : ChangeSpec := { name := "codecMessages", fn := fun _ => fun
  | [d] => { results := [.lit (.bool true)], args := [d] }
  | _ => none }
def codecMessagesRow : OpenClaim := { program := "ytmeafoakbkjifaa", sum := "7a67ca6e5cedda79d1a379868e0cbece98abf14467d9a8936d16cdcd0f4c3b52", func := "confluent/confluentlaw46.CodecMessages", spec := "codecMessages", unfollowed := true, recurses := true, apart := false }
def CodecMessagesSaid : Prop := codecMessagesRow.holds Try.pinned (OpenSpec.ofChange codecMessagesSpec)

/-- ITS FALSE NEIGHBOUR: 'it returns false'. Refute it at one input. -/
def codecMessagesWrong : ChangeSpec := { name := "codecMessages", fn := fun _ => fun
  | [d] => { results := [.lit (.bool false)], args := [d] }
  | _ => none }
def CodecMessagesWrongFalsely : Prop := codecMessagesRow.holds Try.pinned (OpenSpec.ofChange codecMessagesWrong)

/-- 'confluentlaw46.CodecPrefix': WHATEVER THE INPUT: true; the input reads as it did. -/
def codecPrefixSpec : ChangeSpec := { name := "codecPrefix", fn := fun _ => fun
  | [d1, d2, d3, d4, d5] => { results := [.lit (.bool true)], args := [d1, d2, d3, d4, d5] }
  | _ => none }
def codecPrefixRow : OpenClaim := { program := "ytmeafoakbkjifaa", sum := "7a67ca6e5cedda79d1a379868e0cbece98abf14467d9a8936d16cdcd0f4c3b52", func := "confluent/confluentlaw46.CodecPrefix", spec := "codecPrefix", unfollowed := true, recurses := true, apart := false }
def CodecPrefixSaid : Prop := codecPrefixRow.holds Try.pinned (OpenSpec.ofChange codecPrefixSpec)

/-- ITS FALSE NEIGHBOUR: 'it returns false'. Refute it at one input. -/
def codecPrefixWrong : ChangeSpec := { name := "codecPrefix", fn := fun _ => fun
  | [d1, d2, d3, d4, d5] => { results := [.lit (.bool false)], args := [d1, d2, d3, d4, d5] }
  | _ => none }
def CodecPrefixWrongFalsely : Prop := codecPrefixRow.holds Try.pinned (OpenSpec.ofChange codecPrefixWrong)

/-- 'confluentlaw46.CodecCanonical': WHATEVER THE INPUT: true; the input reads as it did. -/
def codecCanonicalSpec : ChangeSpec := { name := "codecCanonical", fn := fun _ => fun
  | [d] => { results := [.lit (.bool true)], args := [d] }
  | _ => none }
def codecCanonicalRow : OpenClaim := { program := "ytmeafoakbkjifaa", sum := "7a67ca6e5cedda79d1a379868e0cbece98abf14467d9a8936d16cdcd0f4c3b52", func := "confluent/confluentlaw46.CodecCanonical", spec := "codecCanonical", unfollowed := true, recurses := true, apart := false }
def CodecCanonicalSaid : Prop := codecCanonicalRow.holds Try.pinned (OpenSpec.ofChange codecCanonicalSpec)

/-- ITS FALSE NEIGHBOUR: 'it returns false'. Refute it at one input. -/
def codecCanonicalWrong : ChangeSpec := { name := "codecCanonical", fn := fun _ => fun
  | [d] => { results := [.lit (.bool false)], args := [d] }
  | _ => none }
def CodecCanonicalWrongFalsely : Prop := codecCanonicalRow.holds Try.pinned (OpenSpec.ofChange codecCanonicalWrong)

/- THE SECOND FORM. 'bulk': how many values and letters a reading holds, each counted each time it is reached (what is shared counts as often as it is met; a slice's spare places count too). A statement '..UptoSaid' is the law's where the arguments, and the package variables that the reading takes, are together of bulk at most 1048576: NARROWER than '..Said'. Prove '..Said' where nothing that the law and all that it calls make is longer than what came in: it says more and counts as full. Else prove '..UptoSaid'. A law counts once. -/
mutual
def uptoBulk {H : Type} : DataW H → Nat
  | .lit (.string bytes) => bytes.length + 1
  | .lit _ => 1
  | .nil => 1
  | .ptr d => uptoBulk d + 1
  | .slice elems spare => uptoBulkAll elems + uptoBulkAll spare + 1
  | .agg parts => uptoBulkAll parts + 1
  | .iface _ d => uptoBulk d + 1
  | .map entries => uptoBulkEntries entries + 1
  | .held _ => 1
def uptoBulkAll {H : Type} : List (DataW H) → Nat
  | [] => 0
  | d :: r => uptoBulk d + uptoBulkAll r
def uptoBulkEntries {H : Type} : List (Lit × DataW H) → Nat
  | [] => 0
  | x :: r => uptoBulkEntry x + uptoBulkEntries r
def uptoBulkEntry {H : Type} : Lit × DataW H → Nat
  | (.string bytes, d) => bytes.length + uptoBulk d + 1
  | (_, d) => uptoBulk d + 1
 end
def uptoSmall : (H : Type) → List (DataW H) → Bool := fun _ ds => decide (uptoBulkAll ds ≤ 1048576)
def OpenSpec.upto (s : _root_.Go.ChangeSpec) : _root_.Go.OpenSpec := { _root_.Go.OpenSpec.ofChange s with cond := some uptoSmall }

/-- 'confluentlaw46.CodecIntegers', WHERE WHAT IT READS IS OF BULK AT MOST 1048576: true; the input reads as it did. -/
def codecIntegersUptoRow : OpenClaim := { program := "ytmeafoakbkjifaa", sum := "7a67ca6e5cedda79d1a379868e0cbece98abf14467d9a8936d16cdcd0f4c3b52", func := "confluent/confluentlaw46.CodecIntegers", spec := "codecIntegers", unfollowed := true, recurses := true, apart := false, narrowed := true }
def CodecIntegersUptoSaid : Prop := codecIntegersUptoRow.holds Try.pinned (OpenSpec.upto codecIntegersSpec)

/-- 'confluentlaw46.CodecRecords', WHERE WHAT IT READS IS OF BULK AT MOST 1048576: true; the input reads as it did. -/
def codecRecordsUptoRow : OpenClaim := { program := "ytmeafoakbkjifaa", sum := "7a67ca6e5cedda79d1a379868e0cbece98abf14467d9a8936d16cdcd0f4c3b52", func := "confluent/confluentlaw46.CodecRecords", spec := "codecRecords", unfollowed := true, recurses := true, apart := false, narrowed := true }
def CodecRecordsUptoSaid : Prop := codecRecordsUptoRow.holds Try.pinned (OpenSpec.upto codecRecordsSpec)

/-- 'confluentlaw46.CodecEvents', WHERE WHAT IT READS IS OF BULK AT MOST 1048576: true; the input reads as it did. -/
def codecEventsUptoRow : OpenClaim := { program := "ytmeafoakbkjifaa", sum := "7a67ca6e5cedda79d1a379868e0cbece98abf14467d9a8936d16cdcd0f4c3b52", func := "confluent/confluentlaw46.CodecEvents", spec := "codecEvents", unfollowed := true, recurses := true, apart := false, narrowed := true }
def CodecEventsUptoSaid : Prop := codecEventsUptoRow.holds Try.pinned (OpenSpec.upto codecEventsSpec)

/-- 'confluentlaw46.CodecLists', WHERE WHAT IT READS IS OF BULK AT MOST 1048576: true; the input reads as it did. -/
def codecListsUptoRow : OpenClaim := { program := "ytmeafoakbkjifaa", sum := "7a67ca6e5cedda79d1a379868e0cbece98abf14467d9a8936d16cdcd0f4c3b52", func := "confluent/confluentlaw46.CodecLists", spec := "codecLists", unfollowed := true, recurses := true, apart := false, narrowed := true }
def CodecListsUptoSaid : Prop := codecListsUptoRow.holds Try.pinned (OpenSpec.upto codecListsSpec)

/-- 'confluentlaw46.CodecBytes', WHERE WHAT IT READS IS OF BULK AT MOST 1048576: true; the input reads as it did. -/
def codecBytesUptoRow : OpenClaim := { program := "ytmeafoakbkjifaa", sum := "7a67ca6e5cedda79d1a379868e0cbece98abf14467d9a8936d16cdcd0f4c3b52", func := "confluent/confluentlaw46.CodecBytes", spec := "codecBytes", unfollowed := true, recurses := true, apart := false, narrowed := true }
def CodecBytesUptoSaid : Prop := codecBytesUptoRow.holds Try.pinned (OpenSpec.upto codecBytesSpec)

/-- 'confluentlaw46.CodecMessages', WHERE WHAT IT READS IS OF BULK AT MOST 1048576: true; the input reads as it did. -/
def codecMessagesUptoRow : OpenClaim := { program := "ytmeafoakbkjifaa", sum := "7a67ca6e5cedda79d1a379868e0cbece98abf14467d9a8936d16cdcd0f4c3b52", func := "confluent/confluentlaw46.CodecMessages", spec := "codecMessages", unfollowed := true, recurses := true, apart := false, narrowed := true }
def CodecMessagesUptoSaid : Prop := codecMessagesUptoRow.holds Try.pinned (OpenSpec.upto codecMessagesSpec)

/-- 'confluentlaw46.CodecPrefix', WHERE WHAT IT READS IS OF BULK AT MOST 1048576: true; the input reads as it did. -/
def codecPrefixUptoRow : OpenClaim := { program := "ytmeafoakbkjifaa", sum := "7a67ca6e5cedda79d1a379868e0cbece98abf14467d9a8936d16cdcd0f4c3b52", func := "confluent/confluentlaw46.CodecPrefix", spec := "codecPrefix", unfollowed := true, recurses := true, apart := false, narrowed := true }
def CodecPrefixUptoSaid : Prop := codecPrefixUptoRow.holds Try.pinned (OpenSpec.upto codecPrefixSpec)

/-- 'confluentlaw46.CodecCanonical', WHERE WHAT IT READS IS OF BULK AT MOST 1048576: true; the input reads as it did. -/
def codecCanonicalUptoRow : OpenClaim := { program := "ytmeafoakbkjifaa", sum := "7a67ca6e5cedda79d1a379868e0cbece98abf14467d9a8936d16cdcd0f4c3b52", func := "confluent/confluentlaw46.CodecCanonical", spec := "codecCanonical", unfollowed := true, recurses := true, apart := false, narrowed := true }
def CodecCanonicalUptoSaid : Prop := codecCanonicalUptoRow.holds Try.pinned (OpenSpec.upto codecCanonicalSpec)

end Rows
end Go.Proofs.Ytmeafoakbkjifaa
