/-
  No cell of these rows narrows 'for every input' (looked for: loops, veiled, ifaces, maps, wideKeys, modest, calm, conditions, laid).
  DERIVED. THE GIVEN ROWS OF THIS SEAT. 8 by the template 'for every input the law returns true; each argument reads behind the call as it read before'; 0 by the template 'total and deterministic' (their statements: YtmecjjfpgjpeoaaTotals.lean).
  GIVEN WITH THE SEED: the statements are not yours to turn. If you find one false, say at which input.
  Laid BY PROGRAM, IN A SANDBOX (cutbox-rows.mjs): the forced cells as the released guide's own fill.sh prints them over the translation 535924efee74192e… (all of the seat's roots in one cut). By AI agents, Wed Nov 11 2026. No macro, syntax, notation, axiom, sorry.
-/
import Derived.Test.YtmecjjfpgjpeoaaChecked
import GoSem.Claim
import GoSem.ClaimJoined
import GoSem.ClaimMapViews
import Derived.JoinedTies
import Derived.KernelRfl
namespace Go.Proofs.Ytmecjjfpgjpeoaa
/- THE CELL 'sum', in the pinned program and in every row, IS THE sha256 OF THE DUMP (.gsa) THAT YtmecjjfpgjpeoaaProg.lean LOADS. Nothing in Lean hashes anything: it is a label: what it is worth is what the hold of that sum in a sandbox is worth. -/
noncomputable def Try.pinned : Pinned := { name := "ytmecjjfpgjpeoaa", sum := "535924efee74192eb9b5f78bc38d3d6bbafc8bd5092597dd9abf878c53421aa5", checked := Try.checked }
namespace Rows
def none {H : Type} : Left H := { results := [], args := [] }

/-- 'confluentlaw17.IntervalBasics': WHATEVER THE INPUT: true; the input reads as it did. -/
def intervalBasicsSpec : ChangeSpec := { name := "intervalBasics", fn := fun _ => fun
  | [d1, d2, d3] => { results := [.lit (.bool true)], args := [d1, d2, d3] }
  | _ => none }
def intervalBasicsRow : OpenClaim := { program := "ytmecjjfpgjpeoaa", sum := "535924efee74192eb9b5f78bc38d3d6bbafc8bd5092597dd9abf878c53421aa5", func := "confluent/confluentlaw17.IntervalBasics", spec := "intervalBasics", unfollowed := true, recurses := true, apart := false }
def IntervalBasicsSaid : Prop := intervalBasicsRow.holds Try.pinned (OpenSpec.ofChange intervalBasicsSpec)

/-- ITS FALSE NEIGHBOUR: 'it returns false'. Refute it at one input. -/
def intervalBasicsWrong : ChangeSpec := { name := "intervalBasics", fn := fun _ => fun
  | [d1, d2, d3] => { results := [.lit (.bool false)], args := [d1, d2, d3] }
  | _ => none }
def IntervalBasicsWrongFalsely : Prop := intervalBasicsRow.holds Try.pinned (OpenSpec.ofChange intervalBasicsWrong)

/-- 'confluentlaw17.IntervalSums': WHATEVER THE INPUT: true; the input reads as it did. -/
def intervalSumsSpec : ChangeSpec := { name := "intervalSums", fn := fun _ => fun
  | [d1, d2] => { results := [.lit (.bool true)], args := [d1, d2] }
  | _ => none }
def intervalSumsRow : OpenClaim := { program := "ytmecjjfpgjpeoaa", sum := "535924efee74192eb9b5f78bc38d3d6bbafc8bd5092597dd9abf878c53421aa5", func := "confluent/confluentlaw17.IntervalSums", spec := "intervalSums", unfollowed := true, recurses := true, apart := false }
def IntervalSumsSaid : Prop := intervalSumsRow.holds Try.pinned (OpenSpec.ofChange intervalSumsSpec)

/-- ITS FALSE NEIGHBOUR: 'it returns false'. Refute it at one input. -/
def intervalSumsWrong : ChangeSpec := { name := "intervalSums", fn := fun _ => fun
  | [d1, d2] => { results := [.lit (.bool false)], args := [d1, d2] }
  | _ => none }
def IntervalSumsWrongFalsely : Prop := intervalSumsRow.holds Try.pinned (OpenSpec.ofChange intervalSumsWrong)

/-- 'confluentlaw17.IntervalTightens': WHATEVER THE INPUT: true; the input reads as it did. -/
def intervalTightensSpec : ChangeSpec := { name := "intervalTightens", fn := fun _ => fun
  | [d1, d2, d3] => { results := [.lit (.bool true)], args := [d1, d2, d3] }
  | _ => none }
def intervalTightensRow : OpenClaim := { program := "ytmecjjfpgjpeoaa", sum := "535924efee74192eb9b5f78bc38d3d6bbafc8bd5092597dd9abf878c53421aa5", func := "confluent/confluentlaw17.IntervalTightens", spec := "intervalTightens", unfollowed := true, recurses := true, apart := false }
def IntervalTightensSaid : Prop := intervalTightensRow.holds Try.pinned (OpenSpec.ofChange intervalTightensSpec)

/-- ITS FALSE NEIGHBOUR: 'it returns false'. Refute it at one input. -/
def intervalTightensWrong : ChangeSpec := { name := "intervalTightens", fn := fun _ => fun
  | [d1, d2, d3] => { results := [.lit (.bool false)], args := [d1, d2, d3] }
  | _ => none }
def IntervalTightensWrongFalsely : Prop := intervalTightensRow.holds Try.pinned (OpenSpec.ofChange intervalTightensWrong)

/-- 'confluentlaw17.IntervalFixes': WHATEVER THE INPUT: true; the input reads as it did. -/
def intervalFixesSpec : ChangeSpec := { name := "intervalFixes", fn := fun _ => fun
  | [d1, d2] => { results := [.lit (.bool true)], args := [d1, d2] }
  | _ => none }
def intervalFixesRow : OpenClaim := { program := "ytmecjjfpgjpeoaa", sum := "535924efee74192eb9b5f78bc38d3d6bbafc8bd5092597dd9abf878c53421aa5", func := "confluent/confluentlaw17.IntervalFixes", spec := "intervalFixes", unfollowed := true, recurses := true, apart := false }
def IntervalFixesSaid : Prop := intervalFixesRow.holds Try.pinned (OpenSpec.ofChange intervalFixesSpec)

/-- ITS FALSE NEIGHBOUR: 'it returns false'. Refute it at one input. -/
def intervalFixesWrong : ChangeSpec := { name := "intervalFixes", fn := fun _ => fun
  | [d1, d2] => { results := [.lit (.bool false)], args := [d1, d2] }
  | _ => none }
def IntervalFixesWrongFalsely : Prop := intervalFixesRow.holds Try.pinned (OpenSpec.ofChange intervalFixesWrong)

/-- 'confluentlaw17.IntervalKeeps': WHATEVER THE INPUT: true; the input reads as it did. -/
def intervalKeepsSpec : ChangeSpec := { name := "intervalKeeps", fn := fun _ => fun
  | [d1, d2, d3] => { results := [.lit (.bool true)], args := [d1, d2, d3] }
  | _ => none }
def intervalKeepsRow : OpenClaim := { program := "ytmecjjfpgjpeoaa", sum := "535924efee74192eb9b5f78bc38d3d6bbafc8bd5092597dd9abf878c53421aa5", func := "confluent/confluentlaw17.IntervalKeeps", spec := "intervalKeeps", unfollowed := true, recurses := true, apart := false }
def IntervalKeepsSaid : Prop := intervalKeepsRow.holds Try.pinned (OpenSpec.ofChange intervalKeepsSpec)

/-- ITS FALSE NEIGHBOUR: 'it returns false'. Refute it at one input. -/
def intervalKeepsWrong : ChangeSpec := { name := "intervalKeeps", fn := fun _ => fun
  | [d1, d2, d3] => { results := [.lit (.bool false)], args := [d1, d2, d3] }
  | _ => none }
def IntervalKeepsWrongFalsely : Prop := intervalKeepsRow.holds Try.pinned (OpenSpec.ofChange intervalKeepsWrong)

/-- 'confluentlaw17.IntervalTight': WHATEVER THE INPUT: true; the input reads as it did. -/
def intervalTightSpec : ChangeSpec := { name := "intervalTight", fn := fun _ => fun
  | [d1, d2] => { results := [.lit (.bool true)], args := [d1, d2] }
  | _ => none }
def intervalTightRow : OpenClaim := { program := "ytmecjjfpgjpeoaa", sum := "535924efee74192eb9b5f78bc38d3d6bbafc8bd5092597dd9abf878c53421aa5", func := "confluent/confluentlaw17.IntervalTight", spec := "intervalTight", unfollowed := true, recurses := true, apart := false }
def IntervalTightSaid : Prop := intervalTightRow.holds Try.pinned (OpenSpec.ofChange intervalTightSpec)

/-- ITS FALSE NEIGHBOUR: 'it returns false'. Refute it at one input. -/
def intervalTightWrong : ChangeSpec := { name := "intervalTight", fn := fun _ => fun
  | [d1, d2] => { results := [.lit (.bool false)], args := [d1, d2] }
  | _ => none }
def IntervalTightWrongFalsely : Prop := intervalTightRow.holds Try.pinned (OpenSpec.ofChange intervalTightWrong)

/-- 'confluentlaw17.IntervalOrder': WHATEVER THE INPUT: true; the input reads as it did. -/
def intervalOrderSpec : ChangeSpec := { name := "intervalOrder", fn := fun _ => fun
  | [d1, d2, d3, d4] => { results := [.lit (.bool true)], args := [d1, d2, d3, d4] }
  | _ => none }
def intervalOrderRow : OpenClaim := { program := "ytmecjjfpgjpeoaa", sum := "535924efee74192eb9b5f78bc38d3d6bbafc8bd5092597dd9abf878c53421aa5", func := "confluent/confluentlaw17.IntervalOrder", spec := "intervalOrder", unfollowed := true, recurses := true, apart := false }
def IntervalOrderSaid : Prop := intervalOrderRow.holds Try.pinned (OpenSpec.ofChange intervalOrderSpec)

/-- ITS FALSE NEIGHBOUR: 'it returns false'. Refute it at one input. -/
def intervalOrderWrong : ChangeSpec := { name := "intervalOrder", fn := fun _ => fun
  | [d1, d2, d3, d4] => { results := [.lit (.bool false)], args := [d1, d2, d3, d4] }
  | _ => none }
def IntervalOrderWrongFalsely : Prop := intervalOrderRow.holds Try.pinned (OpenSpec.ofChange intervalOrderWrong)

/-- 'confluentlaw17.IntervalCounts': WHATEVER THE INPUT: true; the input reads as it did. -/
def intervalCountsSpec : ChangeSpec := { name := "intervalCounts", fn := fun _ => fun
  | [d] => { results := [.lit (.bool true)], args := [d] }
  | _ => none }
def intervalCountsRow : OpenClaim := { program := "ytmecjjfpgjpeoaa", sum := "535924efee74192eb9b5f78bc38d3d6bbafc8bd5092597dd9abf878c53421aa5", func := "confluent/confluentlaw17.IntervalCounts", spec := "intervalCounts", unfollowed := true, recurses := true, apart := false }
def IntervalCountsSaid : Prop := intervalCountsRow.holds Try.pinned (OpenSpec.ofChange intervalCountsSpec)

/-- ITS FALSE NEIGHBOUR: 'it returns false'. Refute it at one input. -/
def intervalCountsWrong : ChangeSpec := { name := "intervalCounts", fn := fun _ => fun
  | [d] => { results := [.lit (.bool false)], args := [d] }
  | _ => none }
def IntervalCountsWrongFalsely : Prop := intervalCountsRow.holds Try.pinned (OpenSpec.ofChange intervalCountsWrong)

/- THE SECOND FORM. 'bulk': how many values and letters a reading holds, each counted each time it is reached (what is shared counts as often as it is met; a slice's spare places count too). A statement '..UptoSaid' is the law's where the arguments, and the package variables that the reading takes, are together of bulk at most 1048576: NARROWER than '..Said'. Prove '..Said' where nothing that the law and all that it calls make is longer than what came in: it says more and counts as full. Else prove '..UptoSaid'. A law counts once. -/
mutual
def uptoBulk {H : Type} : DataW H → Nat
  | .lit (.string bytes) => bytes.length + 1
  | .lit _ => 1
  | .nil => 1
  | .ptr d => uptoBulk d + 1
  | .slice elems spare => uptoBulkAll elems + uptoBulkAll spare + 1
  | .agg parts => uptoBulkAll parts + 1
  | .iface _ d => uptoBulk d + 1
  | .map entries => uptoBulkEntries entries + 1
  | .held _ => 1
def uptoBulkAll {H : Type} : List (DataW H) → Nat
  | [] => 0
  | d :: r => uptoBulk d + uptoBulkAll r
def uptoBulkEntries {H : Type} : List (Lit × DataW H) → Nat
  | [] => 0
  | x :: r => uptoBulkEntry x + uptoBulkEntries r
def uptoBulkEntry {H : Type} : Lit × DataW H → Nat
  | (.string bytes, d) => bytes.length + uptoBulk d + 1
  | (_, d) => uptoBulk d + 1
 end
def uptoSmall : (H : Type) → List (DataW H) → Bool := fun _ ds => decide (uptoBulkAll ds ≤ 1048576)
def OpenSpec.upto (s : _root_.Go.ChangeSpec) : _root_.Go.OpenSpec := { _root_.Go.OpenSpec.ofChange s with cond := some uptoSmall }

/-- 'confluentlaw17.IntervalBasics', WHERE WHAT IT READS IS OF BULK AT MOST 1048576: true; the input reads as it did. -/
def intervalBasicsUptoRow : OpenClaim := { program := "ytmecjjfpgjpeoaa", sum := "535924efee74192eb9b5f78bc38d3d6bbafc8bd5092597dd9abf878c53421aa5", func := "confluent/confluentlaw17.IntervalBasics", spec := "intervalBasics", unfollowed := true, recurses := true, apart := false, narrowed := true }
def IntervalBasicsUptoSaid : Prop := intervalBasicsUptoRow.holds Try.pinned (OpenSpec.upto intervalBasicsSpec)

/-- 'confluentlaw17.IntervalSums', WHERE WHAT IT READS IS OF BULK AT MOST 1048576: true; the input reads as it did. -/
def intervalSumsUptoRow : OpenClaim := { program := "ytmecjjfpgjpeoaa", sum := "535924efee74192eb9b5f78bc38d3d6bbafc8bd5092597dd9abf878c53421aa5", func := "confluent/confluentlaw17.IntervalSums", spec := "intervalSums", unfollowed := true, recurses := true, apart := false, narrowed := true }
def IntervalSumsUptoSaid : Prop := intervalSumsUptoRow.holds Try.pinned (OpenSpec.upto intervalSumsSpec)

/-- 'confluentlaw17.IntervalTightens', WHERE WHAT IT READS IS OF BULK AT MOST 1048576: true; the input reads as it did. -/
def intervalTightensUptoRow : OpenClaim := { program := "ytmecjjfpgjpeoaa", sum := "535924efee74192eb9b5f78bc38d3d6bbafc8bd5092597dd9abf878c53421aa5", func := "confluent/confluentlaw17.IntervalTightens", spec := "intervalTightens", unfollowed := true, recurses := true, apart := false, narrowed := true }
def IntervalTightensUptoSaid : Prop := intervalTightensUptoRow.holds Try.pinned (OpenSpec.upto intervalTightensSpec)

/-- 'confluentlaw17.IntervalFixes', WHERE WHAT IT READS IS OF BULK AT MOST 1048576: true; the input reads as it did. -/
def intervalFixesUptoRow : OpenClaim := { program := "ytmecjjfpgjpeoaa", sum := "535924efee74192eb9b5f78bc38d3d6bbafc8bd5092597dd9abf878c53421aa5", func := "confluent/confluentlaw17.IntervalFixes", spec := "intervalFixes", unfollowed := true, recurses := true, apart := false, narrowed := true }
def IntervalFixesUptoSaid : Prop := intervalFixesUptoRow.holds Try.pinned (OpenSpec.upto intervalFixesSpec)

/-- 'confluentlaw17.IntervalKeeps', WHERE WHAT IT READS IS OF BULK AT MOST 1048576: true; the input reads as it did. -/
def intervalKeepsUptoRow : OpenClaim := { program := "ytmecjjfpgjpeoaa", sum := "535924efee74192eb9b5f78bc38d3d6bbafc8bd5092597dd9abf878c53421aa5", func := "confluent/confluentlaw17.IntervalKeeps", spec := "intervalKeeps", unfollowed := true, recurses := true, apart := false, narrowed := true }
def IntervalKeepsUptoSaid : Prop := intervalKeepsUptoRow.holds Try.pinned (OpenSpec.upto intervalKeepsSpec)

/-- 'confluentlaw17.IntervalTight', WHERE WHAT IT READS IS OF BULK AT MOST 1048576: true; the input reads as it did. -/
def intervalTightUptoRow : OpenClaim := { program := "ytmecjjfpgjpeoaa", sum := "535924efee74192eb9b5f78bc38d3d6bbafc8bd5092597dd9abf878c53421aa5", func := "confluent/confluentlaw17.IntervalTight", spec := "intervalTight", unfollowed := true, recurses := true, apart := false, narrowed := true }
def IntervalTightUptoSaid : Prop := intervalTightUptoRow.holds Try.pinned (OpenSpec.upto intervalTightSpec)

/-- 'confluentlaw17.IntervalOrder', WHERE WHAT IT READS IS OF BULK AT MOST 1048576: true; the input reads as it did. -/
def intervalOrderUptoRow : OpenClaim := { program := "ytmecjjfpgjpeoaa", sum := "535924efee74192eb9b5f78bc38d3d6bbafc8bd5092597dd9abf878c53421aa5", func := "confluent/confluentlaw17.IntervalOrder", spec := "intervalOrder", unfollowed := true, recurses := true, apart := false, narrowed := true }
def IntervalOrderUptoSaid : Prop := intervalOrderUptoRow.holds Try.pinned (OpenSpec.upto intervalOrderSpec)

/-- 'confluentlaw17.IntervalCounts', WHERE WHAT IT READS IS OF BULK AT MOST 1048576: true; the input reads as it did. -/
def intervalCountsUptoRow : OpenClaim := { program := "ytmecjjfpgjpeoaa", sum := "535924efee74192eb9b5f78bc38d3d6bbafc8bd5092597dd9abf878c53421aa5", func := "confluent/confluentlaw17.IntervalCounts", spec := "intervalCounts", unfollowed := true, recurses := true, apart := false, narrowed := true }
def IntervalCountsUptoSaid : Prop := intervalCountsUptoRow.holds Try.pinned (OpenSpec.upto intervalCountsSpec)

end Rows
end Go.Proofs.Ytmecjjfpgjpeoaa
