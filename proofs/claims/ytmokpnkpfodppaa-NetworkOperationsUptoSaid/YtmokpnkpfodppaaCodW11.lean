
/-
The writer: the fields of a record that its kind names, or the other ones.
-/
import Derived.Test.YtmokpnkpfodppaaWB
namespace Go.Proofs.Ytmokpnkpfodppaa
set_option linter.unusedSimpArgs false
set_option linter.unusedVariables false
open Go.RowKit

/-- how a record lies as a value -/
def RecordV (w : World) (val : Value) (r : Record) : Prop :=
  ∃ v0 v1 v2 v3 v4 v5 v6 v7, val = .agg #[.int .i64 r.kind, .int .i64 r.event.replica, .int .i64 r.event.number, .int .i64 r.event.time, v0, .int .i64 r.event.kind, .int .i64 r.event.action, .int .i64 r.event.give.kind, .int .i64 r.event.give.index, .int .i64 r.event.give.element, .int .i64 r.event.give.amount, .int .i64 r.event.to, .int .i64 r.event.place, .int .i64 r.event.serial, v1, .int .i64 r.base.time, v2, v3, v4, v5, v6, .int .i64 r.term, .int .i64 r.vote, .int .i64 r.index, .int .i64 r.entry.term, .int .i64 r.entry.kind, .int .i64 r.entry.replica, .int .i64 r.entry.serial, .int .i64 r.entry.action, v7] ∧
    Ints w v0 r.event.past ∧ Ints w v1 r.base.clock ∧ Ints w v2 r.base.state ∧ Mergeds w v3 r.base.merged ∧ Intss w v4 r.base.rights ∧ Intsss w v5 r.base.shares ∧ Ints w v6 r.base.places ∧ Ints w v7 r.entry.voters
/-- the numbers of the fields that the kind names, or of the other ones -/
def numPart (r : Record) (named : Bool) : List Int :=
  (if decide (r.kind = 0) == named then numEvent r.event else []) ++ (if decide (r.kind = 1) == named then numBase r.base else []) ++ (if decide (r.kind = 2) == named then [r.term, r.vote] else []) ++ (if decide (r.kind = 3 ∨ r.kind = 4) == named then [r.index] else []) ++ (if decide (r.kind = 3) == named then numEntry r.entry else [])
/-- all numbers of a record -/
def sizeRecord (r : Record) : Nat := (numEvent r.event).length + (numBase r.base).length + (numEntry r.entry).length + 10

end Go.Proofs.Ytmokpnkpfodppaa
