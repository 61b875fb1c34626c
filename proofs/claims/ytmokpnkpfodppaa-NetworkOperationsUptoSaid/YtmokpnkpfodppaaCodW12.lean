
/-
The writer: a record, lists of records; which records are well-formed.
-/
import Derived.Test.YtmokpnkpfodppaaCodW11
import Derived.Deep.MidRow
namespace Go.Proofs.Ytmokpnkpfodppaa
set_option linter.unusedSimpArgs false
set_option linter.unusedVariables false
open Go.RowKit

def rdRecord : Rd Record := fun w cs r => ∃ v0 v1 v2 v3 v4 v5 v6 v7, cs = [.int .i64 r.kind, .int .i64 r.event.replica, .int .i64 r.event.number, .int .i64 r.event.time, v0, .int .i64 r.event.kind, .int .i64 r.event.action, .int .i64 r.event.give.kind, .int .i64 r.event.give.index, .int .i64 r.event.give.element, .int .i64 r.event.give.amount, .int .i64 r.event.to, .int .i64 r.event.place, .int .i64 r.event.serial, v1, .int .i64 r.base.time, v2, v3, v4, v5, v6, .int .i64 r.term, .int .i64 r.vote, .int .i64 r.index, .int .i64 r.entry.term, .int .i64 r.entry.kind, .int .i64 r.entry.replica, .int .i64 r.entry.serial, .int .i64 r.entry.action, v7] ∧ Ints w v0 r.event.past ∧ Ints w v1 r.base.clock ∧ Ints w v2 r.base.state ∧ Mergeds w v3 r.base.merged ∧ Intss w v4 r.base.rights ∧ Intsss w v5 r.base.shares ∧ Ints w v6 r.base.places ∧ Ints w v7 r.entry.voters
theorem rdRecord_stable : Stable rdRecord := fun _ _ _ _ hb ⟨v0, v1, v2, v3, v4, v5, v6, v7, h1, p0, p1, p2, p3, p4, p5, p6, p7⟩ =>
  ⟨v0, v1, v2, v3, v4, v5, v6, v7, h1, p0.keep (pl_stable _) hb, p1.keep (pl_stable _) hb, p2.keep (pl_stable _) hb, p3.keep rdMerged_stable hb, p4.keep rdInts_stable hb, p5.keep rdIntss_stable hb, p6.keep (pl_stable _) hb, p7.keep (pl_stable _) hb⟩
abbrev Records := Sl rdRecord 30
theorem Sl.record {w : World} {A : Option Addr} {n c : Nat} {l : List Record} (h : Records w (.slice A n c) l) {k : Nat} (hk : k < l.length) :
    ∃ b o A0 c0 A1 c1 A2 c2 A3 c3 A4 c4 A5 c5 A6 c6 A7 c7, A = some ⟨b, o, none⟩ ∧ b < w.heap.size ∧ (∀ j u, ([.int .i64 l[k].kind, .int .i64 l[k].event.replica, .int .i64 l[k].event.number, .int .i64 l[k].event.time, .slice A0 l[k].event.past.length c0, .int .i64 l[k].event.kind, .int .i64 l[k].event.action, .int .i64 l[k].event.give.kind, .int .i64 l[k].event.give.index, .int .i64 l[k].event.give.element, .int .i64 l[k].event.give.amount, .int .i64 l[k].event.to, .int .i64 l[k].event.place, .int .i64 l[k].event.serial, .slice A1 l[k].base.clock.length c1, .int .i64 l[k].base.time, .slice A2 l[k].base.state.length c2, .slice A3 l[k].base.merged.length c3, .slice A4 l[k].base.rights.length c4, .slice A5 l[k].base.shares.length c5, .slice A6 l[k].base.places.length c6, .int .i64 l[k].term, .int .i64 l[k].vote, .int .i64 l[k].index, .int .i64 l[k].entry.term, .int .i64 l[k].entry.kind, .int .i64 l[k].entry.replica, .int .i64 l[k].entry.serial, .int .i64 l[k].entry.action, .slice A7 l[k].entry.voters.length c7] : List Value)[j]? = some u → w.cell? ⟨b, o + k * 30 + j, none⟩ = some u) ∧ Ints w (.slice A0 l[k].event.past.length c0) l[k].event.past ∧ Ints w (.slice A1 l[k].base.clock.length c1) l[k].base.clock ∧ Ints w (.slice A2 l[k].base.state.length c2) l[k].base.state ∧ Mergeds w (.slice A3 l[k].base.merged.length c3) l[k].base.merged ∧ Intss w (.slice A4 l[k].base.rights.length c4) l[k].base.rights ∧ Intsss w (.slice A5 l[k].base.shares.length c5) l[k].base.shares ∧ Ints w (.slice A6 l[k].base.places.length c6) l[k].base.places ∧ Ints w (.slice A7 l[k].entry.voters.length c7) l[k].entry.voters := by
  obtain ⟨b, o, cs, hA, had, hcs, hc, v0, v1, v2, v3, v4, v5, v6, v7, rfl, p0, p1, p2, p3, p4, p5, p6, p7⟩ := h.at_ hk
  obtain ⟨A0, c0, rfl, -, -⟩ := p0.form
  obtain ⟨A1, c1, rfl, -, -⟩ := p1.form
  obtain ⟨A2, c2, rfl, -, -⟩ := p2.form
  obtain ⟨A3, c3, rfl, -, -⟩ := p3.form
  obtain ⟨A4, c4, rfl, -, -⟩ := p4.form
  obtain ⟨A5, c5, rfl, -, -⟩ := p5.form
  obtain ⟨A6, c6, rfl, -, -⟩ := p6.form
  obtain ⟨A7, c7, rfl, -, -⟩ := p7.form
  exact ⟨b, o, A0, c0, A1, c1, A2, c2, A3, c3, A4, c4, A5, c5, A6, c6, A7, c7, hA, had, hc, p0, p1, p2, p3, p4, p5, p6, p7⟩
theorem RecordV.of {w : World} {cs : List Value} {r : Record} (h : rdRecord w cs r) : RecordV w (.agg cs.toArray) r := by
  obtain ⟨v0, v1, v2, v3, v4, v5, v6, v7, rfl, h⟩ := h
  exact ⟨v0, v1, v2, v3, v4, v5, v6, v7, rfl, h⟩
theorem RecordV.kp {w w' : World} {val : Value} {r : Record} (h : RecordV w val r) (hb : Kp w w') : RecordV w' val r := by
  obtain ⟨v0, v1, v2, v3, v4, v5, v6, v7, rfl, p0, p1, p2, p3, p4, p5, p6, p7⟩ := h
  exact ⟨v0, v1, v2, v3, v4, v5, v6, v7, rfl, p0.keep (pl_stable _) hb, p1.keep (pl_stable _) hb, p2.keep (pl_stable _) hb, p3.keep rdMerged_stable hb, p4.keep rdInts_stable hb, p5.keep rdIntss_stable hb, p6.keep (pl_stable _) hb, p7.keep (pl_stable _) hb⟩
def numRecord (r : Record) : List Int := r.kind :: numPart r true
theorem part_le (r : Record) (b : Bool) : (numPart r b).length ≤ sizeRecord r := by
  unfold numPart sizeRecord
  simp only [List.length_append]
  have : ∀ (c : Bool) (l : List Int), (if c = true then l else []).length ≤ l.length := by intro c l; cases c <;> simp
  have h1 := this (decide (r.kind = 0) == b) (numEvent r.event)
  have h2 := this (decide (r.kind = 1) == b) (numBase r.base)
  have h3 := this (decide (r.kind = 2) == b) [r.term, r.vote]
  have h4 := this (decide (r.kind = 3 ∨ r.kind = 4) == b) [r.index]
  have h5 := this (decide (r.kind = 3) == b) (numEntry r.entry)
  simp only [List.length_cons, List.length_nil] at h3 h4
  omega
end Go.Proofs.Ytmokpnkpfodppaa
