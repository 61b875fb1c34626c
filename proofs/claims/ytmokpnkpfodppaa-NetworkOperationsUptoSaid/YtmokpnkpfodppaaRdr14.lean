
/-
The reader: a record.
-/
import Derived.Test.YtmokpnkpfodppaaRdr11
import Derived.Test.YtmokpnkpfodppaaRE
namespace Go.Proofs.Ytmokpnkpfodppaa
set_option linter.unusedSimpArgs false
set_option linter.unusedVariables false
open Go.RowKit

abbrev zE : Event := ⟨0, 0, 0, [], 0, 0, ⟨0, 0, 0, 0⟩, 0, 0, 0⟩
abbrev zB : Base := ⟨[], 0, [], [], [], [], []⟩
abbrev zN : Entry := ⟨0, 0, 0, 0, 0, []⟩
/-- how a record is read -/
def recordP : Ps Record := bindP intP fun k =>
  if k = 0 then bindP eventP fun e => retP ⟨0, e, zB, 0, 0, 0, zN⟩
  else if k = 1 then bindP baseP fun b => retP ⟨1, zE, b, 0, 0, 0, zN⟩
  else if k = 2 then bindP (loopP intP 2) fun xs => retP ⟨2, zE, zB, xs.getD 0 0, xs.getD 1 0, 0, zN⟩
  else if k = 3 then bindP intP fun i => bindP entryP fun n => retP ⟨3, zE, zB, 0, 0, i, n⟩
  else if k = 4 then bindP intP fun i => retP ⟨4, zE, zB, 0, 0, i, zN⟩
  else noP
theorem event_in {w : World} {a b c d e f h i j k m n : Int} {v : Value} {x : Event} (hh : rdEvent w [.int .i64 a, .int .i64 b, .int .i64 c, v, .int .i64 d, .int .i64 e, .int .i64 f, .int .i64 h, .int .i64 i, .int .i64 j, .int .i64 k, .int .i64 m, .int .i64 n] x) : Ints w v x.past := by
  obtain ⟨v', h1, h2⟩ := hh
  simp only [List.cons.injEq] at h1
  obtain ⟨-, -, -, rfl, -⟩ := h1
  exact h2
theorem entry_in {w : World} {a b c d e : Int} {v : Value} {x : Entry} (hh : rdEntry w [.int .i64 a, .int .i64 b, .int .i64 c, .int .i64 d, .int .i64 e, v] x) : Ints w v x.voters := by
  obtain ⟨v', h1, h2⟩ := hh
  simp only [List.cons.injEq] at h1
  obtain ⟨-, -, -, -, -, rfl, -⟩ := h1
  exact h2
theorem base_in {w : World} {v0 v2 v3 v4 v5 v6 : Value} {t : Int} {b : Base} (hh : rdBaseC w [v0, .int .i64 t, v2, v3, v4, v5, v6] b) : Ints w v0 b.clock ∧ Ints w v2 b.state ∧ Mergeds w v3 b.merged ∧ Intss w v4 b.rights ∧ Intsss w v5 b.shares ∧ Ints w v6 b.places := by
  obtain ⟨u0, u2, u3, u4, u5, u6, h1, h2⟩ := hh
  simp only [List.cons.injEq] at h1
  obtain ⟨rfl, -, rfl, rfl, rfl, rfl, rfl, -⟩ := h1
  exact h2
theorem base_one {w : World} {cs : List Value} {x : Base} (h : rdBaseC w cs x) : cs.length = 7 ∧ ∀ u ∈ cs, u.oneCell' = true := by
  obtain ⟨v0, v2, v3, v4, v5, v6, rfl, p0, p2, p3, p4, p5, p6⟩ := h
  obtain ⟨A0, c0, rfl, -, -⟩ := p0.form
  obtain ⟨A2, c2, rfl, -, -⟩ := p2.form
  obtain ⟨A3, c3, rfl, -, -⟩ := p3.form
  obtain ⟨A4, c4, rfl, -, -⟩ := p4.form
  obtain ⟨A5, c5, rfl, -, -⟩ := p5.form
  obtain ⟨A6, c6, rfl, -, -⟩ := p6.form
  exact ⟨rfl, by simp [Value.oneCell']⟩
theorem Kb.setg {g b : Nat} {w w' : World} (h : Kb g b w w') (j : Nat) (u : Value) : Kb g b w (w'.setCell ⟨g, j, none⟩ u) :=
  ⟨h.os, h.tape, h.output, by rw [set_size]; exact h.size, fun k hk h1 h2 => by rw [set_block _ _ _ _ h1]; exact h.block k hk h1 h2⟩


end Go.Proofs.Ytmokpnkpfodppaa
