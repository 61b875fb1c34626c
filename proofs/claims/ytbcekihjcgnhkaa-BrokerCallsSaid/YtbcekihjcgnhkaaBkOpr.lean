
/-
How needs, lists of needs, requests and calls open.
-/
import Derived.Test.YtbcekihjcgnhkaaBkOpen
import Derived.Test.YtbcekihjcgnhkaaBkZa
namespace Go.Proofs.Ytbcekihjcgnhkaa
set_option linter.unusedSimpArgs false
set_option linter.unusedVariables false
open Go.ChangeShapes Go.WideShapes Go.ChangeAt Go.RowKit

section
variable {H : Type} {enc : TypeId × Value → H} {w : World} {base : Nat} {spare : Nat → Bool} {held : Bool}
theorem opRt (n : Nat) (cs : List Value) (y : DataW H × List MemPlace) (h : DataW.trod enc Try.prog w base spare held n 39 cs = some y) : ∃ x : Rt, cs = [.int .i64 x.1, .int .i64 x.2.1, .int .i64 x.2.2] := by
  obtain ⟨hl, hf⟩ := opF Try.underlying39 h
  rw [show Try.prog.cellsOf 39 = 3 by kernel_rfl] at hl
  match cs, hl with
  | [u0, u1, u2], _ =>
    obtain ⟨a, rfl⟩ := opI Try.underlying3 (u := u0) (hf 0 _ 1 rfl (by kernel_rfl))
    obtain ⟨b, rfl⟩ := opI Try.underlying3 (u := u1) (hf 1 _ 1 rfl (by kernel_rfl))
    obtain ⟨c, rfl⟩ := opI Try.underlying3 (u := u2) (hf 2 _ 1 rfl (by kernel_rfl))
    exact ⟨(a, b, c), rfl⟩
theorem opNd (n : Nat) (cs : List Value) (y : DataW H × List MemPlace) (h : DataW.trod enc Try.prog w base spare held n 41 cs = some y) : ∃ x : Nd, Pl encNd w cs x := by
  obtain ⟨hl, hf⟩ := opF Try.underlying41 h
  rw [show Try.prog.cellsOf 41 = 4 by kernel_rfl] at hl
  match cs, hl with
  | [u0, u1, u2, u3], _ =>
    obtain ⟨m, d, p, t0⟩ := hf 0 _ 3 rfl (by kernel_rfl)
    obtain ⟨x, hx⟩ := opRt _ [u0, u1, u2] _ t0
    obtain ⟨a, rfl⟩ := opI Try.underlying3 (u := u3) (hf 1 _ 1 rfl (by kernel_rfl))
    simp only [List.cons.injEq, and_true] at hx
    obtain ⟨rfl, rfl, rfl⟩ := hx
    exact ⟨(x, a), rfl⟩
theorem opNds {v : Value} {n : Nat} {y : DataW H × List MemPlace} (h : DataW.trod enc Try.prog w base spare held n 27 [v] = some y) : ∃ l, Nds w v l :=
  opS Try.underlying27 (by kernel_rfl) (by omega) opNd h
theorem opAsk (n : Nat) (cs : List Value) (y : DataW H × List MemPlace) (h : DataW.trod enc Try.prog w base spare held n 29 cs = some y) : ∃ (a : Ak) (v : Value), cs = askL a v ∧ Nds w v a.needs := by
  obtain ⟨hl, hf⟩ := opF Try.underlying29 h
  rw [show Try.prog.cellsOf 29 = 6 by kernel_rfl] at hl
  match cs, hl with
  | [u0, u1, u2, u3, u4, u5], _ =>
    obtain ⟨num, rfl⟩ := opI Try.underlying3 (u := u0) (hf 0 _ 1 rfl (by kernel_rfl))
    obtain ⟨m1, d1, p1, t1⟩ := hf 1 _ 4 rfl (by kernel_rfl)
    obtain ⟨pr, hpr⟩ := opPr _ [u1, u2, u3, u4] _ t1
    obtain ⟨m2, d2, p2, t2⟩ := hf 2 _ 1 rfl (by kernel_rfl)
    obtain ⟨l, hl2⟩ := opNds (v := u5) t2
    unfold prL at hpr
    simp only [List.cons.injEq, and_true] at hpr
    obtain ⟨rfl, rfl, rfl, rfl⟩ := hpr
    exact ⟨⟨num, pr, l⟩, u5, rfl, hl2⟩
theorem opAc (n : Nat) (cs : List Value) (y : DataW H × List MemPlace) (h : DataW.trod enc Try.prog w base spare held n 62 cs = some y) : ∃ x : Ac, rdAc w cs x := by
  obtain ⟨hl, hf⟩ := opF Try.underlying62 h
  rw [show Try.prog.cellsOf 62 = 9 by kernel_rfl] at hl
  match cs, hl with
  | [u0, u1, u2, u3, u4, u5, u6, u7, u8], _ =>
    obtain ⟨kd, rfl⟩ := opI Try.underlying3 (u := u0) (hf 0 _ 1 rfl (by kernel_rfl))
    obtain ⟨fr, rfl⟩ := opI Try.underlying3 (u := u1) (hf 1 _ 1 rfl (by kernel_rfl))
    obtain ⟨m1, d1, p1, t1⟩ := hf 2 _ 6 rfl (by kernel_rfl)
    obtain ⟨a, v, ha, hv⟩ := opAsk _ [u2, u3, u4, u5, u6, u7] _ t1
    obtain ⟨m2, d2, p2, t2⟩ := hf 3 _ 1 rfl (by kernel_rfl)
    obtain ⟨l, hl2⟩ := opNds (v := u8) t2
    unfold askL at ha
    simp only [List.cons.injEq, and_true] at ha
    obtain ⟨rfl, rfl, rfl, rfl, rfl, rfl⟩ := ha
    exact ⟨⟨kd, fr, a, l⟩, _, _, rfl, hv, hl2⟩
theorem opAcs {v : Value} {n : Nat} {y : DataW H × List MemPlace} (h : DataW.trod enc Try.prog w base spare held n 55 [v] = some y) : ∃ l, Acs w v l :=
  opS Try.underlying55 (by kernel_rfl) (by omega) opAc h
end
end Go.Proofs.Ytbcekihjcgnhkaa
