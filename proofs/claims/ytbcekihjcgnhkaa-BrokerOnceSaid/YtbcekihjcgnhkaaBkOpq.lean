
/-
How needs, lists of needs, requests and bytes open.
-/
import Derived.Test.YtbcekihjcgnhkaaBkOpen
import Derived.Test.YtbcekihjcgnhkaaBkX
namespace Go.Proofs.Ytbcekihjcgnhkaa
set_option linter.unusedSimpArgs false
set_option linter.unusedVariables false
open Go.ChangeShapes Go.WideShapes Go.ChangeAt Go.RowKit

theorem u8_wf {x : Int} (h : (Lit.int .u8 x).wf = true) : 0 ≤ x ∧ x < 256 := by
  have h1 : (decide (IntKind.u8.min ≤ x) && decide (x ≤ IntKind.u8.max)) = true := h
  rw [show IntKind.u8.min = 0 by decide, show IntKind.u8.max = 255 by decide] at h1
  simp only [Bool.and_eq_true, decide_eq_true_eq] at h1
  omega
section
variable {H : Type} {enc : TypeId × Value → H} {w : World} {base : Nat} {spare : Nat → Bool} {held : Bool}
def PlB (_ : World) (cs : List Value) (x : Int) : Prop := cs = encU8 x ∧ 0 ≤ x ∧ x < 256
theorem opU8 (n : Nat) (cs : List Value) (y : DataW H × List MemPlace) (h : DataW.trod enc Try.prog w base spare held n 5 cs = some y) : ∃ x : Int, PlB w cs x := by
  obtain ⟨x, rfl, -, hw⟩ := DataW.trod_int Try.underlying5 h
  exact ⟨x, rfl, (u8_wf hw).1, (u8_wf hw).2⟩
theorem slB {v : Value} {l : List Int} (h : Sl PlB 1 w v l) : Sl (Pl encU8) 1 w v l ∧ ∀ x ∈ l, 0 ≤ x ∧ x < 256 := by
  refine ⟨by simpa using h.imp (S := Pl encU8) id (fun cs x hx => hx.1), fun x hx => ?_⟩
  obtain ⟨k, hk, rfl⟩ := List.getElem_of_mem hx
  obtain ⟨A, c, rfl, h1, h2, h3⟩ := h
  obtain ⟨b, o, cs, -, -, -, -, hr⟩ := h3 k hk
  exact ⟨hr.2.1, hr.2.2⟩
theorem opU8s {v : Value} {n : Nat} {y : DataW H × List MemPlace} (h : DataW.trod enc Try.prog w base spare held n 30 [v] = some y) : ∃ l, Sl (Pl encU8) 1 w v l ∧ ∀ x ∈ l, 0 ≤ x ∧ x < 256 := by
  obtain ⟨l, hl⟩ := opS (R := PlB) (size := 1) Try.underlying30 (by kernel_rfl) (by omega) opU8 h
  exact ⟨l, slB hl⟩
theorem opRt (n : Nat) (cs : List Value) (y : DataW H × List MemPlace) (h : DataW.trod enc Try.prog w base spare held n 39 cs = some y) : ∃ x : Rt, cs = [.int .i64 x.1, .int .i64 x.2.1, .int .i64 x.2.2] := by
  obtain ⟨hl, hf⟩ := opF Try.underlying39 h
  rw [show Try.prog.cellsOf 39 = 3 by kernel_rfl] at hl
  match cs, hl with
  | [u0, u1, u2], _ =>
    obtain ⟨a, rfl⟩ := opI Try.underlying3 (u := u0) (hf 0 _ 1 rfl (by kernel_rfl))
    obtain ⟨b, rfl⟩ := opI Try.underlying3 (u := u1) (hf 1 _ 1 rfl (by kernel_rfl))
    obtain ⟨c, rfl⟩ := opI Try.underlying3 (u := u2) (hf 2 _ 1 rfl (by kernel_rfl))
    exact ⟨(a, b, c), rfl⟩
theorem opNd (n : Nat) (cs : List Value) (y : DataW H × List MemPlace) (h : DataW.trod enc Try.prog w base spare held n 41 cs = some y) : ∃ x : Nd, Pl encNd w cs x := by
  obtain ⟨hl, hf⟩ := opF Try.underlying41 h
  rw [show Try.prog.cellsOf 41 = 4 by kernel_rfl] at hl
  match cs, hl with
  | [u0, u1, u2, u3], _ =>
    obtain ⟨m, d, p, t0⟩ := hf 0 _ 3 rfl (by kernel_rfl)
    obtain ⟨x, hx⟩ := opRt _ [u0, u1, u2] _ t0
    obtain ⟨a, rfl⟩ := opI Try.underlying3 (u := u3) (hf 1 _ 1 rfl (by kernel_rfl))
    simp only [List.cons.injEq, and_true] at hx
    obtain ⟨rfl, rfl, rfl⟩ := hx
    exact ⟨(x, a), rfl⟩
theorem opNds {v : Value} {n : Nat} {y : DataW H × List MemPlace} (h : DataW.trod enc Try.prog w base spare held n 27 [v] = some y) : ∃ l, Nds w v l :=
  opS Try.underlying27 (by kernel_rfl) (by omega) opNd h
theorem opAsk (n : Nat) (cs : List Value) (y : DataW H × List MemPlace) (h : DataW.trod enc Try.prog w base spare held n 29 cs = some y) : ∃ (a : Ak) (v : Value), cs = askL a v ∧ Nds w v a.needs := by
  obtain ⟨hl, hf⟩ := opF Try.underlying29 h
  rw [show Try.prog.cellsOf 29 = 6 by kernel_rfl] at hl
  match cs, hl with
  | [u0, u1, u2, u3, u4, u5], _ =>
    obtain ⟨num, rfl⟩ := opI Try.underlying3 (u := u0) (hf 0 _ 1 rfl (by kernel_rfl))
    obtain ⟨m1, d1, p1, t1⟩ := hf 1 _ 4 rfl (by kernel_rfl)
    obtain ⟨pr, hpr⟩ := opPr _ [u1, u2, u3, u4] _ t1
    obtain ⟨m2, d2, p2, t2⟩ := hf 2 _ 1 rfl (by kernel_rfl)
    obtain ⟨l, hl2⟩ := opNds (v := u5) t2
    unfold prL at hpr
    simp only [List.cons.injEq, and_true] at hpr
    obtain ⟨rfl, rfl, rfl, rfl⟩ := hpr
    exact ⟨⟨num, pr, l⟩, u5, rfl, hl2⟩
end
end Go.Proofs.Ytbcekihjcgnhkaa
