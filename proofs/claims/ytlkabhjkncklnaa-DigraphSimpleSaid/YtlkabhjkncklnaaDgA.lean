
/-
Graphs: what opens one, and its edges: the walks.
-/
import Derived.Test.YtlkabhjkncklnaaGM
import Derived.Deep.Cut
namespace Go.Proofs.Ytlkabhjkncklnaa
set_option linter.unusedSimpArgs false
set_option linter.unusedVariables false
open Go.RowKit

def openB (s : Int) (len : Nat) : Bool := decide (1 ≤ s) && decide (s ≤ 6) && decide ((len : Int) = s * s)
/-- whether there is an edge -/
def hasE (n : Nat) (es : List Bool) (a b : Nat) : Bool := es.getD (a * n + b) false
set_option maxHeartbeats 1600000 in
theorem dOpen_any (s : Int) (A : Option Addr) (len c : Nat) (w : World) (hl : len ≤ 9223372036854775807) : Calls Try.prog 42 #[.int .i64 s, .slice A len c] w fun e w' => e = .returned (.tuple #[.agg #[.int .i64 s, .slice A len c], .bool (openB s len)]) ∧ Kp w w' := by
  go_enter Try.func42, Try.ntmps42
  by_cases h1 : 1 ≤ s
  · have e1 : decide (1 ≤ s) = true := decide_eq_true h1
    by_cases h2 : s ≤ 6
    · have e2 : decide (s ≤ 6) = true := decide_eq_true h2
      have hs : s = 1 ∨ s = 2 ∨ s = 3 ∨ s = 4 ∨ s = 5 ∨ s = 6 := by omega
      have hw : wrap64 (s * s) = s * s := by rcases hs with rfl | rfl | rfl | rfl | rfl | rfl <;> decide +kernel
      have hw2 : IntKind.i64.wrap (s * s) = s * s := by rcases hs with rfl | rfl | rfl | rfl | rfl | rfl <;> decide +kernel
      clear hs
      by_cases h3 : (len : Int) = s * s
      · have e3 : ((len : Int) == s * s) = true := by simpa using h3
        have HF : Hid (openB s len = true) := hid (by simp [openB, h1, h2, h3])
        replace h3 := hid h3
        go_wp2
        refine bodyPost_ret (results_cell_bx2 rfl _ _ w.heap.size [.int .i64 s, .slice A len c] _ rfl (Bx.new w #[.int .i64 s, .slice A len c] 51).range Try.underlying51 rfl (by kernel_rfl)) rfl ?_
        exact ⟨by rw [HF.out]; rfl, (Kp.refl w).alloc _⟩
      · have e3 : ((len : Int) == s * s) = false := by simpa using h3
        have HF : Hid (openB s len = false) := hid (by simp [openB, h3])
        go_wp2
        refine bodyPost_ret (results_cell_bx2 rfl _ _ w.heap.size [.int .i64 s, .slice A len c] _ rfl (Bx.new w #[.int .i64 s, .slice A len c] 51).range Try.underlying51 rfl (by kernel_rfl)) rfl ?_
        exact ⟨by rw [HF.out]; rfl, (Kp.refl w).alloc _⟩
    · have e2 : decide (s ≤ 6) = false := decide_eq_false h2
      have HF : Hid (openB s len = false) := hid (by simp [openB, h2])
      go_wp2
      refine bodyPost_ret (results_cell_bx2 rfl _ _ w.heap.size [.int .i64 s, .slice A len c] _ rfl (Bx.new w #[.int .i64 s, .slice A len c] 51).range Try.underlying51 rfl (by kernel_rfl)) rfl ?_
      exact ⟨by rw [HF.out]; rfl, (Kp.refl w).alloc _⟩
  · have e1 : decide (1 ≤ s) = false := decide_eq_false h1
    have HF : Hid (openB s len = false) := hid (by simp [openB, h1])
    go_wp2
    refine bodyPost_ret (results_cell_bx2 rfl _ _ w.heap.size [.int .i64 s, .slice A len c] _ rfl (Bx.new w #[.int .i64 s, .slice A len c] 51).range Try.underlying51 rfl (by kernel_rfl)) rfl ?_
    exact ⟨by rw [HF.out]; rfl, (Kp.refl w).alloc _⟩
theorem idx_lt {n a b : Nat} (ha : a < n) (hb : b < n) : a * n + b < n * n := by
  have h1 : (a + 1) * n ≤ n * n := Nat.mul_le_mul_right n ha
  rw [Nat.add_mul, Nat.one_mul] at h1
  omega
/-- a graph of n vertices -/
def GrV (w : World) (v : Value) (n : Nat) (es : List Bool) : Prop := ∃ vb, v = .agg #[.int .i64 (n : Int), vb] ∧ Bools w vb es ∧ es.length = n * n ∧ 1 ≤ n ∧ n ≤ 6
theorem GrV.kp {w w' : World} {v : Value} {n : Nat} {es : List Bool} (h : GrV w v n es) (k : Kp w w') : GrV w' v n es := by
  obtain ⟨vb, e, h1, h2⟩ := h
  exact ⟨vb, e, h1.keep (pl_stable _) k, h2⟩
set_option maxHeartbeats 1600000 in
theorem dHas_any (v : Value) (n : Nat) (es : List Bool) (a b : Nat) (w : World) (hg : GrV w v n es) (ha : a < n) (hb : b < n) : Calls Try.prog 48 #[v, .int .i64 (a : Int), .int .i64 (b : Int)] w fun e w' => e = .returned (.bool (hasE n es a b)) ∧ Kp w w' := by
  obtain ⟨vb, rfl, hes, hl, h1, h6⟩ := hg
  obtain ⟨A, c, rfl, hc, hm⟩ := hes.form
  have hk : a * n + b < es.length := by rw [hl]; exact idx_lt ha hb
  obtain ⟨g, o, rfl, hg, i0⟩ := hes.bools hk
  have HF : Hid (hasE n es a b = es[a * n + b]) := hid (by unfold hasE; rw [List.getD_eq_getElem?_getD, List.getElem?_eq_getElem hk]; rfl)
  have h36 : a * n ≤ 36 := by
    have := Nat.mul_le_mul (Nat.le_of_lt (Nat.lt_of_lt_of_le ha h6)) h6
    omega
  have hp : (a : Int) * (n : Int) = ((a * n : Nat) : Int) := by push_cast; rfl
  generalize es[a * n + b] = x at *
  rw [HF.out]
  generalize a * n = m at *
  have hkl : (m : Int) + (b : Int) < (es.length : Int) := by omega
  have hbb : b ≤ 6 := by omega
  have hz := hid hl
  have hB := Bx.new w #[.int .i64 (n : Int), .slice (some ⟨g, o, none⟩) es.length c] 51
  have k0 := (Kp.refl w).alloc (.cells #[.int .i64 (n : Int), .slice (some ⟨g, o, none⟩) es.length c] 51)
  have c0 := hB.cell (j := 0) rfl
  have c1 := hB.cell (j := 1) rfl
  have i1 := k0.cellS i0
  clear hes hl HF hB i0
  go_enter Try.func48, Try.ntmps48
  go_wp2
  go_ret
  exact ⟨rfl, k0⟩
end Go.Proofs.Ytlkabhjkncklnaa
