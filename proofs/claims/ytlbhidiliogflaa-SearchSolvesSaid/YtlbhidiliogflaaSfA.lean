
/-
Search: the reference's equality of answers: an answer is the same as itself.
-/
import Derived.Test.YtlbhidiliogflaaSeZ
import Derived.Test.YtlbhidiliogflaaLaw1
import Derived.Deep.MidRow
namespace Go.Proofs.Ytlbhidiliogflaa
set_option linter.unusedSimpArgs false
set_option linter.unusedVariables false
open Go.RowKit

set_option maxRecDepth 100000 in
theorem run_neq_step (w : World) (a b c : Int) : (binOp .neq 37 (.agg #[.int .i64 a, .int .i64 b, .int .i64 c]) (.agg #[.int .i64 a, .int .i64 b, .int .i64 c])).run Try.prog w = .ok (.bool false) w := by
  have hu : Try.prog.underlying 37 = some (.struct (Try.prog.fieldsOf 37)) := by kernel_rfl
  have hf := run_equalIn_struct (P := Try.prog) w 9999 37 #[.int .i64 a, .int .i64 b, .int .i64 c] #[.int .i64 a, .int .i64 b, .int .i64 c] hu (by kernel_rfl)
  simp only [binOp]
  have hfs : (Try.prog.fieldsOf 37).toList = (match Try.prog.underlying 37 with | some (.struct fs) => fs.toList | _ => []) := rfl
  rw [Try.underlying37] at hfs
  simp only [Op.equal, Op.maxDepth, Sem.run_bind, hf, hfs]
  go_simp
theorem Sl.stp {w : World} {A : Option Addr} {n c : Nat} {l : List Stp} (h : Stps w (.slice A n c) l) {k : Nat} (hk : k < l.length) :
    ∃ b o, A = some ⟨b, o, none⟩ ∧ b < w.heap.size ∧ w.cell? ⟨b, o + k * 3, none⟩ = some (.int .i64 l[k].kind) ∧ w.cell? ⟨b, o + k * 3 + 1, none⟩ = some (.int .i64 l[k].index) ∧ w.cell? ⟨b, o + k * 3 + 2, none⟩ = some (.int .i64 l[k].cell) := by
  obtain ⟨b, o, cs, hA, had, hcs, hc, hr⟩ := h.at_ hk
  unfold Pl encStp at hr
  subst hr
  exact ⟨b, o, hA, had, hc 0 _ rfl, hc 1 _ rfl, hc 2 _ rfl⟩
set_option maxRecDepth 8000 in
set_option maxHeartbeats 2000000 in
theorem EqualStp_refl (va vb : Value) (l : List Stp) (w : World) (ha : Stps w va l) (hb : Stps w vb l) :
    Calls Try.prog 14 #[va, vb] w fun e w' => e = .returned (.bool true) ∧ Kp w w' := by
  obtain ⟨A, c, rfl, hc, hm⟩ := ha.form
  obtain ⟨A', c', rfl, hc', hm'⟩ := hb.form
  go_enter Try.func14, Try.ntmps14
  go_wp2
  go_loopw [13] (fun i wr => ∃ k : Nat, k ≤ l.length ∧ i = .int .i64 k ∧ Kp w wr) (fun i _ => l.length - (intOf i).toNat)
  case atStart => exact ⟨0, Nat.zero_le _, rfl, Kp.refl _⟩
  case round =>
    obtain ⟨k, hk, rfl, hbel⟩ := hrel
    by_cases hlt : k < l.length
    · obtain ⟨q, o, rfl, hq, h1, h2, h3⟩ := (ha.keep (pl_stable _) hbel).stp hlt
      obtain ⟨q', o', rfl, hq', h4, h5, h6⟩ := (hb.keep (pl_stable _) hbel).stp hlt
      generalize l[k] = x at *
      obtain ⟨x1, x2, x3⟩ := x
      dsimp only at h1 h2 h3 h4 h5 h6
      have q1 : (0 : Int) ≤ k := by omega
      have q2 : (k : Int) < l.length := by omega
      have hneq := fun W a b c => run_neq_step W a b c
      go_wp2
      go_quiet (fail)
      go_wp2
      go_roundw
      case rel => exact ⟨k + 1, by omega, by go_num, hbel.drewN _⟩
      case measure => simp [intOf]; omega
    · go_wp2
      go_ret
      exact ⟨rfl, hbel⟩
theorem Sl.il {w : World} {A : Option Addr} {n c : Nat} {l : List (List Int)} (h : Sl rdIL 1 w (.slice A n c) l) {k : Nat} (hk : k < l.length) :
    ∃ b o A' c', A = some ⟨b, o, none⟩ ∧ b < w.heap.size ∧ w.cell? ⟨b, o + k, none⟩ = some (.slice A' l[k].length c') ∧ Ints w (.slice A' l[k].length c') l[k] := by
  obtain ⟨b, o, cs, hA, had, hcs, hc, v, rfl, ht⟩ := h.at_ hk
  obtain ⟨A', c', rfl, -, -⟩ := ht.form
  exact ⟨b, o, A', c', hA, had, by simpa using hc 0 _ rfl, ht⟩
theorem Sl.trAt {n : Nat} {w : World} {A : Option Addr} {m c : Nat} {l : List Tr} (h : Sl (rdTr n) 5 w (.slice A m c) l) {k : Nat} (hk : k < l.length) :
    ∃ b o p0 A1 n1 c1 p2 p3 A4 n4 c4, A = some ⟨b, o, none⟩ ∧ b < w.heap.size ∧ w.cell? ⟨b, o + k * 5, none⟩ = some (.int .i64 p0) ∧ w.cell? ⟨b, o + k * 5 + 1, none⟩ = some (.slice A1 n1 c1) ∧ w.cell? ⟨b, o + k * 5 + 2, none⟩ = some (.int .i64 p2) ∧
      w.cell? ⟨b, o + k * 5 + 3, none⟩ = some (.int .i64 p3) ∧ w.cell? ⟨b, o + k * 5 + 4, none⟩ = some (.slice A4 n4 c4) ∧ rdTr n w [.int .i64 p0, .slice A1 n1 c1, .int .i64 p2, .int .i64 p3, .slice A4 n4 c4] l[k] := by
  obtain ⟨b, o, cs, hA, had, hcs, hc, hr⟩ := h.at_ hk
  obtain ⟨h5, -⟩ := rdTr_one _ _ _ _ hr
  obtain ⟨q0, q1, q2, q3, q4, rfl⟩ : ∃ q0 q1 q2 q3 q4, cs = [q0, q1, q2, q3, q4] := by
    match cs, h5 with
    | [q0, q1, q2, q3, q4], _ => exact ⟨q0, q1, q2, q3, q4, rfl⟩
  obtain ⟨p0, p2, p3, A1, A4, n1, c1, n4, c4, rfl, rfl, rfl, rfl, rfl⟩ := rdTr_form hr
  exact ⟨b, o, p0, A1, n1, c1, p2, p3, A4, n4, c4, hA, had, hc 0 _ rfl, hc 1 _ rfl, hc 2 _ rfl, hc 3 _ rfl, hc 4 _ rfl, hr⟩
section
variable {P : Program}
end
end Go.Proofs.Ytlbhidiliogflaa
