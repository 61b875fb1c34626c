
/-
The reference's network: Deliver: slices of the copies in flight; what is delivered.
-/
import Derived.Test.YtmokpnkpfodppaaOpE
namespace Go.Proofs.Ytmokpnkpfodppaa
set_option linter.unusedSimpArgs false
set_option linter.unusedVariables false
open Go.RowKit

theorem slice_pre (A : Option Addr) (n c k : Nat) (h1 : k ≤ n) (h2 : n ≤ c) (w : World) : (Instr.slice 63 (.slice A n c) none (some (.int .i64 (k : Int))) none).run Try.prog w = .ok (.slice A k c) w := by
  have hz : Sem.run Try.prog (sizeOf 116) w = .ok 20 w := by kernel_rfl
  have hk : (k : Int) ≤ (c : Int) := by omega
  have hk2 : k ≤ c := by omega
  have hA : (if c = 0 then A else Option.map (fun x => x.add 0) A) = A := by
    split
    · rfl
    · cases A with
      | none => rfl
      | some a => simp [Addr.add]
  unfold Instr.slice Instr.sliceBounds Instr.sliceBound
  simp [run_underlying Try.underlying63, hz, hk2, asIntOf, hA]
theorem slice_suf (A : Option Addr) (n c k : Nat) (h1 : k ≤ n) (h2 : n ≤ c) (w : World) : (Instr.slice 63 (.slice A n c) (some (.int .i64 (k : Int))) none none).run Try.prog w = .ok (.slice (if c = k then A else A.map (·.add (k * 20))) (n - k) (c - k)) w := by
  have hz : Sem.run Try.prog (sizeOf 116) w = .ok 20 w := by kernel_rfl
  have hk : (k : Int) ≤ (n : Int) := by omega
  unfold Instr.slice Instr.sliceBounds Instr.sliceBound
  simp [run_underlying Try.underlying63, hz, hk, asIntOf]
  intro h
  omega
theorem Sl.suf {α : Type} {R : Rd α} {w : World} {A : Option Addr} {n c : Nat} {l : List α} (h : Sl R 20 w (.slice A n c) l) (k : Nat) (hk : k ≤ l.length) : Sl R 20 w (.slice (if c = k then A else A.map (·.add (k * 20))) (n - k) (c - k)) (l.drop k) := by
  obtain ⟨A', c', he, h1, h2, h3⟩ := h
  injection he with e1 e2 e3
  subst e1 e3
  refine ⟨_, _, by rw [List.length_drop, e2], by rw [List.length_drop]; omega, by omega, fun j hj => ?_⟩
  rw [List.length_drop] at hj
  obtain ⟨b, o, cs, rfl, hb, hcs, hc, hr⟩ := h3 (k + j) (by omega)
  refine ⟨b, o + k * 20, cs, ?_, hb, hcs, fun i u hi => ?_, by rw [List.getElem_drop]; exact hr⟩
  · rw [if_neg (by omega)]
    simp [Addr.add]
  · have := hc i u hi
    rw [Nat.add_mul, ← Nat.add_assoc] at this
    exact this
theorem Sl.pre {α : Type} {R : Rd α} {size : Nat} {w : World} {A : Option Addr} {n c : Nat} {l : List α} (h : Sl R size w (.slice A n c) l) (m : Nat) (hm : m ≤ l.length) : Sl R size w (.slice A m c) (l.take m) := by
  obtain ⟨A', c', he, h1, h2, h3⟩ := h
  injection he with e1 e2 e3
  subst e1 e3
  refine ⟨A, c, by rw [List.length_take, Nat.min_eq_left hm], by rw [List.length_take]; omega, h2, fun k hk => ?_⟩
  have hk' : k < l.length := by rw [List.length_take] at hk; omega
  obtain ⟨b, o, cs, hA, had, hcs, hc, hr⟩ := h3 k hk'
  exact ⟨b, o, cs, hA, had, hcs, hc, by rw [List.getElem_take]; exact hr⟩
/-- one copy is taken out -/
def popR (s : RSt) (i : Nat) : RSt := { s with flight := s.flight.take i ++ s.flight.drop (i + 1) }
def oneR (s : RSt) (out : List Message) (i : Nat) (m : Message) : RSt × List Message :=
  if linkR s m.sender m.to then ({ popR s i with delivered := s.delivered + 1 }, out ++ [m]) else ({ popR s i with lost := s.lost + 1 }, out)
def delR (t : Int) : Nat → RSt × List Message → RSt × List Message
  | 0, p => p
  | n + 1, (s, out) =>
    if 0 ≤ firstR s.flight ∧ (s.flight.getD (firstR s.flight).toNat default).due ≤ t then delR t n (oneR s out (firstR s.flight).toNat (s.flight.getD (firstR s.flight).toNat default).m) else (s, out)
def deliverQ (s : RSt) (t : Int) : RSt × List Message × Int :=
  if lateB s.tick t then (s, [], 2) else ((delR t s.flight.length ({ s with tick := t }, [])).1, (delR t s.flight.length ({ s with tick := t }, [])).2, 0)
theorem delR_stop (t : Int) (s : RSt) (out : List Message) {j : Nat} (h2 : firstR s.flight = (j : Int)) (hj : j < s.flight.length) (hd : ¬ s.flight[j].due ≤ t) : ∀ n, delR t n (s, out) = (s, out)
  | 0 => rfl
  | n + 1 => by
    rw [delR, if_neg]
    rintro ⟨-, h⟩
    rw [h2] at h
    simp [List.getD, hj] at h
    exact hd h
theorem delR_go (t : Int) (s : RSt) (out : List Message) {j : Nat} (h2 : firstR s.flight = (j : Int)) (hj : j < s.flight.length) (hd : s.flight[j].due ≤ t) (n : Nat) : delR t (n + 1) (s, out) = delR t n (oneR s out j s.flight[j].m) := by
  have e : s.flight.getD j default = s.flight[j] := by simp [List.getD, hj]
  rw [delR, if_pos, h2, Int.toNat_natCast, e]
  rw [h2, Int.toNat_natCast, e]
  exact ⟨by omega, hd⟩
theorem results_cell_bx3 {P : Program} {fn : Func} {p u u' : Tmp} {ty : TypeId} (h : fn.results = #[.cell p ty, .tmp u, .tmp u']) (tmps : Array Value) (w : World) (b : Nat) (cs : List Value) (d : TypeDesc)
    (hp : tmps.getD p undef = .pointer (some ⟨b, 0, none⟩)) (hc : w.rangeAt b 0 cs) (hu : P.underlying ty = some d) (hd : d.isRow = true) (hi : (P.info? ty).map (·.size) = some cs.length) :
    (results fn tmps).run P w = .ok (.tuple #[.agg cs.toArray, tmps.getD u undef, tmps.getD u' undef]) w := by
  have hp' : tmps[p]?.getD undef = .pointer (some ⟨b, 0, none⟩) := by simpa using hp
  simp [results, h, hp', asAddr, run_loadVar_mid w b 0 ty cs d hc hu hd hi]
theorem OkR.step {s : RSt} (h : OkR s) {i : Nat} (hi : i < s.flight.length) (m : Message) (out : List Message) : (oneR s out i m).1.flight.length + 1 = s.flight.length ∧ (oneR s out i m).1.delivered + (oneR s out i m).1.lost = s.delivered + s.lost + 1 ∧
    0 ≤ (oneR s out i m).1.delivered ∧ 0 ≤ (oneR s out i m).1.lost ∧ (oneR s out i m).2.length ≤ out.length + 1 := by
  have := h.delivered.1
  have := h.lost.1
  unfold oneR
  split
  · simp [popR]
    omega
  · simp [popR]
    omega
end Go.Proofs.Ytmokpnkpfodppaa
