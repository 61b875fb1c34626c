
/-
Parts of slices. Nothing here speaks of the program.
-/
import Derived.Test.YtcddllaljgfjbaaRowS
namespace Go.Proofs.Ytcddllaljgfjbaa
set_option linter.unusedSimpArgs false
set_option linter.unusedVariables false
open Go.RowKit

section
variable {P : Program} {t e size bytes : Nat}
theorem slice_lo (hT : SliceT P t e size bytes) (A : Option Addr) (n c i : Nat) (h1 : i ≤ n) (w : World) : (Instr.slice t (.slice A n c) (some (.int .i64 (i : Int))) none none).run P w = .ok (.slice (if c = i then A else A.map (·.add (i * size))) (n - i) (c - i)) w := by
  obtain ⟨ti, z, hi, hz, hs, hb, hzs⟩ := hT.info
  have hsz : Sem.run P (sizeOf e) w = .ok size w := by simp [sizeOf, typeInfo, hi, hs]
  have hk : (i : Int) ≤ (n : Int) := by omega
  have hk0 : (0 : Int) ≤ (i : Int) := by omega
  unfold Instr.slice Instr.sliceBounds Instr.sliceBound
  have hni : ¬ n < i := by omega
  simp [run_underlying hT.ht, hsz, hk, asIntOf, hni]
theorem slice_hi (hT : SliceT P t e size bytes) (A : Option Addr) (hA : ∀ p, A = some p → p.spot = none) (n c i : Nat) (h1 : i ≤ n) (h2 : n ≤ c) (w : World) : (Instr.slice t (.slice A n c) none (some (.int .i64 (i : Int))) none).run P w = .ok (.slice A i c) w := by
  obtain ⟨ti, z, hi, hz, hs, hb, hzs⟩ := hT.info
  have hsz : Sem.run P (sizeOf e) w = .ok size w := by simp [sizeOf, typeInfo, hi, hs]
  have hk : (i : Int) ≤ (c : Int) := by omega
  have hk0 : (0 : Int) ≤ (i : Int) := by omega
  have hm : A.map (·.add (0 * size)) = A := by
    cases A with
    | none => rfl
    | some p =>
      have := hA p rfl
      obtain ⟨b, o, s⟩ := p
      subst this
      simp [Addr.add]
  unfold Instr.slice Instr.sliceBounds Instr.sliceBound
  simp only [Nat.zero_mul] at hm
  have hni : ¬ c < i := by omega
  simp [run_underlying hT.ht, hsz, hk, asIntOf, hm, hni]
end
theorem Sl.from_ {α : Type} {R : Rd α} {size : Nat} {w : World} {A : Option Addr} {n c i : Nat} {l : List α} (h : Sl R size w (.slice A n c) l) (hi : i ≤ n) : Sl R size w (.slice (if c = i then A else A.map (·.add (i * size))) (n - i) (c - i)) (l.drop i) := by
  obtain ⟨A', c', e, h1, h2, h3⟩ := h
  injection e with e1 e2 e3
  subst e1 e2 e3
  refine ⟨_, _, by rw [List.length_drop], by rw [List.length_drop]; omega, by omega, fun k hk => ?_⟩
  rw [List.length_drop] at hk
  obtain ⟨b, o, cs, hA, hb, hcs, hc, hr⟩ := h3 (i + k) (by omega)
  subst hA
  refine ⟨b, o + i * size, cs, ?_, hb, hcs, fun j u hj => ?_, ?_⟩
  · rw [if_neg (by omega)]
    simp [Addr.add]
  · have := hc j u hj
    rw [← this, Nat.add_mul, Nat.add_assoc o]
  · rw [List.getElem_drop]
    exact hr
end Go.Proofs.Ytcddllaljgfjbaa
