
/-
Plain facts on bytes: a run of digits, read from its end. No program in sight.
-/
import Derived.Test.YtmeafoakbkjifaaByte1
namespace Go.Proofs.Ytmeafoakbkjifaa
set_option linter.unusedSimpArgs false
set_option linter.unusedVariables false
open Go.RowKit

/-- the number of digits, least first -/
def val : List UInt8 → Nat
  | [] => 0
  | b :: r => b.toNat % 128 + 128 * val r
theorem val_append (D : List UInt8) (c : UInt8) : val (D ++ [c]) = val D + c.toNat % 128 * 128 ^ D.length := by
  induction D with
  | nil => simp [val]
  | cons b D ih =>
    rw [List.cons_append, val, val, ih, List.length_cons, Nat.pow_succ, Nat.mul_add, Nat.add_assoc]
    congr 2
    rw [← Nat.mul_assoc, Nat.mul_comm 128, Nat.mul_assoc, Nat.mul_comm 128]
theorem val_lt : ∀ D : List UInt8, val D < 128 ^ D.length
  | [] => by simp [val]
  | b :: D => by
    have := val_lt D
    rw [val, List.length_cons, Nat.pow_succ]
    have : b.toNat % 128 < 128 := Nat.mod_lt _ (by omega)
    omega
/-- reading a run of digits that go on -/
theorem dec_run : ∀ (D : List UInt8) (z s : Nat) (r : List UInt8), (∀ b ∈ D, 128 ≤ b.toNat) → s ≤ 9 → dec z s (D ++ r) = if s + D.length ≤ 9 then dec (z + val D * 128 ^ s) (s + D.length) r else none
  | [], z, s, r, _, hs => by simp [val, hs]
  | b :: D, z, s, r, h, hs => by
    have hb := h b (by simp)
    rw [List.cons_append, dec]
    by_cases h9 : s = 9
    · subst h9
      rw [if_pos (.inl rfl), if_neg (by simp)]
    · rw [if_neg (by omega), if_pos hb, dec_run D _ (s + 1) r (fun c hc => h c (by simp [hc])) (by omega), List.length_cons]
      have e : s + 1 + D.length = s + (D.length + 1) := by omega
      rw [e]
      split
      · congr 1
        rw [val, Nat.add_mul, Nat.pow_succ, Nat.add_assoc]
        congr 2
        rw [Nat.mul_comm 128, Nat.mul_assoc, Nat.mul_comm 128]
      · rfl
/-- a run that ends too soon -/
theorem dec_short {D : List UInt8} (h : ∀ b ∈ D, 128 ≤ b.toNat) (hD : 0 < D.length) : dec 0 0 D = none := by
  have := dec_run D 0 0 [] h (by omega)
  rw [List.append_nil] at this
  rw [this]
  split
  · rw [dec, if_neg (by omega)]
  · rfl
/-- a run and its last digit -/
theorem dec_token {D : List UInt8} {c : UInt8} {r : List UInt8} (h : ∀ b ∈ D, 128 ≤ b.toNat) (hc : c.toNat < 128) :
    dec 0 0 (D ++ c :: r) = if 8 < D.length ∨ (0 < D.length ∧ c.toNat = 0) then none else (dec 0 0 r).map fun l => unzig (val (D ++ [c])) :: l := by
  rw [dec_run D 0 0 _ h (by omega), Nat.zero_add, Nat.zero_add, Nat.pow_zero, Nat.mul_one, val_append]
  by_cases h8 : 8 < D.length
  · simp only [h8, true_or, if_true]
    split
    · rw [dec, if_pos (.inl (by omega))]
    · rfl
  · simp only [h8, false_or]
    rw [if_pos (by omega), dec]
    by_cases hz : 0 < D.length ∧ c.toNat = 0
    · rw [if_pos (.inr hz), if_pos hz]
    · rw [if_neg (by omega), if_neg (by omega), if_neg hz]
end Go.Proofs.Ytmeafoakbkjifaa
