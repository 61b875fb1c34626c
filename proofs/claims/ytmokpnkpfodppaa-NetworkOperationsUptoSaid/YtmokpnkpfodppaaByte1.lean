
/-
Plain facts on the bytes of integers: what is written, how it is read, that reading what was written gives it back, and nothing else does. No program in sight.
-/
import Derived.Test.YtmokpnkpfodppaaCod1
namespace Go.Proofs.Ytmokpnkpfodppaa
set_option linter.unusedSimpArgs false
set_option linter.unusedVariables false
open Go.RowKit

/-- the number that is written for an integer -/
def zig (n : Int) : Nat := if n < 0 then 2 * (-(n + 1)).toNat + 1 else 2 * n.toNat
def unzig (z : Nat) : Int := if z % 2 = 1 then -((z / 2 : Nat) : Int) - 1 else ((z / 2 : Nat) : Int)
/-- the integers that can be written -/
def OkI (n : Int) : Prop := -4611686018427387904 ≤ n ∧ n ≤ 4611686018427387903
theorem zig_lt {n : Int} (h : OkI n) : zig n < 9223372036854775808 := by unfold zig OkI at *; split <;> omega
theorem unzig_zig (n : Int) : unzig (zig n) = n := by
  unfold zig unzig
  by_cases h : n < 0
  · rw [if_pos h, if_pos (by omega)]; omega
  · rw [if_neg h, if_neg (by omega)]; omega
theorem zig_unzig (z : Nat) : zig (unzig z) = z := by
  unfold zig unzig
  by_cases h : z % 2 = 1
  · rw [if_pos h, if_pos (by omega)]; omega
  · rw [if_neg h, if_neg (by omega)]; omega
theorem unzig_ok {z : Nat} (h : z < 9223372036854775808) : OkI (unzig z) := by unfold unzig OkI; split <;> omega

def digs (z : Nat) : List UInt8 := if z < 128 then [UInt8.ofNat z] else UInt8.ofNat (z % 128 + 128) :: digs (z / 128)
termination_by z
decreasing_by omega
theorem digs_lt {z : Nat} (h : z < 128) : digs z = [UInt8.ofNat z] := by rw [digs, if_pos h]
theorem digs_ge {z : Nat} (h : ¬ z < 128) : digs z = UInt8.ofNat (z % 128 + 128) :: digs (z / 128) := by rw [digs, if_neg h]
theorem digs_pos (z : Nat) : 1 ≤ (digs z).length := by
  by_cases h : z < 128
  · rw [digs_lt h]; simp
  · rw [digs_ge h]; simp
theorem digs_len : ∀ (k z : Nat), z < 128 ^ (k + 1) → (digs z).length ≤ k + 1
  | 0, z, h => by rw [digs_lt (by simpa using h)]; simp
  | k + 1, z, h => by
    by_cases h1 : z < 128
    · rw [digs_lt h1]; simp
    · rw [digs_ge h1]
      have : z / 128 < 128 ^ (k + 1) := by rw [Nat.div_lt_iff_lt_mul (by omega), ← Nat.pow_succ]; exact h
      have := digs_len k (z / 128) this
      simp only [List.length_cons]
      omega
theorem digs_nine {n : Int} (h : OkI n) : (digs (zig n)).length ≤ 9 := digs_len 8 _ (by have := zig_lt h; simpa using this)
/-- the bytes of integers -/
def encB (l : List Int) : List UInt8 := l.flatMap fun n => digs (zig n)
theorem encB_cons (n : Int) (l : List Int) : encB (n :: l) = digs (zig n) ++ encB l := by simp [encB]
theorem encB_append (l m : List Int) : encB (l ++ m) = encB l ++ encB m := by simp [encB]
theorem encB_le (l : List Int) : l.length ≤ (encB l).length := by
  induction l with
  | nil => simp
  | cons n l ih =>
    have := digs_pos (zig n)
    rw [encB_cons, List.length_append, List.length_cons]
    omega

/-- how bytes are read: z is what was read of the next number, k digits -/
def dec : Nat → Nat → List UInt8 → Option (List Int)
  | _, k, [] => if k = 0 then some [] else none
  | z, k, c :: r =>
    if k = 9 ∨ (0 < k ∧ c.toNat = 0) then none
    else if 128 ≤ c.toNat then dec (z + c.toNat % 128 * 128 ^ k) (k + 1) r
    else (dec 0 0 r).map fun l => unzig (z + c.toNat % 128 * 128 ^ k) :: l
theorem nat_byte {z : Nat} (h : z < 256) : (UInt8.ofNat z).toNat = z := by simp; omega
theorem dec_digs : ∀ (n z k : Nat) (r : List UInt8), n < 128 ^ (9 - k) → (0 < k → 0 < n) → dec z k (digs n ++ r) = (dec 0 0 r).map fun l => unzig (z + n * 128 ^ k) :: l := by
  intro n
  induction n using Nat.strongRecOn with
  | _ n ih =>
    intro z k r h1 h2
    have hk : k < 9 := by
      rcases Nat.lt_or_ge k 9 with h | h
      · exact h
      · have : 9 - k = 0 := by omega
        rw [this] at h1
        have := h2 (by omega)
        omega
    by_cases h : n < 128
    · rw [digs_lt h, List.cons_append, List.nil_append, dec, nat_byte (by omega), if_neg (by omega), if_neg (by omega), Nat.mod_eq_of_lt h]
    · rw [digs_ge h, List.cons_append, dec, nat_byte (by omega), if_neg (by omega), if_pos (by omega)]
      have e : 9 - k = (9 - (k + 1)) + 1 := by omega
      rw [e, Nat.pow_succ] at h1
      rw [ih (n / 128) (by omega) _ _ _ (by rw [Nat.div_lt_iff_lt_mul (by omega)]; exact h1) (fun _ => by omega)]
      have e2 : z + (n % 128 + 128) % 128 * 128 ^ k + n / 128 * 128 ^ (k + 1) = z + n * 128 ^ k := by
        have h3 : (n % 128 + 128) % 128 = n % 128 := by omega
        have h4 := Nat.mod_add_div n 128
        rw [h3, Nat.pow_succ, Nat.add_assoc, ← Nat.mul_assoc, Nat.mul_comm (n / 128) (128 ^ k), Nat.mul_assoc (128 ^ k), Nat.mul_comm (128 ^ k) (n / 128 * 128), ← Nat.add_mul]
        congr 2
        omega
      rw [e2]
theorem dec_encB (l : List Int) (r : List UInt8) (h : ∀ n ∈ l, OkI n) : dec 0 0 (encB l ++ r) = (dec 0 0 r).map fun m => l ++ m := by
  induction l with
  | nil => simp [encB]
  | cons n l ih =>
    rw [encB_cons, List.append_assoc, dec_digs _ _ _ _ (by have := zig_lt (h n (by simp)); simpa using this) (by omega), ih (fun m hm => h m (by simp [hm]))]
    cases dec 0 0 r with
    | none => rfl
    | some m => simp [unzig_zig]
theorem dec_enc (l : List Int) (h : ∀ n ∈ l, OkI n) : dec 0 0 (encB l) = some l := by
  have := dec_encB l [] h
  simpa [dec] using this
theorem dec_step : ∀ (bs : List UInt8) (z k : Nat) (l : List Int), k ≤ 9 → dec z k bs = some l → (k = 0 ∧ bs = [] ∧ l = []) ∨ ∃ n r l', bs = digs n ++ r ∧ (0 < k → 0 < n) ∧ n < 128 ^ (9 - k) ∧ l = unzig (z + n * 128 ^ k) :: l' ∧ dec 0 0 r = some l'
  | [], z, k, l, hk9, h => by
    rw [dec] at h
    split at h
    · rename_i h0
      simp only [Option.some.injEq] at h
      exact .inl ⟨h0, rfl, h.symm⟩
    · cases h
  | c :: bs, z, k, l, hk9, h => by
    rw [dec] at h
    have hc := c.toNat_lt
    split at h
    · cases h
    · rename_i h1
      split at h
      · rename_i h2
        rcases dec_step bs _ _ _ (by omega) h with h3 | ⟨n, r, l', h3, h4, h5, h6, h7⟩
        · omega
        · have hn := h4 (by omega)
          right
          refine ⟨c.toNat - 128 + 128 * n, r, l', ?_, fun _ => by omega, ?_, ?_, h7⟩
          · rw [digs_ge (by omega), h3, List.cons_append]
            have e1 : (c.toNat - 128 + 128 * n) % 128 + 128 = c.toNat := by omega
            have e2 : (c.toNat - 128 + 128 * n) / 128 = n := by omega
            rw [e1, e2]
            simp
          · have e : 9 - k = (9 - (k + 1)) + 1 := by omega
            rw [e, Nat.pow_succ]
            omega
          · rw [h6]
            congr 2
            have e1 : c.toNat % 128 = c.toNat - 128 := by omega
            rw [e1, Nat.pow_succ, Nat.add_mul, Nat.add_assoc, ← Nat.mul_assoc, Nat.mul_comm 128 n, Nat.mul_assoc n 128, Nat.mul_comm 128 (128 ^ k), ← Nat.mul_assoc]
      · rename_i h2
        cases h8 : dec 0 0 bs with
        | none => rw [h8] at h; cases h
        | some l' =>
          rw [h8] at h
          simp only [Option.map_some, Option.some.injEq] at h
          right
          refine ⟨c.toNat, bs, l', ?_, fun hk => by omega, ?_, ?_, h8⟩
          · rw [digs_lt (by omega)]; simp
          · have e : 9 - k = (8 - k) + 1 := by omega
            have := Nat.pow_pos (n := 8 - k) (a := 128) (by omega)
            rw [e, Nat.pow_succ]
            omega
          · rw [← h]
            have e1 : c.toNat % 128 = c.toNat := by omega
            rw [e1]
/-- what was read is what was written -/
theorem dec_some : ∀ (n : Nat) (bs : List UInt8) (l : List Int), bs.length ≤ n → dec 0 0 bs = some l → encB l = bs ∧ ∀ m ∈ l, OkI m
  | n, bs, l, hn, h => by
    rcases dec_step bs 0 0 l (by omega) h with ⟨-, rfl, rfl⟩ | ⟨m, r, l', rfl, -, h2, rfl, h3⟩
    · simp [encB]
    · have hp := digs_pos m
      rw [List.length_append] at hn
      cases n with
      | zero => omega
      | succ n =>
        obtain ⟨h4, h5⟩ := dec_some n r l' (by omega) h3
        have hm : m < 9223372036854775808 := by simpa using h2
        simp only [Nat.pow_zero, Nat.mul_one, Nat.zero_add]
        refine ⟨by rw [encB_cons, zig_unzig, h4], ?_⟩
        intro x hx
        rcases List.mem_cons.1 hx with rfl | hx
        · exact unzig_ok hm
        · exact h5 x hx
theorem dec_iff (bs : List UInt8) (l : List Int) : dec 0 0 bs = some l ↔ encB l = bs ∧ ∀ m ∈ l, OkI m :=
  ⟨dec_some _ bs l (Nat.le_refl _), fun h => by rw [← h.1]; exact dec_enc l h.2⟩
end Go.Proofs.Ytmokpnkpfodppaa
