
/-
What slices.Equal and the laws' own 'light' return, for any input.
-/
import Derived.Test.YtlbhidiliogflaaGreatKB
namespace Go.Proofs.YtlbhidiliogflaaGreat
set_option linter.unusedSimpArgs false
set_option linter.unusedVariables false
open Go.RowKit

def sameI : List Int → List Int → Bool
  | x :: a, y :: b => if x = y then sameI a b else false
  | _, _ => true
theorem sameI_iff : ∀ (a b : List Int), a.length = b.length → (sameI a b = true ↔ a = b)
  | [], [], _ => by simp [sameI]
  | x :: a, y :: b, h => by
    unfold sameI
    have ih := sameI_iff a b (by simpa using h)
    by_cases h1 : x = y
    · simp [h1, ih]
    · simp [h1]
def eqI (a b : List Int) : Bool := decide (a.length = b.length) && sameI a b
theorem eqI_iff (a b : List Int) : eqI a b = true ↔ a = b := by
  unfold eqI
  rw [Bool.and_eq_true]
  constructor
  · rintro ⟨h1, h2⟩
    exact (sameI_iff a b (by simpa using h1)).1 h2
  · rintro rfl
    exact ⟨by simp, (sameI_iff a a rfl).2 rfl⟩
def eqR (a b : List Rng) : Bool := decide (a.length = b.length) && sameB a b
theorem eqR_iff (a b : List Rng) : eqR a b = true ↔ a = b := by
  unfold eqR
  rw [Bool.and_eq_true]
  constructor
  · rintro ⟨h1, h2⟩
    exact (sameB_iff a b (by simpa using h1)).1 h2
  · rintro rfl
    exact ⟨by simp, (sameB_iff a a rfl).2 rfl⟩

set_option maxHeartbeats 1000000 in
theorem EqualInt_any (va vb : Value) (a b : List Int) (w : World) (ha : Ints w va a) (hb : Ints w vb b) :
    Calls Tryz.prog 14 #[va, vb] w fun e w' => e = .returned (.bool (eqI a b)) ∧ Kp w w' := by
  obtain ⟨A, c, rfl, hc, hm⟩ := ha.form
  obtain ⟨A', c', rfl, hc', hm'⟩ := hb.form
  by_cases hl : a.length = b.length
  · have HL := hid hl
    have l2 : (a.length != b.length) = false := by simp [hl]
    have l3 : ((a.length : Int) == (b.length : Int)) = true := by simp [hl]
    have l4 : a.length ≤ b.length := by omega
    clear hl
    go_enter Tryz.func14, Tryz.ntmps14
    go_wp2
    go_loopw [13] (fun i wr => ∃ k : Nat, k ≤ a.length ∧ i = .int .i64 k ∧ Hid (sameI a b = sameI (a.drop k) (b.drop k)) ∧ Kp w wr) (fun i _ => a.length - (intOf i).toNat)
    case atStart => exact ⟨0, Nat.zero_le _, rfl, rfl, Kp.refl _⟩
    case round =>
      obtain ⟨k, hk, rfl, HB, hbel⟩ := hrel
      by_cases hlt : k < a.length
      · have hlt' : k < b.length := by omega
        obtain ⟨g, o, rfl, hg, h1'⟩ := ha.ints hlt
        obtain ⟨g', o', rfl, hg', h3'⟩ := hb.ints hlt'
        have h1 := hbel.cellS h1'
        have h3 := hbel.cellS h3'
        have HD := hid (List.drop_eq_getElem_cons hlt)
        have HE := hid (List.drop_eq_getElem_cons hlt')
        clear ha hb h1' h3'
        generalize a[k] = x at *
        generalize b[k] = y at *
        have q1 : (0 : Int) ≤ k := by omega
        have q2 : (k : Int) < a.length := by omega
        have q3 : (k : Int) < b.length := by omega
        by_cases hx : x = y
        · have b1 : (x != y) = false := by simpa using hx
          have b2 : (x == y) = true := by simpa using hx
          have HF : Hid (sameI a b = sameI (a.drop (k + 1)) (b.drop (k + 1))) := hid (by rw [HB.out, HD.out, HE.out, sameI, if_pos hx])
          clear hx
          go_wp2
          go_quiet (fail)
          go_wp2
          go_roundw
          case rel => exact ⟨k + 1, by omega, by go_num, HF, hbel.drewN _⟩
          case measure => simp [intOf]; omega
        · have b1 : (x != y) = true := by simpa using hx
          have b2 : (x == y) = false := by simpa using hx
          have HF : Hid (eqI a b = false) := hid (by unfold eqI; rw [HB.out, HD.out, HE.out, sameI, if_neg hx]; simp)
          clear hx
          go_wp2
          go_quiet (fail)
          go_wp2
          go_ret
          exact ⟨ret_bool HF.out.symm, hbel.drewN _⟩
      · have HF : Hid (eqI a b = true) := hid (by unfold eqI; rw [HB.out, List.drop_of_length_le (l := a) (by omega)]; simp [sameI, HL.out])
        go_wp2
        go_ret
        exact ⟨ret_bool HF.out.symm, hbel⟩
  · have l2 : (a.length != b.length) = true := by simp [hl]
    go_enter Tryz.func14, Tryz.ntmps14
    go_wp2
    go_ret
    exact ⟨ret_bool (by simp [eqI, hl]), Kp.refl _⟩

set_option maxHeartbeats 1000000 in
theorem EqualRange_any (va vb : Value) (a b : List Rng) (w : World) (ha : Rngs w va a) (hb : Rngs w vb b) :
    Calls Tryz.prog 13 #[va, vb] w fun e w' => e = .returned (.bool (eqR a b)) ∧ Kp w w' := by
  obtain ⟨A, c, rfl, hc, hm⟩ := ha.form
  obtain ⟨A', c', rfl, hc', hm'⟩ := hb.form
  by_cases hl : a.length = b.length
  · have HL := hid hl
    have l2 : (a.length != b.length) = false := by simp [hl]
    have l3 : ((a.length : Int) == (b.length : Int)) = true := by simp [hl]
    have l4 : a.length ≤ b.length := by omega
    clear hl
    go_enter Tryz.func13, Tryz.ntmps13
    go_wp2
    go_loopw [13] (fun i wr => ∃ k : Nat, k ≤ a.length ∧ i = .int .i64 k ∧ Hid (sameB a b = sameB (a.drop k) (b.drop k)) ∧ Kp w wr) (fun i _ => a.length - (intOf i).toNat)
    case atStart => exact ⟨0, Nat.zero_le _, rfl, rfl, Kp.refl _⟩
    case round =>
      obtain ⟨k, hk, rfl, HB, hbel⟩ := hrel
      by_cases hlt : k < a.length
      · have hlt' : k < b.length := by omega
        obtain ⟨g, o, rfl, hg, h1', h2'⟩ := ha.rng hlt
        obtain ⟨g', o', rfl, hg', h3', h4'⟩ := hb.rng hlt'
        have h1 := hbel.cellS h1'
        have h2 := hbel.cellS h2'
        have h3 := hbel.cellS h3'
        have h4 := hbel.cellS h4'
        have HD := hid (List.drop_eq_getElem_cons hlt)
        have HE := hid (List.drop_eq_getElem_cons hlt')
        clear ha hb h1' h2' h3' h4'
        generalize a[k] = r at *
        generalize b[k] = s at *
        obtain ⟨r1, r2⟩ := r
        obtain ⟨s1, s2⟩ := s
        dsimp only at h1 h2 h3 h4
        have q1 : (0 : Int) ≤ k := by omega
        have q2 : (k : Int) < a.length := by omega
        have q3 : (k : Int) < b.length := by omega
        have hneq := fun W a' b' c' d' => run_neq_rng W a' b' c' d'
        cases hx : rngNe r1 r2 s1 s2 with
        | true =>
          have HF : Hid (eqR a b = false) := hid (by unfold eqR; rw [HB.out, HD.out, HE.out, sameB, if_pos hx]; simp)
          go_wp2
          go_quiet (fail)
          go_wp2
          go_ret
          exact ⟨ret_bool HF.out.symm, hbel.drewN _⟩
        | false =>
          have HF : Hid (sameB a b = sameB (a.drop (k + 1)) (b.drop (k + 1))) := hid (by rw [HB.out, HD.out, HE.out, sameB, if_neg (by rw [hx]; simp)])
          go_wp2
          go_quiet (fail)
          go_wp2
          go_roundw
          case rel => exact ⟨k + 1, by omega, by go_num, HF, hbel.drewN _⟩
          case measure => simp [intOf]; omega
      · have HF : Hid (eqR a b = true) := hid (by unfold eqR; rw [HB.out, List.drop_of_length_le (l := a) (by omega)]; simp [sameB, HL.out])
        go_wp2
        go_ret
        exact ⟨ret_bool HF.out.symm, hbel⟩
  · have l2 : (a.length != b.length) = true := by simp [hl]
    go_enter Tryz.func13, Tryz.ntmps13
    go_wp2
    go_ret
    exact ⟨ret_bool (by simp [eqR, hl]), Kp.refl _⟩

/-! light -/
def lightL : List Rng → Bool
  | [] => true
  | r :: l => if r.lo < -50 ∨ 50 < r.hi then false else lightL l
def lightRw : List Row → Bool
  | [] => true
  | r :: l => if 8 < r.terms.length then false else lightRw l
def lightB (b : List Rng) (rows : List Row) : Bool := if 8 < b.length ∨ 8 < rows.length then false else lightL b && lightRw rows
end Go.Proofs.YtlbhidiliogflaaGreat
