
/-
What Valid, Empty, Contains, Meet, Middle and Size return, for any input.
-/
import Derived.Test.YtmecjjfpgjpeoaaInt1
namespace Go.Proofs.Ytmecjjfpgjpeoaa
open Go.RowKit

set_option maxHeartbeats 400000 in
theorem Valid1_any (g : Nat) (A : Option Addr) (n c : Nat) (v : Value) (l : List Term) (bd : Int) (w : World) (hS : Terms w v l) (hg : w.cell? ⟨g, 0, none⟩ = some (.slice A n c)) :
    Calls Try.prog 47 #[.agg #[v, .int .i64 bd], .pointer (some ⟨g, 0, none⟩)] w fun e w' => e = .returned (.bool (!fitsB n ⟨l, bd⟩)) ∧ Kp w w' := by
  obtain ⟨A', c', rfl, hc, hm⟩ := hS.form
  have hgl : g < w.heap.size := block_lt_of_cell hg
  go_enter Try.func47, Try.ntmps47
  have hk0 := (Kp.refl w).alloc (.cells #[.slice A' l.length c', .int .i64 bd] 41)
  go_wp2_with fail
  refine (fits_any _ _ l _ _ (hS.keep (pl_stable _) hk0)).mono ?_
  rintro e w1 ⟨rfl, hk1⟩
  have hk2 := hk0.trans hk1
  go_wp2
  go_ret
  exact ⟨rfl, (by repeat (first | assumption | exact Kp.refl _ | apply Kp.alloc | apply Kp.drew | apply Kp.drewN))⟩
theorem Valid1_real : Real Try.prog 47 := ⟨_, Try.func47, by kernel_rfl, by kernel_rfl⟩

def validB (b : List Rng) (rows : List Row) : Bool := boxB b && !rows.any (fun r => !fitsB b.length r)
set_option maxHeartbeats 400000 in
theorem Valid_any (vb vr : Value) (b : List Rng) (rows : List Row) (w : World) (hb : Rngs w vb b) (hr : RowsL w vr rows) :
    Calls Try.prog 18 #[vb, vr] w fun e w' => e = .returned (.bool (validB b rows)) ∧ Kp w w' := by
  obtain ⟨A, c, rfl, hc, hm⟩ := hb.form
  obtain ⟨A', c', rfl, hc', hm'⟩ := hr.form
  have hk0 := (Kp.refl w).alloc (.cells #[.slice A b.length c] 22)
  have hg0 := alloc_cell w #[.slice A b.length c] 22 0 rfl
  go_enter Try.func18, Try.ntmps18
  go_wp2_with fail
  refine (box_any _ b _ (hb.keep (pl_stable _) hk0)).mono ?_
  rintro e w1 ⟨rfl, hk1⟩
  have hbel1 := (hk0).trans hk1
  have hg1 := hk1.cellS hg0
  cases hB : boxB b with
  | false =>
    have HF : Hid (validB b rows = false) := hid (by simp [validB, hB])
    clear hB hg1 hg0
    go_wp2
    go_ret
    exact ⟨ret_bool HF.out.symm, (by repeat (first | assumption | exact Kp.refl _ | apply Kp.alloc | apply Kp.drew | apply Kp.drewN))⟩
  | true =>
    have HF : Hid (validB b rows = !rows.any (fun r => !fitsB b.length r)) := hid (by simp [validB, hB])
    clear hB hg0
    go_wp2_with fail
    refine (ContainsFuncRow_any (fun r => !fitsB b.length r) 47 [.pointer (some ⟨w.heap.size, 0, none⟩)] _ rows _ (hr.keep rdRow_stable hbel1) Valid1_real (fun w' A1 c1 ts bd hk hT => Valid1_any _ _ _ _ _ ts bd w' hT (hk.cellS hg1))).mono ?_
    rintro e w2 ⟨rfl, hk2⟩
    have hbel2 := (hbel1).trans hk2
    generalize rows.any (fun r => !fitsB b.length r) = x at *
    go_wp2
    go_ret
    exact ⟨ret_bool HF.out.symm, (by repeat (first | assumption | exact Kp.refl _ | apply Kp.alloc | apply Kp.drew | apply Kp.drewN))⟩

/-! Empty -/
def emptyR (r : Rng) : Bool := decide (r.hi < r.lo)
set_option maxHeartbeats 400000 in
theorem empty_any (lo hi : Int) (w : World) :
    Calls Try.prog 52 #[.agg #[.int .i64 lo, .int .i64 hi]] w fun e w' => e = .returned (.bool (emptyR ⟨lo, hi⟩)) ∧ Kp w w' := by
  go_enter Try.func52, Try.ntmps52
  go_wp2
  go_ret
  exact ⟨rfl, (Kp.refl _).alloc _⟩
theorem empty_real : Real Try.prog 52 := ⟨_, Try.func52, by kernel_rfl, by kernel_rfl⟩
set_option maxHeartbeats 400000 in
theorem Empty_any (vb : Value) (b : List Rng) (w : World) (hb : Rngs w vb b) :
    Calls Try.prog 20 #[vb] w fun e w' => e = .returned (.bool (b.any emptyR)) ∧ Kp w w' := by
  obtain ⟨A, c, rfl, hc, hm⟩ := hb.form
  go_enter Try.func20, Try.ntmps20
  go_wp2_with fail
  refine (ContainsFuncRange_any emptyR 52 [] _ b _ hb empty_real (fun w' lo hi hk => empty_any lo hi w')).mono ?_
  rintro e w1 ⟨rfl, hk1⟩
  have hbel1 := ((Kp.refl _)).trans hk1
  generalize hx : b.any emptyR = x
  have Hx := hid hx
  clear hx
  go_wp2
  go_ret
  exact ⟨ret_bool Hx.out.symm, (by repeat (first | assumption | exact Kp.refl _ | apply Kp.alloc | apply Kp.drew | apply Kp.drewN))⟩

/-! Contains -/
def badV (r : Rng) (x : Int) : Prop := x < r.lo ∨ r.hi < x
instance (r : Rng) (x : Int) : Decidable (badV r x) := by unfold badV; infer_instance
def contL : List Rng → List Int → Bool
  | r :: b, x :: vs => if badV r x then false else contL b vs
  | _, _ => true
def containsB (b : List Rng) (vs : List Int) : Bool := decide (b.length = vs.length) && contL b vs
set_option maxHeartbeats 1000000 in
theorem Contains_any (vb vv : Value) (b : List Rng) (vs : List Int) (w : World) (hb : Rngs w vb b) (hv : Ints w vv vs) :
    Calls Try.prog 22 #[vb, vv] w fun e w' => e = .returned (.bool (containsB b vs)) ∧ Kp w w' := by
  obtain ⟨A, c, rfl, hc, hm⟩ := hb.form
  obtain ⟨A', c', rfl, hc', hm'⟩ := hv.form
  by_cases hl : b.length = vs.length
  · have HL := hid hl
    have l1 : (b.length == vs.length) = true := beq_iff_eq.2 hl
    have l2 : (b.length != vs.length) = false := by simp [hl]
    have l3 : ((b.length : Int) == (vs.length : Int)) = true := by simp [hl]
    have l4 : b.length ≤ vs.length := by omega
    have l5 : vs.length ≤ b.length := by omega
    clear hl
    go_enter Try.func22, Try.ntmps22
    go_wp2
    go_loopw [14] (fun i wr => ∃ k : Nat, k ≤ b.length ∧ i = .int .i64 k ∧ Hid (contL b vs = contL (b.drop k) (vs.drop k)) ∧ Kp w wr) (fun i _ => b.length - (intOf i).toNat)
    case atStart => exact ⟨0, Nat.zero_le _, rfl, rfl, Kp.refl _⟩
    case round =>
      obtain ⟨k, hk, rfl, HB, hbel⟩ := hrel
      by_cases hlt : k < b.length
      · have hlt' : k < vs.length := by omega
        obtain ⟨g, o, rfl, hg, h1, h2⟩ := (hb.keep (pl_stable _) hbel).rng hlt
        obtain ⟨g', o', rfl, hg', h3⟩ := (hv.keep (pl_stable _) hbel).ints hlt'
        have HD := hid (List.drop_eq_getElem_cons hlt)
        have HE := hid (List.drop_eq_getElem_cons hlt')
        generalize b[k] = r at *
        generalize vs[k] = x at *
        obtain ⟨lo, hi⟩ := r
        clear hb hv
        dsimp only at h1 h2
        have q1 : (0 : Int) ≤ k := by omega
        have q2 : (k : Int) < b.length := by omega
        have q3 : (k : Int) < vs.length := by omega
        by_cases hbad : badV ⟨lo, hi⟩ x
        · have HF : Hid (containsB b vs = false) := hid (by unfold containsB; rw [HB.out, HD.out, HE.out, contL, if_pos hbad]; simp)
          unfold badV at hbad
          dsimp only at hbad
          by_cases hx : x < lo
          · have d1 : decide (x < lo) = true := by simpa using hx
            go_wp2
            go_quiet (fail)
            go_wp2
            go_ret
            exact ⟨ret_bool HF.out.symm, (by repeat (first | assumption | exact Kp.refl _ | apply Kp.alloc | apply Kp.drew | apply Kp.drewN))⟩
          · have d1 : decide (x < lo) = false := by simpa using hx
            have hy : hi < x := by omega
            have d2 : decide (hi < x) = true := by simpa using hy
            clear hbad
            go_wp2
            go_quiet (fail)
            go_wp2
            go_ret
            exact ⟨ret_bool HF.out.symm, (by repeat (first | assumption | exact Kp.refl _ | apply Kp.alloc | apply Kp.drew | apply Kp.drewN))⟩
        · have HF : Hid (contL b vs = contL (b.drop (k + 1)) (vs.drop (k + 1))) := hid (by rw [HB.out, HD.out, HE.out, contL, if_neg hbad])
          unfold badV at hbad
          dsimp only at hbad
          have hx : lo ≤ x := by omega
          have hy : x ≤ hi := by omega
          have d1 : decide (x < lo) = false := by simpa using hx
          have d2 : decide (hi < x) = false := by simpa using hy
          clear hbad
          go_wp2
          go_quiet (fail)
          go_wp2
          go_roundw
          case rel => exact ⟨k + 1, by omega, by go_num, HF, (by repeat (first | assumption | exact Kp.refl _ | apply Kp.alloc | apply Kp.drew | apply Kp.drewN))⟩
          case measure => simp [intOf]; omega
      · have HF : Hid (containsB b vs = true) := hid (by unfold containsB; rw [HB.out, List.drop_of_length_le (l := b) (by omega)]; simp [contL, HL.out])
        go_wp2
        go_ret
        exact ⟨ret_bool HF.out.symm, (by repeat (first | assumption | exact Kp.refl _ | apply Kp.alloc | apply Kp.drew | apply Kp.drewN))⟩
  · have l2 : (b.length != vs.length) = true := by simp [hl]
    go_enter Try.func22, Try.ntmps22
    go_wp2
    go_ret
    exact ⟨ret_bool (by unfold containsB; simp [hl]), (by repeat (first | assumption | exact Kp.refl _ | apply Kp.alloc | apply Kp.drew | apply Kp.drewN))⟩
end Go.Proofs.Ytmecjjfpgjpeoaa
