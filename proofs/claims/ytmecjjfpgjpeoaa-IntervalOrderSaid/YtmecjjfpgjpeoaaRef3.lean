
/-
What the reference's Empty, Contains and Meet return, for any input.
-/
import Derived.Test.YtmecjjfpgjpeoaaRef2
namespace Go.Proofs.Ytmecjjfpgjpeoaa
open Go.RowKit

/-! Empty -/
set_option maxHeartbeats 1000000 in
theorem rEmpty_any (vb : Value) (b : List Rng) (w : World) (hb : Rngs w vb b) :
    Calls Try.prog 21 #[vb] w fun e w' => e = .returned (.bool (b.any emptyR)) ∧ Kp w w' := by
  obtain ⟨A, c, rfl, hc, hm⟩ := hb.form
  go_enter Try.func21, Try.ntmps21
  go_wp2
  go_loopw [3] (fun i wr => ∃ k : Nat, k ≤ b.length ∧ i = .int .i64 k ∧ Hid (b.any emptyR = (b.drop k).any emptyR) ∧ Kp w wr) (fun i _ => b.length - (intOf i).toNat)
  case atStart => exact ⟨0, Nat.zero_le _, rfl, rfl, Kp.refl _⟩
  case round =>
    obtain ⟨k, hk, rfl, HB, hbel⟩ := hrel
    by_cases hlt : k < b.length
    · obtain ⟨g, o, rfl, hg, h1', h2'⟩ := hb.rng hlt
      have h1 := hbel.cellS h1'
      have h2 := hbel.cellS h2'
      have HD := hid (List.drop_eq_getElem_cons hlt)
      clear h1' h2' hb
      generalize b[k] = r at *
      obtain ⟨lo, hi⟩ := r
      dsimp only at h1 h2
      have q1 : (0 : Int) ≤ k := by omega
      have q2 : (k : Int) < b.length := by omega
      by_cases he : hi < lo
      · have HF : Hid (b.any emptyR = true) := hid (by rw [HB.out, HD.out]; simp [emptyR, he])
        go_wp2
        go_quiet (fail)
        go_wp2
        go_ret
        exact ⟨ret_bool HF.out.symm, hbel.drewN _⟩
      · have HF : Hid (b.any emptyR = (b.drop (k + 1)).any emptyR) := hid (by rw [HB.out, HD.out]; simp [emptyR, he])
        go_wp2
        go_quiet (fail)
        go_wp2
        go_roundw
        case rel => exact ⟨k + 1, by omega, by go_num, HF, hbel.drewN _⟩
        case measure => simp [intOf]; omega
    · have HF : Hid (b.any emptyR = false) := hid (by rw [HB.out, List.drop_of_length_le (by omega)]; rfl)
      go_wp2
      go_ret
      exact ⟨ret_bool HF.out.symm, hbel⟩

/-! Contains -/
set_option maxHeartbeats 1000000 in
theorem rContains_any (vb vv : Value) (b : List Rng) (vs : List Int) (w : World) (hb : Rngs w vb b) (hv : Ints w vv vs) :
    Calls Try.prog 23 #[vb, vv] w fun e w' => e = .returned (.bool (containsB b vs)) ∧ Kp w w' := by
  obtain ⟨A, c, rfl, hc, hm⟩ := hb.form
  obtain ⟨A', c', rfl, hc', hm'⟩ := hv.form
  by_cases hl : b.length = vs.length
  · have HL := hid hl
    have l1 : (b.length == vs.length) = true := beq_iff_eq.2 hl
    have l2 : (b.length != vs.length) = false := by simp [hl]
    have l3 : ((b.length : Int) == (vs.length : Int)) = true := by simp [hl]
    have l4 : b.length ≤ vs.length := by omega
    have l5 : vs.length ≤ b.length := by omega
    clear hl
    go_enter Try.func23, Try.ntmps23
    go_wp2
    go_loopw [5] (fun i wr => ∃ k : Nat, k ≤ b.length ∧ i = .int .i64 k ∧ Hid (contL b vs = contL (b.drop k) (vs.drop k)) ∧ Kp w wr) (fun i _ => b.length - (intOf i).toNat)
    case atStart => exact ⟨0, Nat.zero_le _, rfl, rfl, Kp.refl _⟩
    case round =>
      obtain ⟨k, hk, rfl, HB, hbel⟩ := hrel
      by_cases hlt : k < b.length
      · have hlt' : k < vs.length := by omega
        obtain ⟨g, o, rfl, hg, h1', h2'⟩ := hb.rng hlt
        obtain ⟨g', o', rfl, hg', h3'⟩ := hv.ints hlt'
        have h1 := hbel.cellS h1'
        have h2 := hbel.cellS h2'
        have h3 := hbel.cellS h3'
        have z1 : g < wr.heap.size := by have := hbel.size; omega
        have z2 : g' < wr.heap.size := by have := hbel.size; omega
        have HD := hid (List.drop_eq_getElem_cons hlt)
        have HE := hid (List.drop_eq_getElem_cons hlt')
        clear hb hv h1' h2' h3'
        generalize b[k] = r at *
        generalize vs[k] = x at *
        obtain ⟨lo, hi⟩ := r
        dsimp only at h1 h2
        have q1 : (0 : Int) ≤ k := by omega
        have q2 : (k : Int) < b.length := by omega
        have q3 : (k : Int) < vs.length := by omega
        cases hin : insideB x lo hi with
        | true =>
          have HF : Hid (contL b vs = contL (b.drop (k + 1)) (vs.drop (k + 1))) := hid (by rw [HB.out, HD.out, HE.out, contL, if_neg (by unfold badV; dsimp only; simp [insideB] at hin; omega)])
          have hc := fun u => rinside_kp x lo hi (Kw wr u)
          simp only [hin] at hc
          have HC := hid hc
          clear hin hc
          go_wp2
          refine wp_region_kw (by kernel_rfl) (by kernel_rfl) ?_
          repeat (go_big_quiet_step (((go_at_call 49; exact quiet_kw (HC.out _)))))
          refine wpQuiet_nil ?_
          intro _ hw'
          obtain ⟨u, hw''⟩ := hw'
          subst hw''
          go_wp2
          go_roundw
          case rel => exact ⟨k + 1, by omega, by go_num, HF, hbel.trans (kw_kp _ _)⟩
          case measure => simp [intOf]; omega
        | false =>
          have HF : Hid (containsB b vs = false) := hid (by unfold containsB; rw [HB.out, HD.out, HE.out, contL, if_pos (by unfold badV; dsimp only; simp [insideB] at hin; omega)]; simp)
          have hc := fun u => rinside_kp x lo hi (Kw wr u)
          simp only [hin] at hc
          have HC := hid hc
          clear hin hc
          go_wp2
          refine wp_region_kw (by kernel_rfl) (by kernel_rfl) ?_
          repeat (go_big_quiet_step (((go_at_call 49; exact quiet_kw (HC.out _)))))
          refine wpQuiet_nil ?_
          intro _ hw'
          obtain ⟨u, hw''⟩ := hw'
          subst hw''
          go_wp2
          go_ret
          exact ⟨ret_bool HF.out.symm, hbel.trans (kw_kp _ _)⟩
      · have HF : Hid (containsB b vs = true) := hid (by unfold containsB; rw [HB.out, List.drop_of_length_le (l := b) (by omega)]; simp [contL, HL.out])
        go_wp2
        go_ret
        exact ⟨ret_bool HF.out.symm, hbel⟩
  · have l2 : (b.length != vs.length) = true := by simp [hl]
    go_enter Try.func23, Try.ntmps23
    go_wp2
    go_ret
    exact ⟨ret_bool (by unfold containsB; simp [hl]), Kp.refl _⟩

/-! Meet -/
set_option maxHeartbeats 400000 in
theorem rMeet_any (al ah bl bh : Int) (w : World) :
    Calls Try.prog 15 #[.agg #[.int .i64 al, .int .i64 ah], .agg #[.int .i64 bl, .int .i64 bh]] w fun e w' => e = .returned (.agg #[.int .i64 (max al bl), .int .i64 (min ah bh)]) ∧ Kp w w' := by
  go_enter Try.func15, Try.ntmps15
  go_wp2
  all_goals
    refine bodyPost_agg2 (by simp [results, Try.results15, go_sem]; exact ⟨rfl, rfl⟩) rfl ⟨ret_agg2 (by omega) (by omega), ?_⟩
    exact (((Kp.refl w).alloc _).alloc _).alloc _
end Go.Proofs.Ytmecjjfpgjpeoaa
