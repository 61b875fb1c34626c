
/-
What the reference's Middle, Size, End, Same, Least, Value and With return, for any input.
-/
import Derived.Test.YtmecjjfpgjpeoaaRef3
namespace Go.Proofs.Ytmecjjfpgjpeoaa
open Go.RowKit

set_option maxHeartbeats 400000 in
theorem rMiddle_any (lo hi : Int) (w : World) :
    Calls Try.prog 13 #[.agg #[.int .i64 lo, .int .i64 hi]] w fun e w' => e = .returned (.int .i64 (middle ⟨lo, hi⟩)) ∧ Kp w w' := by
  go_enter Try.func13, Try.ntmps13
  have HS1 := hid (Sl.one (R := Pl encRng) (w.alloc (.cells #[.int .i64 lo, .int .i64 hi] 27)) [.int .i64 lo, .int .i64 hi] 27 2 ⟨lo, hi⟩ rfl rfl)
  go_wp2_with fail
  have HS2 := HS1.out
  rw [World.size_alloc] at HS2
  have hk1 := ((Kp.refl w).alloc (.cells #[.int .i64 lo, .int .i64 hi] 27)).alloc (.cells #[.int .i64 lo, .int .i64 hi] 27)
  refine (rValid_any _ _ _ [] _ HS2 (Sl.nil _ _ _)).mono ?_
  rintro e w1 ⟨rfl, hk2⟩
  have hbel1 := hk1.trans hk2
  have hc0 : w1.cell? ⟨w.heap.size, 0, none⟩ = some (.int .i64 lo) := hk2.cellS (by go_simp)
  have hc1 : w1.cell? ⟨w.heap.size, 1, none⟩ = some (.int .i64 hi) := hk2.cellS (by go_simp)
  clear HS2 hk1 hk2 HS1
  have hvb : validB [⟨lo, hi⟩] [] = boxB [⟨lo, hi⟩] := by simp [validB]
  rw [hvb]
  cases hB : boxB [⟨lo, hi⟩] with
  | false =>
    have HF : Hid (middle ⟨lo, hi⟩ = 0) := hid (by simp [middle, hB])
    clear hB hvb
    go_wp2
    go_ret
    exact ⟨ret_int HF.out.symm, hbel1⟩
  | true =>
    have HF : Hid (middle ⟨lo, hi⟩ = (lo + hi) / 2) := hid (by simp [middle, hB])
    have hbad := not_bad ((boxB_all hB).1 ⟨lo, hi⟩ (by simp))
    dsimp only at hbad
    obtain ⟨g1, g2, g3, g4⟩ := hbad
    clear hB hvb
    go_wp2_with fail
    refine (rDown_any (lo + hi) 2 _ (by omega) (by omega) (by omega) (by omega)).mono ?_
    rintro e w2 ⟨rfl, rfl⟩
    go_wp2
    go_ret
    exact ⟨ret_int HF.out.symm, hbel1⟩

/-! Size -/
set_option maxHeartbeats 1000000 in
theorem rSize_any (vb : Value) (b : List Rng) (w : World) (hb : Rngs w vb b) :
    Calls Try.prog 25 #[vb] w fun e w' => e = .returned (.int .i64 (sizeB b)) ∧ Kp w w' := by
  obtain ⟨A, c, rfl, hc, hm⟩ := hb.form
  have hvb : validB b [] = boxB b := by simp [validB]
  have HVB := hid hvb
  clear hvb
  go_enter Try.func25, Try.ntmps25
  go_wp2_with fail
  refine (rValid_any _ _ b [] _ hb (Sl.nil _ _ _)).mono ?_
  rintro e w1 ⟨rfl, hk1⟩
  have hbel1 := ((Kp.refl _)).trans hk1
  rw [HVB.out]
  cases hB : boxB b with
  | false =>
    have HF : Hid (sizeB b = 0) := hid (by simp [sizeB, hB])
    clear hB
    go_wp2
    go_ret
    exact ⟨ret_int HF.out.symm, hbel1⟩
  | true =>
    obtain ⟨hall, h128⟩ := boxB_all hB
    have HA := hid hall
    have HB := hid hB
    clear hB hall
    go_wp2_with fail
    refine (rEmpty_any _ b _ (hb.keep (pl_stable _) hk1)).mono ?_
    rintro e w2 ⟨rfl, hk2⟩
    have hbel2 := (hbel1).trans hk2
    cases hE : b.any emptyR with
    | true =>
      have HF : Hid (sizeB b = 0) := hid (by simp [sizeB, hE])
      clear hE
      go_wp2
      go_ret
      exact ⟨ret_int HF.out.symm, hbel2⟩
    | false =>
      have HE := hid hE
      have hS : Hid (sizeB b = sizeL 1 b) := hid (by simp [sizeB, hE, HB.out])
      clear hE
      go_wp2
      go_loopw [3, 4] (fun z i wr => ∃ (k : Nat) (n : Int), k ≤ b.length ∧ i = .int .i64 k ∧ 1 ≤ n ∧ n ≤ 1073741824 ∧ z = .int .i64 n ∧ Hid (sizeB b = sizeL n (b.drop k)) ∧ Kp w wr) (fun _ i _ => b.length - (intOf i).toNat)
      case atStart => exact ⟨0, 1, Nat.zero_le _, rfl, by omega, by omega, rfl, hS, hbel2⟩
      case round =>
        obtain ⟨k, n, hk, rfl, hn1, hn2, rfl, HL, hbel⟩ := hrel
        by_cases hlt : k < b.length
        · obtain ⟨g, o, rfl, hg, h1', h2'⟩ := hb.rng hlt
          have h1 := hbel.cellS h1'
          have h2 := hbel.cellS h2'
          have HD := hid (List.drop_eq_getElem_cons hlt)
          have hnb := not_bad (HA.out b[k] (List.getElem_mem hlt))
          have hne : b[k].lo ≤ b[k].hi := by
            have h0 := List.any_eq_false.1 HE.out b[k] (List.getElem_mem hlt)
            unfold emptyR at h0
            simpa using h0
          clear h1' h2' hb
          generalize b[k] = r at *
          obtain ⟨lo, hi⟩ := r
          dsimp only at h1 h2 hnb hne
          obtain ⟨g1, g2, g3, g4⟩ := hnb
          have HF : Hid (sizeB b = sizeL (min (n * (hi - lo + 1)) 1073741824) (b.drop (k + 1))) := hid (by rw [HL.out, HD.out, sizeL])
          obtain ⟨p1, p2⟩ := size_bd n lo hi hn1 hn2 hne g1 g4
          have HW : wrap64 (n * (hi - lo + 1)) = n * (hi - lo + 1) := IntWalk.wrap64_in _ (by omega)
          have HW' : IntKind.i64.wrap (n * (hi - lo + 1)) = n * (hi - lo + 1) := IntWalk.i64_in _ (by omega)
          have q1 : (0 : Int) ≤ k := by omega
          have q2 : (k : Int) < b.length := by omega
          go_wp2
          go_quiet (fail)
          go_wp2
          all_goals
            go_roundw
            case rel => exact ⟨k + 1, _, by omega, by go_num, by omega, by omega, by go_num, HF, hbel.drewN _⟩
            case measure => simp [intOf]; omega
        · have HF : Hid (sizeB b = n) := hid (by rw [HL.out, List.drop_of_length_le (by omega)]; rfl)
          go_wp2
          go_ret
          exact ⟨ret_int HF.out.symm, hbel⟩

/-! End -/
def endV (t : Term) (r : Rng) (least : Bool) : Int := if decide (0 < t.factor) == least then t.factor * r.lo else t.factor * r.hi
set_option maxHeartbeats 1000000 in
theorem rEnd_any (ce fa lo hi : Int) (least : Bool) (w : World) (h1 : -1000 ≤ fa) (h2 : fa ≤ 1000) (h3 : -1000000 ≤ lo) (h4 : lo ≤ 1000000) (h5 : -1000000 ≤ hi) (h6 : hi ≤ 1000000) :
    Calls Try.prog 54 #[.agg #[.int .i64 ce, .int .i64 fa], .agg #[.int .i64 lo, .int .i64 hi], .bool least] w fun e w' => e = .returned (.int .i64 (endV ⟨ce, fa⟩ ⟨lo, hi⟩ least)) ∧ Kp w w' := by
  obtain ⟨p1, p2⟩ := mul_bd fa lo h1 h2 h3 h4
  obtain ⟨p3, p4⟩ := mul_bd fa hi h1 h2 h5 h6
  have HW1 : wrap64 (fa * lo) = fa * lo := IntWalk.wrap64_in _ (by omega)
  have HW2 : wrap64 (fa * hi) = fa * hi := IntWalk.wrap64_in _ (by omega)
  cases least
  all_goals
    by_cases h0 : 0 < fa
    · have d0 : decide (0 < fa) = true := by simpa using h0
      first
        | (have HF : Hid (endV ⟨ce, fa⟩ ⟨lo, hi⟩ true = fa * lo) := hid (by simp [endV, h0])
           go_enter Try.func54, Try.ntmps54
           go_wp2
           go_ret
           exact ⟨ret_int HF.out.symm, ((Kp.refl w).alloc _).alloc _⟩)
        | (have HF : Hid (endV ⟨ce, fa⟩ ⟨lo, hi⟩ false = fa * hi) := hid (by simp [endV, h0])
           go_enter Try.func54, Try.ntmps54
           go_wp2
           go_ret
           exact ⟨ret_int HF.out.symm, ((Kp.refl w).alloc _).alloc _⟩)
    · have d0 : decide (0 < fa) = false := by simpa using h0
      first
        | (have HF : Hid (endV ⟨ce, fa⟩ ⟨lo, hi⟩ true = fa * hi) := hid (by simp [endV, h0])
           go_enter Try.func54, Try.ntmps54
           go_wp2
           go_ret
           exact ⟨ret_int HF.out.symm, ((Kp.refl w).alloc _).alloc _⟩)
        | (have HF : Hid (endV ⟨ce, fa⟩ ⟨lo, hi⟩ false = fa * lo) := hid (by simp [endV, h0])
           go_enter Try.func54, Try.ntmps54
           go_wp2
           go_ret
           exact ⟨ret_int HF.out.symm, ((Kp.refl w).alloc _).alloc _⟩)
theorem endV_low (b : List Rng) (j : Nat) (h : j < b.length) (fa : Int) (wo : Int) (hw : (j : Int) ≠ wo) : endV ⟨j, fa⟩ b[j] true = termV b wo 1 ⟨j, fa⟩ := by
  unfold endV termV
  dsimp only
  rw [pick_at b j h, if_neg hw, Int.mul_one]
  by_cases h0 : 0 < fa <;> simp [h0]
theorem endV_high (b : List Rng) (j : Nat) (h : j < b.length) (fa : Int) (wo : Int) (hw : (j : Int) ≠ wo) (hf : fa ≠ 0) : endV ⟨j, fa⟩ b[j] false = termV b wo (-1) ⟨j, fa⟩ := by
  unfold endV termV
  dsimp only
  rw [pick_at b j h, if_neg hw]
  by_cases h0 : 0 < fa
  · simp [h0, show ¬ fa < 0 by omega]
  · simp [h0, show fa < 0 by omega]

/-! Same -/
def sameB : List Rng → List Rng → Bool
  | r :: a, s :: b => if rngNe r.lo r.hi s.lo s.hi then false else sameB a b
  | _, _ => true
theorem sameB_iff : ∀ (a b : List Rng), a.length = b.length → (sameB a b = true ↔ a = b)
  | [], [], _ => by simp [sameB]
  | r :: a, s :: b, h => by
    unfold sameB
    have ih := sameB_iff a b (by simpa using h)
    obtain ⟨r1, r2⟩ := r
    obtain ⟨s1, s2⟩ := s
    unfold rngNe
    dsimp only
    by_cases h1 : r1 = s1 ∧ r2 = s2
    · simp [h1, ih]
    · have : (!(r1 == s1 && r2 == s2)) = true := by simp; omega
      rw [if_pos this]
      simp
      intro h3 h4
      exact absurd ⟨h3, h4⟩ h1
set_option maxHeartbeats 1000000 in
theorem rSame_any (va vb : Value) (a b : List Rng) (w : World) (ha : Rngs w va a) (hb : Rngs w vb b) :
    Calls Try.prog 58 #[va, vb] w fun e w' => e = .returned (.bool (decide (a.length = b.length) && sameB a b)) ∧ Kp w w' := by
  obtain ⟨A, c, rfl, hc, hm⟩ := ha.form
  obtain ⟨A', c', rfl, hc', hm'⟩ := hb.form
  by_cases hl : a.length = b.length
  · have HL := hid hl
    have l2 : (a.length != b.length) = false := by simp [hl]
    have l3 : ((a.length : Int) == (b.length : Int)) = true := by simp [hl]
    have l4 : a.length ≤ b.length := by omega
    clear hl
    go_enter Try.func58, Try.ntmps58
    go_wp2
    go_loopw [5] (fun i wr => ∃ k : Nat, k ≤ a.length ∧ i = .int .i64 k ∧ Hid (sameB a b = sameB (a.drop k) (b.drop k)) ∧ Kp w wr) (fun i _ => a.length - (intOf i).toNat)
    case atStart => exact ⟨0, Nat.zero_le _, rfl, rfl, Kp.refl _⟩
    case round =>
      obtain ⟨k, hk, rfl, HB, hbel⟩ := hrel
      by_cases hlt : k < a.length
      · have hlt' : k < b.length := by omega
        obtain ⟨g, o, rfl, hg, h1', h2'⟩ := ha.rng hlt
        obtain ⟨g', o', rfl, hg', h3', h4'⟩ := hb.rng hlt'
        have h1 := hbel.cellS h1'
        have h2 := hbel.cellS h2'
        have h3 := hbel.cellS h3'
        have h4 := hbel.cellS h4'
        have HD := hid (List.drop_eq_getElem_cons hlt)
        have HE := hid (List.drop_eq_getElem_cons hlt')
        clear ha hb h1' h2' h3' h4'
        generalize a[k] = r at *
        generalize b[k] = s at *
        obtain ⟨r1, r2⟩ := r
        obtain ⟨s1, s2⟩ := s
        dsimp only at h1 h2 h3 h4
        have q1 : (0 : Int) ≤ k := by omega
        have q2 : (k : Int) < a.length := by omega
        have q3 : (k : Int) < b.length := by omega
        have hneq := fun W a' b' c' d' => run_neq_rng W a' b' c' d'
        cases hx : rngNe r1 r2 s1 s2 with
        | true =>
          have HF : Hid ((decide (a.length = b.length) && sameB a b) = false) := hid (by rw [HB.out, HD.out, HE.out, sameB, if_pos hx]; simp)
          go_wp2
          go_quiet (fail)
          go_wp2
          go_ret
          exact ⟨ret_bool HF.out.symm, hbel.drewN _⟩
        | false =>
          have HF : Hid (sameB a b = sameB (a.drop (k + 1)) (b.drop (k + 1))) := hid (by rw [HB.out, HD.out, HE.out, sameB, if_neg (by rw [hx]; simp)])
          go_wp2
          go_quiet (fail)
          go_wp2
          go_roundw
          case rel => exact ⟨k + 1, by omega, by go_num, HF, hbel.drewN _⟩
          case measure => simp [intOf]; omega
      · have HF : Hid ((decide (a.length = b.length) && sameB a b) = true) := hid (by rw [HB.out, List.drop_of_length_le (l := a) (by omega)]; simp [sameB, HL.out])
        go_wp2
        go_ret
        exact ⟨ret_bool HF.out.symm, hbel⟩
  · have l2 : (a.length != b.length) = true := by simp [hl]
    go_enter Try.func58, Try.ntmps58
    go_wp2
    go_ret
    exact ⟨ret_bool (by simp [hl]), Kp.refl _⟩
end Go.Proofs.Ytmecjjfpgjpeoaa
