/-
What the reference's small functions return, for any input.
What the reference's Valid returns, for any input.
What the reference's Empty, Contains and Meet return, for any input.
What the reference's Middle, Size, End, Same, Least, Value and With return, for any input.
-/
import Derived.Test.YtlbhidiliogflaaGreatIB
namespace Go.Proofs.YtlbhidiliogflaaGreat
set_option linter.unusedSimpArgs false
set_option linter.unusedVariables false
open Go.RowKit

def insideB (n lo hi : Int) : Bool := decide (lo ≤ n ∧ n ≤ hi)
set_option maxHeartbeats 400000 in
theorem rinside_any (n lo hi : Int) (w : World) :
    Calls Tryz.prog 64 #[.int .i64 n, .int .i64 lo, .int .i64 hi] w fun e w' => e = .returned (.bool (insideB n lo hi)) ∧ w = w' := by
  by_cases h1 : lo ≤ n
  · by_cases h2 : n ≤ hi
    · have HF : Hid (insideB n lo hi = true) := hid (by simp [insideB, h1, h2])
      have d1 : decide (lo ≤ n) = true := by simpa using h1
      have d2 : decide (n ≤ hi) = true := by simpa using h2
      go_enter Tryz.func64, Tryz.ntmps64
      go_wp2
      go_ret
      exact ⟨ret_bool HF.out.symm, rfl⟩
    · have HF : Hid (insideB n lo hi = false) := hid (by simp [insideB, h1, h2])
      have d1 : decide (lo ≤ n) = true := by simpa using h1
      have d2 : decide (n ≤ hi) = false := by simpa using h2
      go_enter Tryz.func64, Tryz.ntmps64
      go_wp2
      go_ret
      exact ⟨ret_bool HF.out.symm, rfl⟩
  · have HF : Hid (insideB n lo hi = false) := hid (by simp [insideB, h1])
    have d1 : decide (lo ≤ n) = false := by simpa using h1
    go_enter Tryz.func64, Tryz.ntmps64
    go_wp2
    go_ret
    exact ⟨ret_bool HF.out.symm, rfl⟩
/-- both answers, for a walk that must part -/
theorem rinside_yes (n lo hi : Int) (w : World) (h : lo ≤ n ∧ n ≤ hi) : Calls Tryz.prog 64 #[.int .i64 n, .int .i64 lo, .int .i64 hi] w fun e w' => e = .returned (.bool true) ∧ w = w' := by
  have := rinside_any n lo hi w
  rwa [show insideB n lo hi = true by simp [insideB, h]] at this
theorem rinside_no (n lo hi : Int) (w : World) (h : ¬ (lo ≤ n ∧ n ≤ hi)) : Calls Tryz.prog 64 #[.int .i64 n, .int .i64 lo, .int .i64 hi] w fun e w' => e = .returned (.bool false) ∧ w = w' := by
  have := rinside_any n lo hi w
  rwa [show insideB n lo hi = false by simp only [insideB]; exact decide_eq_false h] at this

set_option maxHeartbeats 1000000 in
theorem rDown_any (a b : Int) (w : World) (h0 : 0 < b) (h1 : b ≤ 1000000000000) (h2 : -1000000000000000 ≤ a) (h3 : a ≤ 1000000000000000) :
    Calls Tryz.prog 72 #[.int .i64 a, .int .i64 b] w fun e w' => e = .returned (.int .i64 (a / b)) ∧ w = w' := by
  have HE := hid (ediv_of_tdiv a b h0)
  obtain ⟨t1, t2⟩ := tdiv_bd a b h0 h2 h3
  by_cases ha : a < 0
  · by_cases hm : a.tmod b < 0
    · have HF : Hid (a / b = a.tdiv b - 1) := hid (by rw [HE.out, if_pos ⟨by omega, ha⟩])
      go_enter Tryz.func72, Tryz.ntmps72
      go_wp2
      go_ret
      exact ⟨ret_int HF.out.symm, rfl⟩
    · have HF : Hid (a / b = a.tdiv b) := hid (by
        have h4 := Int.tmod_nonneg (a := -a) b (by omega)
        rw [Int.neg_tmod] at h4
        rw [HE.out, if_neg (by omega)])
      go_enter Tryz.func72, Tryz.ntmps72
      go_wp2
      go_ret
      exact ⟨ret_int HF.out.symm, rfl⟩
  · have HF : Hid (a / b = a.tdiv b) := hid (by rw [HE.out, if_neg (by omega)])
    have h4 := Int.tmod_nonneg (a := a) b (by omega)
    have h5 := Int.emod_nonneg a (b := b) (by omega)
    go_enter Tryz.func72, Tryz.ntmps72
    go_wp2
    go_ret
    exact ⟨ret_int HF.out.symm, rfl⟩

theorem fitsL_app (n last : Int) (t : Term) (l : List Term) : fitsL n last (t :: l) = if badT n last t then false else fitsL n t.cell l := rfl
set_option maxHeartbeats 1000000 in
theorem rRow_any (n : Int) (v : Value) (l : List Term) (bd : Int) (w : World) (hS : Terms w v l) :
    Calls Tryz.prog 65 #[.agg #[v, .int .i64 bd], .int .i64 n] w fun e w' => e = .returned (.bool (fitsB n ⟨l, bd⟩)) ∧ Kp w w' := by
  obtain ⟨A, c, rfl, hc, hm⟩ := hS.form
  go_enter Tryz.func65, Tryz.ntmps65
  go_wp2
  have hk0 := (Kp.refl w).alloc (.cells #[.slice A l.length c, .int .i64 bd] 51)
  have hb0 := alloc_cell w #[.slice A l.length c, .int .i64 bd] 51 0 rfl
  have hb1 := alloc_cell w #[.slice A l.length c, .int .i64 bd] 51 1 rfl
  have hlt0 := alloc_lt w (.cells #[.slice A l.length c, .int .i64 bd] 51)
  generalize w.alloc (.cells #[.slice A l.length c, .int .i64 bd] 51) = w0 at *
  have hS0 := hS.keep (pl_stable _) hk0
  go_loopw [5, 6] (fun z i wr => ∃ (k : Nat) (last : Int), k ≤ l.length ∧ i = .int .i64 k ∧ z = .int .i64 last ∧ Hid (fitsL n (-1) l = fitsL n last (l.drop k)) ∧ Kp w0 wr) (fun _ i _ => l.length - (intOf i).toNat)
  case atStart => exact ⟨0, -1, Nat.zero_le _, rfl, rfl, rfl, Kp.refl _⟩
  case round =>
    obtain ⟨k, last, hk, rfl, rfl, HB, hbel⟩ := hrel
    have hbel' := hk0.trans hbel
    have c0 := hbel.cellS hb0
    have c1 := hbel.cellS hb1
    have hlt1 : w.heap.size < wr.heap.size := by have := hbel.size; omega
    clear hb0 hb1
    by_cases hlt : k < l.length
    · obtain ⟨b, o, rfl, hb, h1, h2⟩ := (hS0.keep (pl_stable _) hbel).term hlt
      have HD := hid (List.drop_eq_getElem_cons hlt)
      generalize l[k] = r at *
      obtain ⟨ce, fa⟩ := r
      clear hS hS0
      dsimp only at h1 h2
      by_cases hbad : badT n last ⟨ce, fa⟩
      · have HF : Hid (fitsB n ⟨l, bd⟩ = false) := hid (by unfold fitsB; dsimp only; rw [HB.out, HD.out, fitsL, if_pos hbad]; rfl)
        unfold badT at hbad
        dsimp only at hbad
        by_cases g5 : -1000 ≤ fa ∧ fa ≤ 1000
        · go_wp2_with (go_at_call 64; refine (rinside_yes _ _ _ _ g5).mono ?_; rintro e w' ⟨rfl, rfl⟩)
          all_goals first
            | (go_ret; exact ⟨ret_bool HF.out.symm, (by repeat (first | assumption | exact Kp.refl _ | apply Kp.alloc | apply Kp.drew | apply Kp.drewN))⟩)
            | (exfalso; omega)
        · go_wp2_with (go_at_call 64; refine (rinside_no _ _ _ _ g5).mono ?_; rintro e w' ⟨rfl, rfl⟩)
          all_goals first
            | (go_ret; exact ⟨ret_bool HF.out.symm, (by repeat (first | assumption | exact Kp.refl _ | apply Kp.alloc | apply Kp.drew | apply Kp.drewN))⟩)
            | (exfalso; omega)
      · have HF : Hid (fitsL n (-1) l = fitsL n ce (l.drop (k + 1))) := hid (by rw [HB.out, HD.out, fitsL, if_neg hbad])
        unfold badT at hbad
        dsimp only at hbad
        have g1 : last < ce := by omega
        have g2 : ce < n := by omega
        have g3 : (fa == 0) = false := beq_eq_false_iff_ne.2 (by omega)
        have g5 : -1000 ≤ fa ∧ fa ≤ 1000 := by omega
        have G5 := hid g5
        clear hbad g5
        go_wp2_with (go_at_call 64; refine (rinside_yes _ _ _ _ G5.out).mono ?_; rintro e w' ⟨rfl, rfl⟩)
        go_roundw
        case rel => exact ⟨k + 1, ce, by omega, by go_num, rfl, HF, (by repeat (first | assumption | exact Kp.refl _ | apply Kp.alloc | apply Kp.drew | apply Kp.drewN))⟩
        case measure => simp [intOf]; omega
    · have HF : Hid (fitsB n ⟨l, bd⟩ = insideB bd (-1000000000) 1000000000) := hid (by unfold fitsB; dsimp only; rw [HB.out, List.drop_of_length_le (by omega)]; simp [fitsL, insideB])
      go_wp2_with (go_at_call 64; refine (rinside_any _ _ _ _).mono ?_; rintro e w' ⟨rfl, rfl⟩)
      go_ret
      exact ⟨ret_bool HF.out.symm, (by repeat (first | assumption | exact Kp.refl _ | apply Kp.alloc | apply Kp.drew | apply Kp.drewN))⟩
end Go.Proofs.YtlbhidiliogflaaGreat
namespace Go.Proofs.YtlbhidiliogflaaGreat
set_option linter.unusedSimpArgs false
set_option linter.unusedVariables false
open Go.RowKit

theorem rinside_kp (n lo hi : Int) (w : World) :
    Calls Tryz.prog 64 #[.int .i64 n, .int .i64 lo, .int .i64 hi] w fun e w' => e = .returned (.bool (insideB n lo hi)) ∧ Kp w w' :=
  (rinside_any n lo hi w).mono fun _ _ ⟨he, hw⟩ => ⟨he, hw ▸ Kp.refl _⟩
theorem rDown_kp (a b : Int) (w : World) (h0 : 0 < b) (h1 : b ≤ 1000000000000) (h2 : -1000000000000000 ≤ a) (h3 : a ≤ 1000000000000000) :
    Calls Tryz.prog 72 #[.int .i64 a, .int .i64 b] w fun e w' => e = .returned (.int .i64 (a / b)) ∧ Kp w w' :=
  (rDown_any a b w h0 h1 h2 h3).mono fun _ _ ⟨he, hw⟩ => ⟨he, hw ▸ Kp.refl _⟩

theorem validB_long {b : List Rng} {rows : List Row} (h : 128 < b.length) : validB b rows = false := by
  unfold validB boxB
  rw [decide_eq_false (by omega)]
  simp
theorem validB_short {b : List Rng} {rows : List Row} (h : b.length ≤ 128) : validB b rows = (boxL b && !rows.any (fun r => !fitsB b.length r)) := by
  unfold validB boxB
  rw [decide_eq_true h]
  simp
def rowsL (n : Int) : List Row → Bool
  | [] => true
  | r :: l => if fitsB n r then rowsL n l else false
theorem rowsL_any (n : Int) : ∀ l, rowsL n l = !l.any (fun r => !fitsB n r)
  | [] => rfl
  | r :: l => by
    unfold rowsL
    rw [List.any_cons, rowsL_any n l]
    cases fitsB n r <;> simp

set_option maxHeartbeats 2000000 in
theorem rValid_any (vb vr : Value) (b : List Rng) (rows : List Row) (w : World) (hb : Rngs w vb b) (hr : RowsL w vr rows) :
    Calls Tryz.prog 35 #[vb, vr] w fun e w' => e = .returned (.bool (validB b rows)) ∧ Kp w w' := by
  obtain ⟨A, c, rfl, hc, hm⟩ := hb.form
  obtain ⟨A', c', rfl, hc', hm'⟩ := hr.form
  by_cases h128 : 128 < b.length
  · have HF : Hid (validB b rows = false) := hid (validB_long h128)
    go_enter Tryz.func35, Tryz.ntmps35
    go_wp2
    go_ret
    exact ⟨ret_bool HF.out.symm, Kp.refl _⟩
  · have HV : Hid (validB b rows = (boxL b && rowsL b.length rows)) := hid (by rw [rowsL_any]; exact validB_short (by omega))
    go_enter Tryz.func35, Tryz.ntmps35
    go_wp2
    go_loopw [5] (fun i wr => ∃ k : Nat, k ≤ b.length ∧ i = .int .i64 k ∧ Hid (boxL b = boxL (b.drop k)) ∧ Kp w wr) (fun i _ => b.length - (intOf i).toNat)
    case atStart => exact ⟨0, Nat.zero_le _, rfl, rfl, Kp.refl _⟩
    case round =>
      obtain ⟨k, hk, rfl, HB, hbel⟩ := hrel
      by_cases hlt : k < b.length
      · obtain ⟨g, o, rfl, hg, h1', h2'⟩ := hb.rng hlt
        have h1 := hbel.cellS h1'
        have h2 := hbel.cellS h2'
        have HD := hid (List.drop_eq_getElem_cons hlt)
        clear h1' h2' hb hr
        generalize b[k] = r at *
        obtain ⟨lo, hi⟩ := r
        dsimp only at h1 h2
        by_cases g1 : -1000000 ≤ lo ∧ lo ≤ 1000000
        · have i1 : insideB lo (-1000000) 1000000 = true := decide_eq_true g1
          by_cases g2 : -1000000 ≤ hi ∧ hi ≤ 1000000
          · have HF : Hid (boxL b = boxL (b.drop (k + 1))) := hid (by rw [HB.out, HD.out, boxL, if_neg (by unfold bad; dsimp only; omega)])
            have i2 : insideB hi (-1000000) 1000000 = true := decide_eq_true g2
            clear g1 g2
            go_wp2_with (go_at_call 64; refine (rinside_any _ _ _ _).mono ?_; rintro e w' ⟨rfl, rfl⟩)
            go_roundw
            case rel => exact ⟨k + 1, by omega, by go_num, HF, hbel⟩
            case measure => simp [intOf]; omega
          · have HF : Hid (validB b rows = false) := hid (by rw [HV.out, HB.out, HD.out, boxL, if_pos (by unfold bad; dsimp only; omega)]; rfl)
            have i2 : insideB hi (-1000000) 1000000 = false := decide_eq_false g2
            clear g1 g2
            go_wp2_with (go_at_call 64; refine (rinside_any _ _ _ _).mono ?_; rintro e w' ⟨rfl, rfl⟩)
            go_ret
            exact ⟨ret_bool HF.out.symm, hbel⟩
        · have HF : Hid (validB b rows = false) := hid (by rw [HV.out, HB.out, HD.out, boxL, if_pos (by unfold bad; dsimp only; omega)]; rfl)
          have i1 : insideB lo (-1000000) 1000000 = false := decide_eq_false g1
          clear g1
          go_wp2_with (go_at_call 64; refine (rinside_any _ _ _ _).mono ?_; rintro e w' ⟨rfl, rfl⟩)
          go_ret
          exact ⟨ret_bool HF.out.symm, hbel⟩
      · have HV2 : Hid (validB b rows = rowsL b.length rows) := hid (by rw [HV.out, HB.out, List.drop_of_length_le (by omega)]; simp [boxL])
        clear hb
        go_wp2
        obtain ⟨wo, rfl⟩ : ∃ wo : World, wo = wr := ⟨_, rfl⟩
        go_loopw [6] (fun i wr => ∃ k : Nat, k ≤ rows.length ∧ i = .int .i64 k ∧ Hid (rowsL b.length rows = rowsL b.length (rows.drop k)) ∧ Kp w wr) (fun i _ => rows.length - (intOf i).toNat)
        case atStart => exact ⟨0, Nat.zero_le _, rfl, rfl, hbel⟩
        case round =>
          clear hbel
          obtain ⟨j, hj, rfl, HB, hbel⟩ := hrel
          by_cases hlt2 : j < rows.length
          · obtain ⟨g, o, A9, c9, rfl, hg, h1', h2', ht⟩ := hr.row hlt2
            have h1 := hbel.cellS h1'
            have h2 := hbel.cellS h2'
            have HD := hid (List.drop_eq_getElem_cons hlt2)
            clear h1' h2' hr
            generalize rows[j] = r at *
            obtain ⟨ts, bd⟩ := r
            dsimp only at h1 h2 ht
            go_wp2_with fail
            refine (rRow_any _ _ ts bd _ (ht.keep (pl_stable _) hbel)).mono ?_
            rintro e w1 ⟨rfl, hk1⟩
            have hbel1 := (hbel).trans hk1
            cases hf : fitsB b.length ⟨ts, bd⟩ with
            | true =>
              have HF : Hid (rowsL b.length rows = rowsL b.length (rows.drop (j + 1))) := hid (by rw [HB.out, HD.out, rowsL, if_pos hf])
              clear hf
              go_wp2
              go_roundw
              case rel => exact ⟨j + 1, by omega, by go_num, HF, hbel1⟩
              case measure => simp [intOf]; omega
            | false =>
              have HF : Hid (validB b rows = false) := hid (by rw [HV2.out, HB.out, HD.out, rowsL, if_neg (by rw [hf]; simp)])
              clear hf
              go_wp2
              go_ret
              exact ⟨ret_bool HF.out.symm, hbel1⟩
          · have HF : Hid (validB b rows = true) := hid (by rw [HV2.out, HB.out, List.drop_of_length_le (by omega)]; rfl)
            go_wp2
            go_ret
            exact ⟨ret_bool HF.out.symm, hbel⟩

end Go.Proofs.YtlbhidiliogflaaGreat
namespace Go.Proofs.YtlbhidiliogflaaGreat
set_option linter.unusedSimpArgs false
set_option linter.unusedVariables false
open Go.RowKit

/-! Empty -/
set_option maxHeartbeats 1000000 in
theorem rEmpty_any (vb : Value) (b : List Rng) (w : World) (hb : Rngs w vb b) :
    Calls Tryz.prog 36 #[vb] w fun e w' => e = .returned (.bool (b.any emptyR)) ∧ Kp w w' := by
  obtain ⟨A, c, rfl, hc, hm⟩ := hb.form
  go_enter Tryz.func36, Tryz.ntmps36
  go_wp2
  go_loopw [3] (fun i wr => ∃ k : Nat, k ≤ b.length ∧ i = .int .i64 k ∧ Hid (b.any emptyR = (b.drop k).any emptyR) ∧ Kp w wr) (fun i _ => b.length - (intOf i).toNat)
  case atStart => exact ⟨0, Nat.zero_le _, rfl, rfl, Kp.refl _⟩
  case round =>
    obtain ⟨k, hk, rfl, HB, hbel⟩ := hrel
    by_cases hlt : k < b.length
    · obtain ⟨g, o, rfl, hg, h1', h2'⟩ := hb.rng hlt
      have h1 := hbel.cellS h1'
      have h2 := hbel.cellS h2'
      have HD := hid (List.drop_eq_getElem_cons hlt)
      clear h1' h2' hb
      generalize b[k] = r at *
      obtain ⟨lo, hi⟩ := r
      dsimp only at h1 h2
      have q1 : (0 : Int) ≤ k := by omega
      have q2 : (k : Int) < b.length := by omega
      by_cases he : hi < lo
      · have HF : Hid (b.any emptyR = true) := hid (by rw [HB.out, HD.out]; simp [emptyR, he])
        go_wp2
        go_quiet (fail)
        go_wp2
        go_ret
        exact ⟨ret_bool HF.out.symm, hbel.drewN _⟩
      · have HF : Hid (b.any emptyR = (b.drop (k + 1)).any emptyR) := hid (by rw [HB.out, HD.out]; simp [emptyR, he])
        go_wp2
        go_quiet (fail)
        go_wp2
        go_roundw
        case rel => exact ⟨k + 1, by omega, by go_num, HF, hbel.drewN _⟩
        case measure => simp [intOf]; omega
    · have HF : Hid (b.any emptyR = false) := hid (by rw [HB.out, List.drop_of_length_le (by omega)]; rfl)
      go_wp2
      go_ret
      exact ⟨ret_bool HF.out.symm, hbel⟩

/-! Contains -/
/-! Meet -/
end Go.Proofs.YtlbhidiliogflaaGreat
namespace Go.Proofs.YtlbhidiliogflaaGreat
set_option linter.unusedSimpArgs false
set_option linter.unusedVariables false
open Go.RowKit

set_option maxHeartbeats 400000 in
theorem rMiddle_any (lo hi : Int) (w : World) :
    Calls Tryz.prog 51 #[.agg #[.int .i64 lo, .int .i64 hi]] w fun e w' => e = .returned (.int .i64 (middle ⟨lo, hi⟩)) ∧ Kp w w' := by
  go_enter Tryz.func51, Tryz.ntmps51
  have HS1 := hid (Sl.one (R := Pl encRng) (w.alloc (.cells #[.int .i64 lo, .int .i64 hi] 57)) [.int .i64 lo, .int .i64 hi] 57 2 ⟨lo, hi⟩ rfl rfl)
  go_wp2_with fail
  have HS2 := HS1.out
  rw [World.size_alloc] at HS2
  have hk1 := ((Kp.refl w).alloc (.cells #[.int .i64 lo, .int .i64 hi] 57)).alloc (.cells #[.int .i64 lo, .int .i64 hi] 57)
  refine (rValid_any _ _ _ [] _ HS2 (Sl.nil _ _ _)).mono ?_
  rintro e w1 ⟨rfl, hk2⟩
  have hbel1 := hk1.trans hk2
  have hc0 : w1.cell? ⟨w.heap.size, 0, none⟩ = some (.int .i64 lo) := hk2.cellS (by go_simp)
  have hc1 : w1.cell? ⟨w.heap.size, 1, none⟩ = some (.int .i64 hi) := hk2.cellS (by go_simp)
  clear HS2 hk1 hk2 HS1
  have hvb : validB [⟨lo, hi⟩] [] = boxB [⟨lo, hi⟩] := by simp [validB]
  rw [hvb]
  cases hB : boxB [⟨lo, hi⟩] with
  | false =>
    have HF : Hid (middle ⟨lo, hi⟩ = 0) := hid (by simp [middle, hB])
    clear hB hvb
    go_wp2
    go_ret
    exact ⟨ret_int HF.out.symm, hbel1⟩
  | true =>
    have HF : Hid (middle ⟨lo, hi⟩ = (lo + hi) / 2) := hid (by simp [middle, hB])
    have hbad := not_bad ((boxB_all hB).1 ⟨lo, hi⟩ (by simp))
    dsimp only at hbad
    obtain ⟨g1, g2, g3, g4⟩ := hbad
    clear hB hvb
    go_wp2_with fail
    refine (rDown_any (lo + hi) 2 _ (by omega) (by omega) (by omega) (by omega)).mono ?_
    rintro e w2 ⟨rfl, rfl⟩
    go_wp2
    go_ret
    exact ⟨ret_int HF.out.symm, hbel1⟩

/-! Size -/
set_option maxHeartbeats 1000000 in
theorem rSize_any (vb : Value) (b : List Rng) (w : World) (hb : Rngs w vb b) :
    Calls Tryz.prog 37 #[vb] w fun e w' => e = .returned (.int .i64 (sizeB b)) ∧ Kp w w' := by
  obtain ⟨A, c, rfl, hc, hm⟩ := hb.form
  have hvb : validB b [] = boxB b := by simp [validB]
  have HVB := hid hvb
  clear hvb
  go_enter Tryz.func37, Tryz.ntmps37
  go_wp2_with fail
  refine (rValid_any _ _ b [] _ hb (Sl.nil _ _ _)).mono ?_
  rintro e w1 ⟨rfl, hk1⟩
  have hbel1 := ((Kp.refl _)).trans hk1
  rw [HVB.out]
  cases hB : boxB b with
  | false =>
    have HF : Hid (sizeB b = 0) := hid (by simp [sizeB, hB])
    clear hB
    go_wp2
    go_ret
    exact ⟨ret_int HF.out.symm, hbel1⟩
  | true =>
    obtain ⟨hall, h128⟩ := boxB_all hB
    have HA := hid hall
    have HB := hid hB
    clear hB hall
    go_wp2_with fail
    refine (rEmpty_any _ b _ (hb.keep (pl_stable _) hk1)).mono ?_
    rintro e w2 ⟨rfl, hk2⟩
    have hbel2 := (hbel1).trans hk2
    cases hE : b.any emptyR with
    | true =>
      have HF : Hid (sizeB b = 0) := hid (by simp [sizeB, hE])
      clear hE
      go_wp2
      go_ret
      exact ⟨ret_int HF.out.symm, hbel2⟩
    | false =>
      have HE := hid hE
      have hS : Hid (sizeB b = sizeL 1 b) := hid (by simp [sizeB, hE, HB.out])
      clear hE
      go_wp2
      go_loopw [3, 4] (fun z i wr => ∃ (k : Nat) (n : Int), k ≤ b.length ∧ i = .int .i64 k ∧ 1 ≤ n ∧ n ≤ 1073741824 ∧ z = .int .i64 n ∧ Hid (sizeB b = sizeL n (b.drop k)) ∧ Kp w wr) (fun _ i _ => b.length - (intOf i).toNat)
      case atStart => exact ⟨0, 1, Nat.zero_le _, rfl, by omega, by omega, rfl, hS, hbel2⟩
      case round =>
        obtain ⟨k, n, hk, rfl, hn1, hn2, rfl, HL, hbel⟩ := hrel
        by_cases hlt : k < b.length
        · obtain ⟨g, o, rfl, hg, h1', h2'⟩ := hb.rng hlt
          have h1 := hbel.cellS h1'
          have h2 := hbel.cellS h2'
          have HD := hid (List.drop_eq_getElem_cons hlt)
          have hnb := not_bad (HA.out b[k] (List.getElem_mem hlt))
          have hne : b[k].lo ≤ b[k].hi := by
            have h0 := List.any_eq_false.1 HE.out b[k] (List.getElem_mem hlt)
            unfold emptyR at h0
            simpa using h0
          clear h1' h2' hb
          generalize b[k] = r at *
          obtain ⟨lo, hi⟩ := r
          dsimp only at h1 h2 hnb hne
          obtain ⟨g1, g2, g3, g4⟩ := hnb
          have HF : Hid (sizeB b = sizeL (min (n * (hi - lo + 1)) 1073741824) (b.drop (k + 1))) := hid (by rw [HL.out, HD.out, sizeL])
          obtain ⟨p1, p2⟩ := size_bd n lo hi hn1 hn2 hne g1 g4
          have HW : wrap64 (n * (hi - lo + 1)) = n * (hi - lo + 1) := IntWalk.wrap64_in _ (by omega)
          have HW' : IntKind.i64.wrap (n * (hi - lo + 1)) = n * (hi - lo + 1) := IntWalk.i64_in _ (by omega)
          have q1 : (0 : Int) ≤ k := by omega
          have q2 : (k : Int) < b.length := by omega
          go_wp2
          go_quiet (fail)
          go_wp2
          all_goals
            go_roundw
            case rel => exact ⟨k + 1, _, by omega, by go_num, by omega, by omega, by go_num, HF, hbel.drewN _⟩
            case measure => simp [intOf]; omega
        · have HF : Hid (sizeB b = n) := hid (by rw [HL.out, List.drop_of_length_le (by omega)]; rfl)
          go_wp2
          go_ret
          exact ⟨ret_int HF.out.symm, hbel⟩

/-! End -/
def endV (t : Term) (r : Rng) (least : Bool) : Int := if decide (0 < t.factor) == least then t.factor * r.lo else t.factor * r.hi
set_option maxHeartbeats 1000000 in
theorem rEnd_any (ce fa lo hi : Int) (least : Bool) (w : World) (h1 : -1000 ≤ fa) (h2 : fa ≤ 1000) (h3 : -1000000 ≤ lo) (h4 : lo ≤ 1000000) (h5 : -1000000 ≤ hi) (h6 : hi ≤ 1000000) :
    Calls Tryz.prog 89 #[.agg #[.int .i64 ce, .int .i64 fa], .agg #[.int .i64 lo, .int .i64 hi], .bool least] w fun e w' => e = .returned (.int .i64 (endV ⟨ce, fa⟩ ⟨lo, hi⟩ least)) ∧ Kp w w' := by
  obtain ⟨p1, p2⟩ := mul_bd fa lo h1 h2 h3 h4
  obtain ⟨p3, p4⟩ := mul_bd fa hi h1 h2 h5 h6
  have HW1 : wrap64 (fa * lo) = fa * lo := IntWalk.wrap64_in _ (by omega)
  have HW2 : wrap64 (fa * hi) = fa * hi := IntWalk.wrap64_in _ (by omega)
  cases least
  all_goals
    by_cases h0 : 0 < fa
    · have d0 : decide (0 < fa) = true := by simpa using h0
      first
        | (have HF : Hid (endV ⟨ce, fa⟩ ⟨lo, hi⟩ true = fa * lo) := hid (by simp [endV, h0])
           go_enter Tryz.func89, Tryz.ntmps89
           go_wp2
           go_ret
           exact ⟨ret_int HF.out.symm, ((Kp.refl w).alloc _).alloc _⟩)
        | (have HF : Hid (endV ⟨ce, fa⟩ ⟨lo, hi⟩ false = fa * hi) := hid (by simp [endV, h0])
           go_enter Tryz.func89, Tryz.ntmps89
           go_wp2
           go_ret
           exact ⟨ret_int HF.out.symm, ((Kp.refl w).alloc _).alloc _⟩)
    · have d0 : decide (0 < fa) = false := by simpa using h0
      first
        | (have HF : Hid (endV ⟨ce, fa⟩ ⟨lo, hi⟩ true = fa * hi) := hid (by simp [endV, h0])
           go_enter Tryz.func89, Tryz.ntmps89
           go_wp2
           go_ret
           exact ⟨ret_int HF.out.symm, ((Kp.refl w).alloc _).alloc _⟩)
        | (have HF : Hid (endV ⟨ce, fa⟩ ⟨lo, hi⟩ false = fa * lo) := hid (by simp [endV, h0])
           go_enter Tryz.func89, Tryz.ntmps89
           go_wp2
           go_ret
           exact ⟨ret_int HF.out.symm, ((Kp.refl w).alloc _).alloc _⟩)
theorem endV_low (b : List Rng) (j : Nat) (h : j < b.length) (fa : Int) (wo : Int) (hw : (j : Int) ≠ wo) : endV ⟨j, fa⟩ b[j] true = termV b wo 1 ⟨j, fa⟩ := by
  unfold endV termV
  dsimp only
  rw [pick_at b j h, if_neg hw, Int.mul_one]
  by_cases h0 : 0 < fa <;> simp [h0]
theorem endV_high (b : List Rng) (j : Nat) (h : j < b.length) (fa : Int) (wo : Int) (hw : (j : Int) ≠ wo) (hf : fa ≠ 0) : endV ⟨j, fa⟩ b[j] false = termV b wo (-1) ⟨j, fa⟩ := by
  unfold endV termV
  dsimp only
  rw [pick_at b j h, if_neg hw]
  by_cases h0 : 0 < fa
  · simp [h0, show ¬ fa < 0 by omega]
  · simp [h0, show fa < 0 by omega]

/-! Same -/
def sameB : List Rng → List Rng → Bool
  | r :: a, s :: b => if rngNe r.lo r.hi s.lo s.hi then false else sameB a b
  | _, _ => true
theorem sameB_iff : ∀ (a b : List Rng), a.length = b.length → (sameB a b = true ↔ a = b)
  | [], [], _ => by simp [sameB]
  | r :: a, s :: b, h => by
    unfold sameB
    have ih := sameB_iff a b (by simpa using h)
    obtain ⟨r1, r2⟩ := r
    obtain ⟨s1, s2⟩ := s
    unfold rngNe
    dsimp only
    by_cases h1 : r1 = s1 ∧ r2 = s2
    · simp [h1, ih]
    · have : (!(r1 == s1 && r2 == s2)) = true := by simp; omega
      rw [if_pos this]
      simp
      intro h3 h4
      exact absurd ⟨h3, h4⟩ h1
end Go.Proofs.YtlbhidiliogflaaGreat
