
/-
What the reference's Valid returns, for any input.
-/
import Derived.Test.YtmecjjfpgjpeoaaRef1
namespace Go.Proofs.Ytmecjjfpgjpeoaa
open Go.RowKit

theorem rinside_kp (n lo hi : Int) (w : World) :
    Calls Try.prog 49 #[.int .i64 n, .int .i64 lo, .int .i64 hi] w fun e w' => e = .returned (.bool (insideB n lo hi)) ∧ Kp w w' :=
  (rinside_any n lo hi w).mono fun _ _ ⟨he, hw⟩ => ⟨he, hw ▸ Kp.refl _⟩
theorem rDown_kp (a b : Int) (w : World) (h0 : 0 < b) (h1 : b ≤ 1000000000000) (h2 : -1000000000000000 ≤ a) (h3 : a ≤ 1000000000000000) :
    Calls Try.prog 44 #[.int .i64 a, .int .i64 b] w fun e w' => e = .returned (.int .i64 (a / b)) ∧ Kp w w' :=
  (rDown_any a b w h0 h1 h2 h3).mono fun _ _ ⟨he, hw⟩ => ⟨he, hw ▸ Kp.refl _⟩

theorem validB_long {b : List Rng} {rows : List Row} (h : 128 < b.length) : validB b rows = false := by
  unfold validB boxB
  rw [decide_eq_false (by omega)]
  simp
theorem validB_short {b : List Rng} {rows : List Row} (h : b.length ≤ 128) : validB b rows = (boxL b && !rows.any (fun r => !fitsB b.length r)) := by
  unfold validB boxB
  rw [decide_eq_true h]
  simp
def rowsL (n : Int) : List Row → Bool
  | [] => true
  | r :: l => if fitsB n r then rowsL n l else false
theorem rowsL_any (n : Int) : ∀ l, rowsL n l = !l.any (fun r => !fitsB n r)
  | [] => rfl
  | r :: l => by
    unfold rowsL
    rw [List.any_cons, rowsL_any n l]
    cases fitsB n r <;> simp

set_option maxHeartbeats 2000000 in
theorem rValid_any (vb vr : Value) (b : List Rng) (rows : List Row) (w : World) (hb : Rngs w vb b) (hr : RowsL w vr rows) :
    Calls Try.prog 19 #[vb, vr] w fun e w' => e = .returned (.bool (validB b rows)) ∧ Kp w w' := by
  obtain ⟨A, c, rfl, hc, hm⟩ := hb.form
  obtain ⟨A', c', rfl, hc', hm'⟩ := hr.form
  by_cases h128 : 128 < b.length
  · have HF : Hid (validB b rows = false) := hid (validB_long h128)
    go_enter Try.func19, Try.ntmps19
    go_wp2
    go_ret
    exact ⟨ret_bool HF.out.symm, Kp.refl _⟩
  · have HV : Hid (validB b rows = (boxL b && rowsL b.length rows)) := hid (by rw [rowsL_any]; exact validB_short (by omega))
    go_enter Try.func19, Try.ntmps19
    go_wp2
    go_loopw [5] (fun i wr => ∃ k : Nat, k ≤ b.length ∧ i = .int .i64 k ∧ Hid (boxL b = boxL (b.drop k)) ∧ Kp w wr) (fun i _ => b.length - (intOf i).toNat)
    case atStart => exact ⟨0, Nat.zero_le _, rfl, rfl, Kp.refl _⟩
    case round =>
      obtain ⟨k, hk, rfl, HB, hbel⟩ := hrel
      by_cases hlt : k < b.length
      · obtain ⟨g, o, rfl, hg, h1', h2'⟩ := hb.rng hlt
        have h1 := hbel.cellS h1'
        have h2 := hbel.cellS h2'
        have HD := hid (List.drop_eq_getElem_cons hlt)
        clear h1' h2' hb hr
        generalize b[k] = r at *
        obtain ⟨lo, hi⟩ := r
        dsimp only at h1 h2
        by_cases g1 : -1000000 ≤ lo ∧ lo ≤ 1000000
        · have i1 : insideB lo (-1000000) 1000000 = true := decide_eq_true g1
          by_cases g2 : -1000000 ≤ hi ∧ hi ≤ 1000000
          · have HF : Hid (boxL b = boxL (b.drop (k + 1))) := hid (by rw [HB.out, HD.out, boxL, if_neg (by unfold bad; dsimp only; omega)])
            have i2 : insideB hi (-1000000) 1000000 = true := decide_eq_true g2
            clear g1 g2
            go_wp2_with (go_at_call 49; refine (rinside_any _ _ _ _).mono ?_; rintro e w' ⟨rfl, rfl⟩)
            go_roundw
            case rel => exact ⟨k + 1, by omega, by go_num, HF, hbel⟩
            case measure => simp [intOf]; omega
          · have HF : Hid (validB b rows = false) := hid (by rw [HV.out, HB.out, HD.out, boxL, if_pos (by unfold bad; dsimp only; omega)]; rfl)
            have i2 : insideB hi (-1000000) 1000000 = false := decide_eq_false g2
            clear g1 g2
            go_wp2_with (go_at_call 49; refine (rinside_any _ _ _ _).mono ?_; rintro e w' ⟨rfl, rfl⟩)
            go_ret
            exact ⟨ret_bool HF.out.symm, hbel⟩
        · have HF : Hid (validB b rows = false) := hid (by rw [HV.out, HB.out, HD.out, boxL, if_pos (by unfold bad; dsimp only; omega)]; rfl)
          have i1 : insideB lo (-1000000) 1000000 = false := decide_eq_false g1
          clear g1
          go_wp2_with (go_at_call 49; refine (rinside_any _ _ _ _).mono ?_; rintro e w' ⟨rfl, rfl⟩)
          go_ret
          exact ⟨ret_bool HF.out.symm, hbel⟩
      · have HV2 : Hid (validB b rows = rowsL b.length rows) := hid (by rw [HV.out, HB.out, List.drop_of_length_le (by omega)]; simp [boxL])
        clear hb
        go_wp2
        obtain ⟨wo, rfl⟩ : ∃ wo : World, wo = wr := ⟨_, rfl⟩
        go_loopw [6] (fun i wr => ∃ k : Nat, k ≤ rows.length ∧ i = .int .i64 k ∧ Hid (rowsL b.length rows = rowsL b.length (rows.drop k)) ∧ Kp w wr) (fun i _ => rows.length - (intOf i).toNat)
        case atStart => exact ⟨0, Nat.zero_le _, rfl, rfl, hbel⟩
        case round =>
          clear hbel
          obtain ⟨j, hj, rfl, HB, hbel⟩ := hrel
          by_cases hlt2 : j < rows.length
          · obtain ⟨g, o, A9, c9, rfl, hg, h1', h2', ht⟩ := hr.row hlt2
            have h1 := hbel.cellS h1'
            have h2 := hbel.cellS h2'
            have HD := hid (List.drop_eq_getElem_cons hlt2)
            clear h1' h2' hr
            generalize rows[j] = r at *
            obtain ⟨ts, bd⟩ := r
            dsimp only at h1 h2 ht
            go_wp2_with fail
            refine (rRow_any _ _ ts bd _ (ht.keep (pl_stable _) hbel)).mono ?_
            rintro e w1 ⟨rfl, hk1⟩
            have hbel1 := (hbel).trans hk1
            cases hf : fitsB b.length ⟨ts, bd⟩ with
            | true =>
              have HF : Hid (rowsL b.length rows = rowsL b.length (rows.drop (j + 1))) := hid (by rw [HB.out, HD.out, rowsL, if_pos hf])
              clear hf
              go_wp2
              go_roundw
              case rel => exact ⟨j + 1, by omega, by go_num, HF, hbel1⟩
              case measure => simp [intOf]; omega
            | false =>
              have HF : Hid (validB b rows = false) := hid (by rw [HV2.out, HB.out, HD.out, rowsL, if_neg (by rw [hf]; simp)])
              clear hf
              go_wp2
              go_ret
              exact ⟨ret_bool HF.out.symm, hbel1⟩
          · have HF : Hid (validB b rows = true) := hid (by rw [HV2.out, HB.out, List.drop_of_length_le (by omega)]; rfl)
            go_wp2
            go_ret
            exact ⟨ret_bool HF.out.symm, hbel⟩

end Go.Proofs.Ytmecjjfpgjpeoaa
