
/-
Needs and grants that are equal; the reference's order of priorities; needs of a row: the walks.
-/
import Derived.Test.YtbcekihjcgnhkaaBkN
namespace Go.Proofs.Ytbcekihjcgnhkaa
set_option linter.unusedSimpArgs false
set_option linter.unusedVariables false
open Go.RowKit

set_option maxRecDepth 100000 in
theorem eqNd4 (w : World) (n : Nat) (a b c d a' b' c' d' : Int) : (Op.equalIn (n + 3) 41 (.agg #[.int .i64 a, .int .i64 b, .int .i64 c, .int .i64 d]) (.agg #[.int .i64 a', .int .i64 b', .int .i64 c', .int .i64 d'])).run Try.prog w = .ok ((a == a' && b == b' && c == c') && d == d') w := by
  have hu : Try.prog.underlying 41 = some (.struct (Try.prog.fieldsOf 41)) := by kernel_rfl
  have hf := run_equalIn_struct (P := Try.prog) w (n + 2) 41 #[.int .i64 a, .int .i64 b, .int .i64 c, .int .i64 d] #[.int .i64 a', .int .i64 b', .int .i64 c', .int .i64 d'] hu (by kernel_rfl)
  have hfs : (Try.prog.fieldsOf 41).toList = (match Try.prog.underlying 41 with | some (.struct fs) => fs.toList | _ => []) := rfl
  rw [Try.underlying41] at hfs
  have h3 := eqRt3 w n a b c a' b' c'
  rw [hf, hfs]
  go_simp
  by_cases h1 : a = a'
  · by_cases h2 : b = b'
    · by_cases h3 : c = c'
      · by_cases h4 : d = d' <;> simp [h1, h2, h3, h4]
      · simp [h1, h2, h3]
    · simp [h1, h2]
  · simp [h1]
set_option maxRecDepth 100000 in
theorem eqGr5 (w : World) (n : Nat) (e a b c d e' a' b' c' d' : Int) : (Op.equalIn (n + 4) 46 (.agg #[.int .i64 e, .int .i64 a, .int .i64 b, .int .i64 c, .int .i64 d]) (.agg #[.int .i64 e', .int .i64 a', .int .i64 b', .int .i64 c', .int .i64 d'])).run Try.prog w = .ok (e == e' && ((a == a' && b == b' && c == c') && d == d')) w := by
  have hu : Try.prog.underlying 46 = some (.struct (Try.prog.fieldsOf 46)) := by kernel_rfl
  have hf := run_equalIn_struct (P := Try.prog) w (n + 3) 46 #[.int .i64 e, .int .i64 a, .int .i64 b, .int .i64 c, .int .i64 d] #[.int .i64 e', .int .i64 a', .int .i64 b', .int .i64 c', .int .i64 d'] hu (by kernel_rfl)
  have hfs : (Try.prog.fieldsOf 46).toList = (match Try.prog.underlying 46 with | some (.struct fs) => fs.toList | _ => []) := rfl
  rw [Try.underlying46] at hfs
  have h3 := eqNd4 w n a b c d a' b' c' d'
  rw [hf, hfs]
  go_simp
  by_cases h0 : e = e'
  · by_cases h1 : a = a'
    · by_cases h2 : b = b'
      · by_cases h3 : c = c'
        · by_cases h4 : d = d' <;> simp [h0, h1, h2, h3, h4]
        · simp [h0, h1, h2, h3]
      · simp [h0, h1, h2]
    · simp [h0, h1]
  · simp [h0]
abbrev grV (g : Gr) : Value := .agg #[.int .i64 g.1, .int .i64 g.2.1.1, .int .i64 g.2.1.2.1, .int .i64 g.2.1.2.2, .int .i64 g.2.2]
theorem eqGrO (w : World) (x : Gr) : Sem.run Try.prog (Op.equal 46 (grV x) (grV x)) w = .ok true w := by
  have h := eqGr5 w 9996 x.1 x.2.1.1 x.2.1.2.1 x.2.1.2.2 x.2.2 x.1 x.2.1.1 x.2.1.2.1 x.2.1.2.2 x.2.2
  simp only [beq_self_eq_true, Bool.and_self] at h
  exact h
theorem run_neq_gr (w : World) (x : Gr) : (binOp .neq 46 (grV x) (grV x)).run Try.prog w = .ok (.bool false) w := by
  simp only [binOp, Sem.run_bind, eqGrO, Result.andThen_ok, Sem.run_pure]
  rfl
abbrev Grs := Sl (Pl encGr) 5
theorem Sl.gr {w : World} {A : Option Addr} {n c : Nat} {l : List Gr} (h : Grs w (.slice A n c) l) {k : Nat} (hk : k < l.length) :
    ∃ b o, A = some ⟨b, o, none⟩ ∧ b < w.heap.size ∧ w.cell? ⟨b, o + k * 5, none⟩ = some (.int .i64 l[k].1) ∧ w.cell? ⟨b, o + k * 5 + 1, none⟩ = some (.int .i64 l[k].2.1.1) ∧
      w.cell? ⟨b, o + k * 5 + 2, none⟩ = some (.int .i64 l[k].2.1.2.1) ∧ w.cell? ⟨b, o + k * 5 + 3, none⟩ = some (.int .i64 l[k].2.1.2.2) ∧ w.cell? ⟨b, o + k * 5 + 4, none⟩ = some (.int .i64 l[k].2.2) := by
  obtain ⟨b, o, cs, hA, had, hcs, hc, hr⟩ := h.at_ hk
  unfold Pl encGr at hr
  subst hr
  exact ⟨b, o, hA, had, by simpa using hc 0 _ rfl, hc 1 _ rfl, hc 2 _ rfl, hc 3 _ rfl, hc 4 _ rfl⟩
set_option maxHeartbeats 1600000 in
theorem EqualGr_same (va vb : Value) (l : List Gr) (w : World) (ha : Grs w va l) (hb : Grs w vb l) : Calls Try.prog 16 #[va, vb] w fun e w' => e = .returned (.bool true) ∧ Kp w w' := by
  obtain ⟨A, c, rfl, hc, hm⟩ := ha.form
  obtain ⟨B, d, rfl, hd, hn⟩ := hb.form
  have e0 : ((l.length : Int) != (l.length : Int)) = false := by simp
  go_enter Try.func16, Try.ntmps16
  go_wp2
  go_loopw [13] (fun i wr => ∃ k : Nat, k ≤ l.length ∧ i = .int .i64 k ∧ Kp w wr) (fun i _ => l.length - (intOf i).toNat)
  case atStart => exact ⟨0, Nat.zero_le _, rfl, Kp.refl _⟩
  case round =>
    obtain ⟨k, hk, rfl, kr⟩ := hrel
    by_cases hlt : k < l.length
    · have hkl : (k : Int) < (l.length : Int) := by omega
      obtain ⟨g, o, rfl, hg, i0, i1, i2, i3, i4⟩ := (ha.keep (pl_stable _) kr).gr hlt
      obtain ⟨g', o', rfl, hg', j0, j1, j2, j3, j4⟩ := (hb.keep (pl_stable _) kr).gr hlt
      have hq := fun W => run_neq_gr W l[k]
      generalize l[k] = x at *
      go_wp2
      go_quiet (fail)
      go_wp2
      go_roundw
      case rel => exact ⟨k + 1, by omega, by go_num, (by repeat (first | assumption | exact Kp.refl _ | apply Kp.alloc | apply Kp.drew | apply Kp.drewN))⟩
      case measure => simp [intOf]; omega
    · have hkl : ¬ (k : Int) < (l.length : Int) := by omega
      go_wp2
      go_ret
      exact ⟨rfl, kr⟩
/-! the reference's order -/
theorem rless_eq (a1 a2 a3 a4 b1 b2 b3 b4 : Int) : lessB (a1, a2, a3, a4) (b1, b2, b3, b4) = if ((a1 != 0) != (b1 != 0)) = true then (a1 != 0) else if a1 ≠ b1 then decide (a1 < b1) else if a2 ≠ b2 then decide (a2 < b2) else if a3 ≠ b3 then decide (a3 < b3) else decide (a4 < b4) := by
  have key : lessB (a1, a2, a3, a4) (b1, b2, b3, b4) = true ↔ lessP (a1, a2, a3, a4) (b1, b2, b3, b4) := by unfold lessB; exact decide_eq_true_iff
  rw [Bool.eq_iff_iff, key]
  unfold lessP
  dsimp only
  by_cases h1 : a1 = 0
  · have e1 : (a1 != 0) = false := by simpa using h1
    by_cases h2 : b1 = 0
    · have e2 : (b1 != 0) = false := by simpa using h2
      rw [e1, e2, if_neg (by decide), if_neg (by omega)]
      split
      · rw [decide_eq_true_iff]; omega
      · split
        · rw [decide_eq_true_iff]; omega
        · rw [decide_eq_true_iff]; omega
    · have e2 : (b1 != 0) = true := by simpa using h2
      rw [e1, e2, if_pos (by decide)]
      simp only [Bool.false_eq_true, iff_false]
      omega
  · have e1 : (a1 != 0) = true := by simpa using h1
    by_cases h2 : b1 = 0
    · have e2 : (b1 != 0) = false := by simpa using h2
      rw [e1, e2, if_pos (by decide)]
      simp only [iff_true]
      omega
    · have e2 : (b1 != 0) = true := by simpa using h2
      rw [e1, e2, if_neg (by decide)]
      split
      · rw [decide_eq_true_iff]; omega
      · split
        · rw [decide_eq_true_iff]; omega
        · split
          · rw [decide_eq_true_iff]; omega
          · rw [decide_eq_true_iff]; omega
set_option maxHeartbeats 4000000 in
theorem rLess_any (a b : Pr) (w : World) : Calls Try.prog 10 #[prV a, prV b] w fun e w' => e = .returned (.bool (lessB a b)) ∧ Kp w w' := by
  obtain ⟨a1, a2, a3, a4⟩ := a
  obtain ⟨b1, b2, b3, b4⟩ := b
  have HF := hid (rless_eq a1 a2 a3 a4 b1 b2 b3 b4)
  generalize lessB (a1, a2, a3, a4) (b1, b2, b3, b4) = r at *
  have k1 := ((Kp.refl w).alloc (.cells #[.int .i64 a1, .int .i64 a2, .int .i64 a3, .int .i64 a4] 23)).alloc (.cells #[.int .i64 b1, .int .i64 b2, .int .i64 b3, .int .i64 b4] 23)
  have B1 := (Bx.new w #[.int .i64 a1, .int .i64 a2, .int .i64 a3, .int .i64 a4] 23).keep (heap_alloc_old _ (.cells #[.int .i64 b1, .int .i64 b2, .int .i64 b3, .int .i64 b4] 23) (by simp))
  have B2 := (Bx.new (w.alloc (.cells #[.int .i64 a1, .int .i64 a2, .int .i64 a3, .int .i64 a4] 23)) #[.int .i64 b1, .int .i64 b2, .int .i64 b3, .int .i64 b4] 23)
  rw [World.size_alloc] at B2
  go_enter Try.func10, Try.ntmps10
  go_upto_region 1 with (fail)
  generalize ((w.alloc (.cells #[.int .i64 a1, .int .i64 a2, .int .i64 a3, .int .i64 a4] 23)).alloc (.cells #[.int .i64 b1, .int .i64 b2, .int .i64 b3, .int .i64 b4] 23)) = w0 at *
  generalize w.heap.size = b0 at *
  have c0 := B1.cell (j := 0) rfl
  have c1 := B1.cell (j := 1) rfl
  have c2 := B1.cell (j := 2) rfl
  have c3 := B1.cell (j := 3) rfl
  have c4 := B2.cell (j := 0) rfl
  have c5 := B2.cell (j := 1) rfl
  have c6 := B2.cell (j := 2) rfl
  have c7 := B2.cell (j := 3) rfl
  obtain ⟨x, hx⟩ : ∃ x, (a1 != 0) = x := ⟨_, rfl⟩
  obtain ⟨y, hy⟩ : ∃ y, (b1 != 0) = y := ⟨_, rfl⟩
  rw [hx, hy] at HF
  cases x with
  | false =>
    cases y with
    | false =>
      by_cases h1 : a1 = b1
      · have e1 : (a1 != b1) = false := by simpa using h1
        by_cases h2 : a2 = b2
        · have e2 : (a2 != b2) = false := by simpa using h2
          by_cases h3 : a3 = b3
          · have e3 : (a3 != b3) = false := by simpa using h3
            have HR : Hid (r = decide (a4 < b4)) := hid (by rw [HF.out, if_neg (by decide), if_neg (by simpa using h1), if_neg (by simpa using h2), if_neg (by simpa using h3)])
            clear h1 h2 h3
            go_wp2
            go_ret
            exact ⟨ret_bool HR.out.symm, k1⟩
          · have e3 : (a3 != b3) = true := by simpa using h3
            have HR : Hid (r = decide (a3 < b3)) := hid (by rw [HF.out, if_neg (by decide), if_neg (by simpa using h1), if_neg (by simpa using h2), if_pos h3])
            clear h1 h2 h3
            go_wp2
            go_ret
            exact ⟨ret_bool HR.out.symm, k1⟩
        · have e2 : (a2 != b2) = true := by simpa using h2
          have HR : Hid (r = decide (a2 < b2)) := hid (by rw [HF.out, if_neg (by decide), if_neg (by simpa using h1), if_pos h2])
          clear h1 h2
          go_wp2
          go_ret
          exact ⟨ret_bool HR.out.symm, k1⟩
      · have e1 : (a1 != b1) = true := by simpa using h1
        have HR : Hid (r = decide (a1 < b1)) := hid (by rw [HF.out, if_neg (by decide), if_pos h1])
        clear h1
        go_wp2
        go_ret
        exact ⟨ret_bool HR.out.symm, k1⟩
    | true =>
      have HR : Hid (r = false) := hid (by rw [HF.out]; rfl)
      go_wp2
      go_ret
      exact ⟨ret_bool HR.out.symm, k1⟩
  | true =>
    cases y with
    | false =>
      have HR : Hid (r = true) := hid (by rw [HF.out]; rfl)
      go_wp2
      go_ret
      exact ⟨ret_bool HR.out.symm, k1⟩
    | true =>
      by_cases h1 : a1 = b1
      · have e1 : (a1 != b1) = false := by simpa using h1
        by_cases h2 : a2 = b2
        · have e2 : (a2 != b2) = false := by simpa using h2
          by_cases h3 : a3 = b3
          · have e3 : (a3 != b3) = false := by simpa using h3
            have HR : Hid (r = decide (a4 < b4)) := hid (by rw [HF.out, if_neg (by decide), if_neg (by simpa using h1), if_neg (by simpa using h2), if_neg (by simpa using h3)])
            clear h1 h2 h3
            go_wp2
            go_ret
            exact ⟨ret_bool HR.out.symm, k1⟩
          · have e3 : (a3 != b3) = true := by simpa using h3
            have HR : Hid (r = decide (a3 < b3)) := hid (by rw [HF.out, if_neg (by decide), if_neg (by simpa using h1), if_neg (by simpa using h2), if_pos h3])
            clear h1 h2 h3
            go_wp2
            go_ret
            exact ⟨ret_bool HR.out.symm, k1⟩
        · have e2 : (a2 != b2) = true := by simpa using h2
          have HR : Hid (r = decide (a2 < b2)) := hid (by rw [HF.out, if_neg (by decide), if_neg (by simpa using h1), if_pos h2])
          clear h1 h2
          go_wp2
          go_ret
          exact ⟨ret_bool HR.out.symm, k1⟩
      · have e1 : (a1 != b1) = true := by simpa using h1
        have HR : Hid (r = decide (a1 < b1)) := hid (by rw [HF.out, if_neg (by decide), if_pos h1])
        clear h1
        go_wp2
        go_ret
        exact ⟨ret_bool HR.out.symm, k1⟩
/-! needs of a row -/
theorem lRights_any (n : Int) (w : World) : Calls Try.prog 18 #[.int .i64 n] w fun e w' => ∃ p : Nat, e = .returned (.slice (some ⟨p, 0, none⟩) 1 1) ∧ Own encNd 41 4 w.heap.size w' (.slice (some ⟨p, 0, none⟩) 1 1) [((0, 0, 0), n)] ∧ Kp w w' := by
  go_enter Try.func18, Try.ntmps18
  go_wp2
  go_ret
  exact ⟨_, rfl, Own.lit encNd (e := 41) (size := 4) w #[.int .i64 0, .int .i64 0, .int .i64 0, .int .i64 n] [((0, 0, 0), n)] (Nat.le_refl _) (by simp) rfl rfl, (Kp.refl w).alloc _⟩
end Go.Proofs.Ytbcekihjcgnhkaa
