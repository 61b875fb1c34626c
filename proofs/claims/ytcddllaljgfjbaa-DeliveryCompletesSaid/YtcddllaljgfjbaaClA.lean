
/-
Clocks as plain lists; the functions of package clock: the walks.
-/
import Derived.Test.YtcddllaljgfjbaaFxG
namespace Go.Proofs.Ytcddllaljgfjbaa
set_option linter.unusedSimpArgs false
set_option linter.unusedVariables false
open Go.RowKit

theorem stI : SliceT Try.prog 27 3 1 8 := SliceT.mk' Try.underlying27 (z := .int .i64 0) (by kernel_rfl) rfl (by omega)
set_option maxHeartbeats 1000000 in
theorem CloneI_any (v : Value) (l : List Int) (w : World) (hS : Ints w v l) (hl : l.length ≤ 1000000000) :
    Calls Try.prog 38 #[v] w fun e w' => ∃ v', e = .returned v' ∧ Own encInt 3 1 w.heap.size w' v' l ∧ Kp w w' := by
  obtain ⟨A, c, rfl, hc, hm⟩ := hS.form
  rcases A with _ | A
  · have hl0 : l = [] := by
      cases l with
      | nil => rfl
      | cons x l =>
        obtain ⟨_, _, _, hA, _⟩ := hS.at_ (k := 0) (by simp)
        cases hA
    subst hl0
    rw [List.length_nil]
    have hnil := fun (W : World) => Lib.run_eql_slice_nil (P := Try.prog) W 27 3 none 0 c 0 0 Try.underlying27
    go_enter Try.func38, Try.ntmps38
    go_wp2
    go_ret
    exact ⟨_, rfl, Own.nil _ _ _ _ _, Kp.refl _⟩
  · have hnil := fun (W : World) => Lib.run_eql_slice_nil (P := Try.prog) W 27 3 (some A) l.length c 0 0 Try.underlying27
    go_enter Try.func38, Try.ntmps38
    go_wp2_with (at_builtin; refine wpl_append_flat rfl (.tmp 5) (.tmp 6) rfl stI encInt_len encInt_one rfl (Own.lit (base := w.heap.size) encInt w #[] [] (Nat.le_refl _) (by simp) rfl rfl) rfl (hS.keep (pl_stable _) ((Kp.refl w).alloc _)) (by simp; omega) (by simp; omega) (by simp) ?_; intro v' w' hown hgrow hat hnil')
    go_ret
    exact ⟨_, rfl, by simpa using hown, ((Kp.refl w).alloc _).grown hgrow (fun k hk => by cases hk; exact Nat.le_refl _)⟩
/-! plain -/
def okC (x : Int) : Bool := decide (0 ≤ x) && decide (x ≤ 1024)
def validC (c : List Int) : Bool := c.all okC && decide (1 ≤ c.length) && decide (c.length ≤ 5)
/-- replica, number -/
abbrev Dt := Int × Int
def hasC (c : List Int) (d : Dt) : Bool := validC c && decide (0 ≤ d.1) && decide (d.1 < c.length) && decide (1 ≤ d.2) && decide (d.2 ≤ c.getD d.1.toNat 0)
theorem validC_no {c : List Int} {k : Nat} (hk : k < c.length) (h : okC c[k] = false) : validC c = false := by
  unfold validC
  have : c.all okC = false := by
    rw [List.all_eq_false]
    exact ⟨c[k], List.getElem_mem hk, by simp [h]⟩
  rw [this]
  rfl
theorem validC_iff {c : List Int} : validC c = true ↔ (∀ x ∈ c, 0 ≤ x ∧ x ≤ 1024) ∧ 1 ≤ c.length ∧ c.length ≤ 5 := by
  unfold validC okC
  simp only [Bool.and_eq_true, List.all_eq_true, decide_eq_true_eq]
  constructor
  · rintro ⟨⟨h1, h2⟩, h3⟩; exact ⟨h1, h2, h3⟩
  · rintro ⟨h1, h2, h3⟩; exact ⟨⟨h1, h2⟩, h3⟩
set_option maxHeartbeats 1600000 in
theorem cValid_any (c : List Int) (v : Value) (w : World) (hS : Ints w v c) : Calls Try.prog 35 #[v] w fun e w' => e = .returned (.bool (validC c)) ∧ Kp w w' := by
  obtain ⟨A, cp, rfl, hc, hm⟩ := hS.form
  go_enter Try.func35, Try.ntmps35
  go_wp2
  go_loopw [7] (fun i wr => ∃ k : Nat, k ≤ c.length ∧ i = .int .i64 k ∧ Hid (∀ x ∈ c.take k, okC x = true) ∧ Kp w wr) (fun i _ => c.length - (intOf i).toNat)
  case atStart => exact ⟨0, Nat.zero_le _, rfl, hid (fun x hx => by simp at hx), Kp.refl _⟩
  case round =>
    obtain ⟨k, hk, rfl, HF, kr⟩ := hrel
    by_cases hlt : k < c.length
    · have hkl : (k : Int) < (c.length : Int) := by omega
      obtain ⟨b, o, rfl, hb, i0⟩ := (hS.keep (pl_stable _) kr).ints hlt
      have HN := hid (validC_no hlt)
      have HT := hid (List.take_succ_eq_append_getElem hlt)
      generalize c[k] = x at *
      by_cases g1 : x < 0
      · have e1 : decide (x < 0) = true := decide_eq_true g1
        have HG : Hid (validC c = false) := hid (HN.out (by unfold okC; rw [decide_eq_false (by omega : ¬ 0 ≤ x)]; rfl))
        clear HN HT
        go_wp2_with fail
        go_ret
        exact ⟨ret_bool HG.out.symm, kr⟩
      · have e1 : decide (x < 0) = false := decide_eq_false g1
        by_cases g2 : 1024 < x
        · have e2 : decide (1024 < x) = true := decide_eq_true g2
          have HG : Hid (validC c = false) := hid (HN.out (by unfold okC; rw [decide_eq_false (by omega : ¬ x ≤ 1024), Bool.and_false]))
          clear HN HT
          go_wp2_with fail
          go_ret
          exact ⟨ret_bool HG.out.symm, kr⟩
        · have e2 : decide (1024 < x) = false := decide_eq_false g2
          have HF2 : Hid (∀ x ∈ c.take (k + 1), okC x = true) := hid (fun y hy => by
            rw [HT.out] at hy
            rcases List.mem_append.1 hy with hy | hy
            · exact HF.out y hy
            · simp only [List.mem_singleton] at hy
              subst hy
              unfold okC
              rw [decide_eq_true (by omega : 0 ≤ y), decide_eq_true (by omega : y ≤ 1024)]
              rfl)
          clear HN HT HF
          go_wp2_with fail
          go_roundw
          case rel => exact ⟨k + 1, by omega, by go_num, HF2, kr⟩
          case measure => simp [intOf]; omega
    · have hkl : ¬ (k : Int) < (c.length : Int) := by omega
      obtain rfl : k = c.length := by omega
      have HG : Hid (validC c = (decide (1 ≤ c.length) && decide (c.length ≤ 5))) := hid (by
        have h1 := HF.out
        rw [List.take_length] at h1
        unfold validC
        rw [List.all_eq_true.2 h1, Bool.true_and])
      clear HF
      by_cases g1 : 1 ≤ c.length
      · have e1 : decide ((1 : Int) ≤ (c.length : Int)) = true := decide_eq_true (by omega)
        by_cases g2 : c.length ≤ 5
        · have e2 : decide ((c.length : Int) ≤ 5) = true := decide_eq_true (by omega)
          have HX : Hid (validC c = true) := hid (by rw [HG.out, decide_eq_true g1, decide_eq_true g2]; rfl)
          go_wp2
          go_ret
          exact ⟨ret_bool HX.out.symm, kr⟩
        · have e2 : decide ((c.length : Int) ≤ 5) = false := decide_eq_false (by omega)
          have HX : Hid (validC c = false) := hid (by rw [HG.out, decide_eq_false g2, Bool.and_false])
          go_wp2
          go_ret
          exact ⟨ret_bool HX.out.symm, kr⟩
      · have e1 : decide ((1 : Int) ≤ (c.length : Int)) = false := decide_eq_false (by omega)
        have HX : Hid (validC c = false) := hid (by rw [HG.out, decide_eq_false g1]; rfl)
        go_wp2
        go_ret
        exact ⟨ret_bool HX.out.symm, kr⟩
/-! Has -/
theorem hasC_valid {c : List Int} {d : Dt} (h : validC c = true) : hasC c d = (decide (0 ≤ d.1) && decide (d.1 < c.length) && decide (1 ≤ d.2) && decide (d.2 ≤ c.getD d.1.toNat 0)) := by
  unfold hasC
  rw [h, Bool.true_and]
set_option maxHeartbeats 4000000 in
theorem cHas_any (c : List Int) (r n : Int) (v : Value) (w : World) (hS : Ints w v c) : Calls Try.prog 28 #[v, .agg #[.int .i64 r, .int .i64 n]] w fun e w' => e = .returned (.bool (hasC c (r, n))) ∧ Kp w w' := by
  obtain ⟨A, cp, rfl, hc, hm⟩ := hS.form
  have k0 := (Kp.refl w).alloc (.cells #[.int .i64 r, .int .i64 n] 66)
  have hD := Bx.new w #[.int .i64 r, .int .i64 n] 66
  go_enter Try.func28, Try.ntmps28
  go_upto_region 1 with (fail)
  generalize w.alloc (.cells #[.int .i64 r, .int .i64 n] 66) = w1 at *
  have hdl := hD.lt (by simp)
  generalize w.heap.size = db at *
  have d0 := hD.cell (j := 0) rfl
  have d1 := hD.cell (j := 1) rfl
  have hS1 := hS.keep (pl_stable _) k0
  have HV : Hid (∀ u, Calls Try.prog 35 #[.slice A c.length cp] (Kw w1 u) fun e w' => e = .returned (.bool (validC c)) ∧ Kp (Kw w1 u) w') := hid fun u => cValid_any c _ _ (hS1.keep (pl_stable _) (kw_kp w1 u))
  cases hv : validC c with
  | false =>
    rw [hv] at HV
    have HX : Hid (hasC c (r, n) = false) := hid (by unfold hasC; rw [hv]; rfl)
    refine wp_region_kw_tail 29 (by kernel_rfl) (by kernel_rfl) ?_
    simp only [List.take_succ_cons, List.take_zero, List.drop_succ_cons, List.drop_zero]
    repeat (go_big_quiet_step ((go_at_call 35; exact quiet_kw (HV.out _))))
    refine wpQuiet_nil ?_
    intro _ hw'
    obtain ⟨u, hw''⟩ := hw'
    subst hw''
    go_wp2
    go_ret
    exact ⟨ret_bool HX.out.symm, k0.trans (kw_kp w1 u)⟩
  | true =>
    rw [hv] at HV
    have HY := hid (hasC_valid (d := (r, n)) hv)
    dsimp only at HY
    have hcl := (validC_iff.1 hv).2
    replace hv := hid hv
    by_cases g1 : 0 ≤ r
    · have e1 : decide (0 ≤ r) = true := decide_eq_true g1
      by_cases g2 : r < c.length
      · have e2 : decide (r < (c.length : Int)) = true := decide_eq_true g2
        by_cases g3 : 1 ≤ n
        · have e3 : decide (1 ≤ n) = true := decide_eq_true g3
          obtain ⟨k, rfl⟩ : ∃ k : Nat, r = (k : Int) := ⟨r.toNat, by omega⟩
          have hk : k < c.length := by omega
          obtain ⟨b, o, rfl, hb, i0⟩ := hS1.ints hk
          have hX : Hid (hasC c ((k : Int), n) = decide (n ≤ c[k])) := hid (by rw [HY.out, e1, e2, e3, Int.toNat_natCast, List.getD_eq_getElem?_getD, List.getElem?_eq_getElem hk]; rfl)
          generalize c[k] = x at *
          by_cases g4 : n ≤ x
          · have e4 : decide (n ≤ x) = true := decide_eq_true g4
            have HX : Hid (hasC c ((k : Int), n) = true) := hid (by rw [hX.out, e4])
            refine wp_region_kw_tail 29 (by kernel_rfl) (by kernel_rfl) ?_
            simp only [List.take_succ_cons, List.take_zero, List.drop_succ_cons, List.drop_zero]
            repeat (go_big_quiet_step ((go_at_call 35; exact quiet_kw (HV.out _))))
            refine wpQuiet_nil ?_
            intro _ hw'
            obtain ⟨u, hw''⟩ := hw'
            subst hw''
            go_wp2
            go_ret
            exact ⟨ret_bool HX.out.symm, k0.trans (kw_kp w1 u)⟩
          · have e4 : decide (n ≤ x) = false := decide_eq_false g4
            have HX : Hid (hasC c ((k : Int), n) = false) := hid (by rw [hX.out, e4])
            refine wp_region_kw_tail 29 (by kernel_rfl) (by kernel_rfl) ?_
            simp only [List.take_succ_cons, List.take_zero, List.drop_succ_cons, List.drop_zero]
            repeat (go_big_quiet_step ((go_at_call 35; exact quiet_kw (HV.out _))))
            refine wpQuiet_nil ?_
            intro _ hw'
            obtain ⟨u, hw''⟩ := hw'
            subst hw''
            go_wp2
            go_ret
            exact ⟨ret_bool HX.out.symm, k0.trans (kw_kp w1 u)⟩
        · have e3 : decide (1 ≤ n) = false := decide_eq_false g3
          have HX : Hid (hasC c (r, n) = false) := hid (by rw [HY.out, e3]; simp)
          refine wp_region_kw_tail 29 (by kernel_rfl) (by kernel_rfl) ?_
          simp only [List.take_succ_cons, List.take_zero, List.drop_succ_cons, List.drop_zero]
          repeat (go_big_quiet_step ((go_at_call 35; exact quiet_kw (HV.out _))))
          refine wpQuiet_nil ?_
          intro _ hw'
          obtain ⟨u, hw''⟩ := hw'
          subst hw''
          go_wp2
          go_ret
          exact ⟨ret_bool HX.out.symm, k0.trans (kw_kp w1 u)⟩
      · have e2 : decide (r < (c.length : Int)) = false := decide_eq_false g2
        have HX : Hid (hasC c (r, n) = false) := hid (by rw [HY.out, e2]; simp)
        refine wp_region_kw_tail 29 (by kernel_rfl) (by kernel_rfl) ?_
        simp only [List.take_succ_cons, List.take_zero, List.drop_succ_cons, List.drop_zero]
        repeat (go_big_quiet_step ((go_at_call 35; exact quiet_kw (HV.out _))))
        refine wpQuiet_nil ?_
        intro _ hw'
        obtain ⟨u, hw''⟩ := hw'
        subst hw''
        go_wp2
        go_ret
        exact ⟨ret_bool HX.out.symm, k0.trans (kw_kp w1 u)⟩
    · have e1 : decide (0 ≤ r) = false := decide_eq_false g1
      have HX : Hid (hasC c (r, n) = false) := hid (by rw [HY.out, e1]; simp)
      refine wp_region_kw_tail 29 (by kernel_rfl) (by kernel_rfl) ?_
      simp only [List.take_succ_cons, List.take_zero, List.drop_succ_cons, List.drop_zero]
      repeat (go_big_quiet_step ((go_at_call 35; exact quiet_kw (HV.out _))))
      refine wpQuiet_nil ?_
      intro _ hw'
      obtain ⟨u, hw''⟩ := hw'
      subst hw''
      go_wp2
      go_ret
      exact ⟨ret_bool HX.out.symm, k0.trans (kw_kp w1 u)⟩
end Go.Proofs.Ytcddllaljgfjbaa
