/-
Whether values are a solution of a system: the walks.
The normal row: the walk.
Normal: the walk.
-/
import Derived.Test.YtfllmnaillilhaaSB
import Derived.Test.YtfllmnaillilhaaPA
import Derived.Test.YtfllmnaillilhaaGA
namespace Go.Proofs.Ytfllmnaillilhaa
set_option linter.unusedSimpArgs false
set_option linter.unusedVariables false
open Go.RowKit

theorem validS_parts {s : Sys} (h : validS s = true) : boxB s.box = true ∧ s.box.any emptyR = false ∧ (s.rows.length ≤ 1024 ∧ validB s.box s.rows = true) ∧ s.graphs.length ≤ 64 ∧ s.cases.length ≤ 1024 ∧ (∀ g ∈ s.graphs, grOk s.box.length g = true) ∧ ∀ l ∈ s.cases, l.length ≤ 64 ∧ validB s.box l = true := by
  unfold validS rowsOk at h
  simp only [Bool.and_eq_true, Bool.not_eq_true', decide_eq_true_eq, List.all_eq_true, List.any_eq_false, Bool.not_eq_true', Bool.and_eq_false_iff, not_or] at h
  obtain ⟨⟨⟨⟨⟨⟨h1, h2⟩, h3, h4⟩, h5⟩, h6⟩, h7⟩, h8⟩ := h
  refine ⟨h1, by simpa using h2, ⟨by omega, h4⟩, h5, h6, h7, fun l hl => ?_⟩
  have := h8 l hl
  simp at this
  exact ⟨by omega, this.2⟩
theorem row_okV {b : List Rng} {rows : List Row} {vs : List Int} (h : validB b rows = true) (hl : b.length = vs.length) {r : Row} (hr : r ∈ rows) : rowOkV vs r := by
  obtain ⟨v1, v2, v3⟩ := validB_ok h
  obtain ⟨f1, f2, f3, f4⟩ := fitsB_ok (v3 r hr)
  rw [hl] at f1
  exact ⟨f1, by omega⟩
theorem fit_of {s : Sys} {vs : List Int} (h : validS s = true) (hc : containsB s.box vs = true) : FitV s vs := by
  obtain ⟨h1, h2, ⟨h3, h4⟩, h5, h6, h7, h8⟩ := validS_parts h
  have hl := (not_badV hc).1
  have hv := okV_of h4 hc
  obtain ⟨-, v2, -⟩ := validB_ok h4
  exact ⟨fun r hr => row_okV h4 hl hr, fun g hg => by rw [← hl]; exact h7 g hg, fun l hll r hr => row_okV (h8 l hll).2 hl hr, hv, by omega, h3, h5, h6⟩
/-- whether values in the box are a solution -/
def solvesB (s : Sys) (vs : List Int) : Bool := (!s.rows.any (badR vs) && !s.graphs.any (badG vs)) && (s.cases.any (goodC vs) || s.cases.isEmpty)
set_option maxRecDepth 8000 in
set_option maxHeartbeats 4000000 in
theorem sSolves_any (va vv : Value) (s : Sys) (vs : List Int) (w : World) (hs : SysV w va s) (hv : Ints w vv vs) (hF : FitV s vs) :
    Calls Try.prog 54 #[va, vv] w fun e w' => e = .returned (.bool (solvesB s vs)) ∧ Kp w w' := by
  have hs' := hs
  obtain ⟨Ab, cb, Ar, cr, Ag, cg, Ac, cc, rfl, hb, hr, hg, hc⟩ := hs'
  obtain ⟨l1, m1⟩ := hb.caps
  obtain ⟨l2, m2⟩ := hr.caps
  obtain ⟨l3, m3⟩ := hg.caps
  obtain ⟨l4, m4⟩ := hc.caps
  obtain ⟨A', c', rfl, hc', hm'⟩ := hv.form
  have HF : Hid (solvesB s vs = ((!s.rows.any (badR vs) && !s.graphs.any (badG vs)) && (s.cases.any (goodC vs) || s.cases.isEmpty))) := hid rfl
  have k0 := (Kp.refl w).alloc (.cells #[.slice Ab s.box.length cb, .slice Ar s.rows.length cr, .slice Ag s.graphs.length cg, .slice Ac s.cases.length cc] 27)
  have B0 := SysB.new w #[.slice Ab s.box.length cb, .slice Ar s.rows.length cr, .slice Ag s.graphs.length cg, .slice Ac s.cases.length cc] 27
  have z0 := alloc_lt w (.cells #[.slice Ab s.box.length cb, .slice Ar s.rows.length cr, .slice Ag s.graphs.length cg, .slice Ac s.cases.length cc] 27)
  go_enter Try.func54, Try.ntmps54
  go_wp2_with fail
  try rw [← World.size_alloc w (.cells #[.slice Ab s.box.length cb, .slice Ar s.rows.length cr, .slice Ag s.graphs.length cg, .slice Ac s.cases.length cc] 27)]
  generalize w.alloc (.cells #[.slice Ab s.box.length cb, .slice Ar s.rows.length cr, .slice Ag s.graphs.length cg, .slice Ac s.cases.length cc] 27) = w0 at *
  generalize w.heap.size = b0 at *
  refine (sFails_any _ _ s vs _ (hs.keep k0) (hv.keep (pl_stable _) k0) hF).mono ?_
  rintro e w1 ⟨v1, v2, rfl, s1, s2, k1⟩
  replace B0 := B0.keep k1
  replace k1 := k0.trans k1
  obtain ⟨c0, c1, c2, c3⟩ := B0.cells
  have hgl := block_lt_of_cell c0
  have i1 := idxsF_nil (badR vs) 0 s.rows
  have i2 := idxsF_nil (badG vs) 0 s.graphs
  have j1 := idxsF_len (badR vs) 0 s.rows
  have j2 := idxsF_len (badG vs) 0 s.graphs
  generalize idxsF (badR vs) 0 s.rows = L1 at *
  generalize idxsF (badG vs) 0 s.graphs = L2 at *
  replace i1 := hid i1
  replace i2 := hid i2
  obtain ⟨A1, c1', rfl, _, _⟩ := s1.form
  obtain ⟨A2, c2', rfl, _, _⟩ := s2.form
  clear s1 s2 k0
  have n1 := hF.nrows
  have n2 := hF.ngraphs
  have n3 := hF.ncases
  by_cases hp : 0 < L1.length + L2.length
  · have e1 : decide ((0 : Int) < (L1.length : Int) + (L2.length : Int)) = true := decide_eq_true (by omega)
    have HE : Hid (solvesB s vs = false) := hid (by
      rw [HF.out, ← i1.out, ← i2.out]
      by_cases h1 : 0 < L1.length
      · simp [h1]
      · have h2 : 0 < L2.length := by omega
        simp [h2])
    go_wp2
    go_ret
    exact ⟨ret_bool HE.out.symm, k1⟩
  · have e1 : decide ((0 : Int) < (L1.length : Int) + (L2.length : Int)) = false := decide_eq_false (by omega)
    have HE : Hid (solvesB s vs = (s.cases.any (goodC vs) || s.cases.isEmpty)) := hid (by
      rw [HF.out, ← i1.out, ← i2.out, show L1.length = 0 by omega, show L2.length = 0 by omega]
      simp)
    clear i1 i2
    go_wp2_with fail
    refine (sAlternative_any _ _ s vs _ (hs.keep k1) (hv.keep (pl_stable _) k1) hF).mono ?_
    rintro e w2 ⟨rfl, k2⟩
    replace B0 := B0.keep k2
    clear c0 c1 c2 c3 hgl
    obtain ⟨c0, c1, c2, c3⟩ := B0.cells
    have hgl := block_lt_of_cell c0
    have HI := hid (idxF_any (goodC vs) 0 s.cases)
    have HZ : Hid (s.cases.isEmpty = decide (s.cases.length = 0)) := hid (by cases s.cases <;> simp)
    generalize idxF (goodC vs) 0 s.cases = r at *
    unfold altR
    by_cases hr0 : 0 ≤ r
    · have HE2 : Hid (solvesB s vs = true) := hid (by rw [HE.out, ← HI.out, decide_eq_true hr0]; rfl)
      rw [decide_eq_true hr0]
      go_wp2
      go_ret
      exact ⟨ret_bool HE2.out.symm, k1.trans k2⟩
    · rw [decide_eq_false hr0]
      by_cases hcl : s.cases.length = 0
      · have e2 : ((s.cases.length : Int) == 0) = true := by simpa using hcl
        have HE2 : Hid (solvesB s vs = true) := hid (by rw [HE.out, HZ.out, decide_eq_true hcl]; simp)
        clear hcl
        go_wp2
        go_ret
        exact ⟨ret_bool HE2.out.symm, k1.trans k2⟩
      · have e2 : ((s.cases.length : Int) == 0) = false := by simpa using hcl
        have HE2 : Hid (solvesB s vs = false) := hid (by rw [HE.out, HZ.out, decide_eq_false hcl, ← HI.out, decide_eq_false hr0]; rfl)
        clear hcl
        go_wp2
        go_ret
        exact ⟨ret_bool HE2.out.symm, k1.trans k2⟩
def lookedB (s : Sys) (vs : List Int) : Bool := (validS s && decide (vs.length = s.box.length)) && !vs.any farI
set_option maxRecDepth 8000 in
set_option maxHeartbeats 4000000 in
theorem sLooked_any (va vv : Value) (s : Sys) (vs : List Int) (w : World) (hs : SysV w va s) (hv : Ints w vv vs) :
    Calls Try.prog 56 #[va, vv] w fun e w' => e = .returned (.bool (lookedB s vs)) ∧ Kp w w' := by
  have hs' := hs
  obtain ⟨Ab, cb, Ar, cr, Ag, cg, Ac, cc, rfl, hb, hr, hg, hc⟩ := hs'
  obtain ⟨l1, m1⟩ := hb.caps
  obtain ⟨l2, m2⟩ := hr.caps
  obtain ⟨l3, m3⟩ := hg.caps
  obtain ⟨l4, m4⟩ := hc.caps
  obtain ⟨A', c', rfl, hc', hm'⟩ := hv.form
  have HF : Hid (lookedB s vs = ((validS s && decide (vs.length = s.box.length)) && !vs.any farI)) := hid rfl
  have k0 := (Kp.refl w).alloc (.cells #[.slice Ab s.box.length cb, .slice Ar s.rows.length cr, .slice Ag s.graphs.length cg, .slice Ac s.cases.length cc] 27)
  have B0 := SysB.new w #[.slice Ab s.box.length cb, .slice Ar s.rows.length cr, .slice Ag s.graphs.length cg, .slice Ac s.cases.length cc] 27
  have z0 := alloc_lt w (.cells #[.slice Ab s.box.length cb, .slice Ar s.rows.length cr, .slice Ag s.graphs.length cg, .slice Ac s.cases.length cc] 27)
  go_enter Try.func56, Try.ntmps56
  go_wp2_with fail
  try rw [← World.size_alloc w (.cells #[.slice Ab s.box.length cb, .slice Ar s.rows.length cr, .slice Ag s.graphs.length cg, .slice Ac s.cases.length cc] 27)]
  generalize w.alloc (.cells #[.slice Ab s.box.length cb, .slice Ar s.rows.length cr, .slice Ag s.graphs.length cg, .slice Ac s.cases.length cc] 27) = w0 at *
  generalize w.heap.size = b0 at *
  refine (sValid_any _ s _ (hs.keep k0)).mono ?_
  rintro e w1 ⟨rfl, k1⟩
  replace B0 := B0.keep k1
  replace k1 := k0.trans k1
  obtain ⟨c0, c1, c2, c3⟩ := B0.cells
  have hgl := block_lt_of_cell c0
  cases hV : validS s with
  | false =>
    have HE : Hid (lookedB s vs = false) := hid (by rw [HF.out, hV]; rfl)
    clear hV
    go_wp2
    go_ret
    exact ⟨ret_bool HE.out.symm, k1⟩
  | true =>
    by_cases hl : vs.length = s.box.length
    · have HE : Hid (lookedB s vs = !vs.any farI) := hid (by rw [HF.out, hV, decide_eq_true hl]; rfl)
      have e1 : ((vs.length : Int) == (s.box.length : Int)) = true := beq_iff_eq.2 (by omega)
      have e2 : (vs.length == s.box.length) = true := by simpa using hl
      clear hV hl
      go_wp2_with fail
      refine (ContainsFuncI_any farI 87 [] _ vs _ (hv.keep (pl_stable _) k1) sLooked1_real (fun w' r _ => sLooked1_any r w')).mono ?_
      rintro e w3 ⟨rfl, k3⟩
      generalize hx : vs.any farI = x
      have Hx := hid hx
      clear hx
      go_wp2
      go_ret
      exact ⟨ret_bool (by rw [HE.out, Hx.out]), k1.trans k3⟩
    · have HE : Hid (lookedB s vs = false) := hid (by rw [HF.out, decide_eq_false hl]; simp)
      have e1 : ((vs.length : Int) == (s.box.length : Int)) = false := by simp; omega
      have e2 : (vs.length == s.box.length) = false := by simpa using hl
      clear hV hl
      go_wp2
      go_ret
      exact ⟨ret_bool HE.out.symm, k1⟩
theorem looked_in {s : Sys} {vs : List Int} (h : validS s = true) (hc : containsB s.box vs = true) : lookedB s vs = true := by
  have hf := fit_of h hc
  have hl := (not_badV hc).1
  unfold lookedB
  rw [h, decide_eq_true hl.symm]
  simp only [Bool.and_self, Bool.true_and, Bool.not_eq_true', List.any_eq_false]
  intro x hx
  have := hf.okv x hx
  unfold farI
  simp
  omega
def holdsS (s : Sys) (vs : List Int) : Bool := validS s && (containsB s.box vs && solvesB s vs)
set_option maxRecDepth 8000 in
set_option maxHeartbeats 4000000 in
theorem sHolds_any (va vv : Value) (s : Sys) (vs : List Int) (w : World) (hs : SysV w va s) (hv : Ints w vv vs) :
    Calls Try.prog 23 #[va, vv] w fun e w' => e = .returned (.bool (holdsS s vs)) ∧ Kp w w' := by
  have hs' := hs
  obtain ⟨Ab, cb, Ar, cr, Ag, cg, Ac, cc, rfl, hb, hr, hg, hc⟩ := hs'
  obtain ⟨l1, m1⟩ := hb.caps
  obtain ⟨l2, m2⟩ := hr.caps
  obtain ⟨l3, m3⟩ := hg.caps
  obtain ⟨l4, m4⟩ := hc.caps
  obtain ⟨A', c', rfl, hc', hm'⟩ := hv.form
  have HF : Hid (holdsS s vs = (validS s && (containsB s.box vs && solvesB s vs))) := hid rfl
  have k0 := (Kp.refl w).alloc (.cells #[.slice Ab s.box.length cb, .slice Ar s.rows.length cr, .slice Ag s.graphs.length cg, .slice Ac s.cases.length cc] 27)
  have B0 := SysB.new w #[.slice Ab s.box.length cb, .slice Ar s.rows.length cr, .slice Ag s.graphs.length cg, .slice Ac s.cases.length cc] 27
  have z0 := alloc_lt w (.cells #[.slice Ab s.box.length cb, .slice Ar s.rows.length cr, .slice Ag s.graphs.length cg, .slice Ac s.cases.length cc] 27)
  go_enter Try.func23, Try.ntmps23
  go_wp2_with fail
  try rw [← World.size_alloc w (.cells #[.slice Ab s.box.length cb, .slice Ar s.rows.length cr, .slice Ag s.graphs.length cg, .slice Ac s.cases.length cc] 27)]
  generalize w.alloc (.cells #[.slice Ab s.box.length cb, .slice Ar s.rows.length cr, .slice Ag s.graphs.length cg, .slice Ac s.cases.length cc] 27) = w0 at *
  generalize w.heap.size = b0 at *
  refine (sLooked_any _ _ s vs _ (hs.keep k0) (hv.keep (pl_stable _) k0)).mono ?_
  rintro e w1 ⟨rfl, k1⟩
  replace B0 := B0.keep k1
  replace k1 := k0.trans k1
  obtain ⟨c0, c1, c2, c3⟩ := B0.cells
  have hgl := block_lt_of_cell c0
  cases hV : lookedB s vs with
  | false =>
    have HE : Hid (holdsS s vs = false) := hid (by
      rw [HF.out]
      cases h1 : validS s with
      | false => rfl
      | true =>
        cases h2 : containsB s.box vs with
        | false => rfl
        | true =>
          rw [looked_in h1 h2] at hV
          cases hV)
    clear hV
    go_wp2
    go_ret
    exact ⟨ret_bool HE.out.symm, k1⟩
  | true =>
    have HV : Hid (validS s = true) := hid (by unfold lookedB at hV; simp only [Bool.and_eq_true] at hV; exact hV.1.1)
    clear hV
    go_wp2_with fail
    refine (Contains_any _ _ s.box vs _ (hb.keep (pl_stable _) k1) (hv.keep (pl_stable _) k1)).mono ?_
    rintro e w2 ⟨rfl, k2⟩
    replace B0 := B0.keep k2
    replace k2 := k1.trans k2
    clear c0 c1 c2 c3 hgl k1
    obtain ⟨c0, c1, c2, c3⟩ := B0.cells
    have hgl := block_lt_of_cell c0
    cases hC : containsB s.box vs with
    | false =>
      have HE : Hid (holdsS s vs = false) := hid (by rw [HF.out, hC]; simp)
      clear hC
      go_wp2
      go_ret
      exact ⟨ret_bool HE.out.symm, k2⟩
    | true =>
      have hF := fit_of HV.out hC
      have HE : Hid (holdsS s vs = solvesB s vs) := hid (by rw [HF.out, HV.out, hC]; rfl)
      clear hC
      go_wp2_with fail
      refine (sSolves_any _ _ s vs _ (hs.keep k2) (hv.keep (pl_stable _) k2) hF).mono ?_
      rintro e w3 ⟨rfl, k3⟩
      generalize hx : solvesB s vs = x
      have Hx := hid hx
      clear hx
      go_wp2
      go_ret
      exact ⟨ret_bool (by rw [HE.out, Hx.out]), k2.trans k3⟩
set_option maxRecDepth 8000 in
set_option maxHeartbeats 4000000 in
theorem sCase_any (va vv : Value) (s : Sys) (vs : List Int) (w : World) (hs : SysV w va s) (hv : Ints w vv vs) (hV : validS s = true) (hC : containsB s.box vs = true) :
    Calls Try.prog 29 #[va, vv] w fun e w' => e = .returned (altR (idxF (goodC vs) 0 s.cases)) ∧ Kp w w' := by
  have hF := fit_of hV hC
  have HL := hid (looked_in hV hC)
  clear hV hC
  have hs' := hs
  obtain ⟨Ab, cb, Ar, cr, Ag, cg, Ac, cc, rfl, hb, hr, hg, hc⟩ := hs'
  obtain ⟨l1, m1⟩ := hb.caps
  obtain ⟨l2, m2⟩ := hr.caps
  obtain ⟨l3, m3⟩ := hg.caps
  obtain ⟨l4, m4⟩ := hc.caps
  obtain ⟨A', c', rfl, hc', hm'⟩ := hv.form
  have k0 := (Kp.refl w).alloc (.cells #[.slice Ab s.box.length cb, .slice Ar s.rows.length cr, .slice Ag s.graphs.length cg, .slice Ac s.cases.length cc] 27)
  have B0 := SysB.new w #[.slice Ab s.box.length cb, .slice Ar s.rows.length cr, .slice Ag s.graphs.length cg, .slice Ac s.cases.length cc] 27
  have z0 := alloc_lt w (.cells #[.slice Ab s.box.length cb, .slice Ar s.rows.length cr, .slice Ag s.graphs.length cg, .slice Ac s.cases.length cc] 27)
  go_enter Try.func29, Try.ntmps29
  go_wp2_with fail
  try rw [← World.size_alloc w (.cells #[.slice Ab s.box.length cb, .slice Ar s.rows.length cr, .slice Ag s.graphs.length cg, .slice Ac s.cases.length cc] 27)]
  generalize w.alloc (.cells #[.slice Ab s.box.length cb, .slice Ar s.rows.length cr, .slice Ag s.graphs.length cg, .slice Ac s.cases.length cc] 27) = w0 at *
  generalize w.heap.size = b0 at *
  refine (sLooked_any _ _ s vs _ (hs.keep k0) (hv.keep (pl_stable _) k0)).mono ?_
  rintro e w1 ⟨rfl, k1⟩
  replace B0 := B0.keep k1
  replace k1 := k0.trans k1
  obtain ⟨c0, c1, c2, c3⟩ := B0.cells
  have hgl := block_lt_of_cell c0
  rw [HL.out]
  go_wp2_with fail
  refine (sAlternative_any _ _ s vs _ (hs.keep k1) (hv.keep (pl_stable _) k1) hF).mono ?_
  rintro e w2 ⟨rfl, k2⟩
  generalize hr : idxF (goodC vs) 0 s.cases = r
  have Hr := hid hr
  clear hr
  unfold altR
  go_wp2
  go_ret2
  exact ⟨by rw [Hr.out]; rfl, k1.trans k2⟩
end Go.Proofs.Ytfllmnaillilhaa
namespace Go.Proofs.Ytfllmnaillilhaa
set_option linter.unusedSimpArgs false
set_option linter.unusedVariables false
open Go.RowKit

/-! divisor -/
def gcdI (a b : Int) : Int := ((Int.gcd a b : Nat) : Int)
theorem gcd_step (a b : Int) (_ : b ≠ 0) : Int.gcd a b = Int.gcd b (a.tmod b) := by
  rw [Int.gcd_comm a b]
  unfold Int.gcd
  rw [Int.natAbs_tmod]
  exact (Nat.gcd_rec b.natAbs a.natAbs).trans (Nat.gcd_comm _ _)
theorem tmod_bd (a b : Int) (hb : b ≠ 0) : (a.tmod b).natAbs < b.natAbs := by
  rw [Int.natAbs_tmod]
  exact Nat.mod_lt _ (by omega)
set_option maxHeartbeats 1000000 in
theorem sDivisor_any (a b : Int) (w : World) (ha1 : -1000000 ≤ a) (ha2 : a ≤ 1000000) (hb1 : -1000000 ≤ b) (hb2 : b ≤ 1000000) :
    Calls Try.prog 71 #[.int .i64 a, .int .i64 b] w fun e w' => e = .returned (.int .i64 (gcdI a b)) ∧ Kp w w' := by
  go_enter Try.func71, Try.ntmps71
  go_wp2
  go_loopw [0, 1] (fun u v wr => ∃ x y : Int, u = .int .i64 x ∧ v = .int .i64 y ∧ -1000000 ≤ x ∧ x ≤ 1000000 ∧ -1000000 ≤ y ∧ y ≤ 1000000 ∧ Hid (gcdI a b = gcdI x y) ∧ Kp w wr) (fun _ v _ => (intOf v).natAbs)
  case atStart => exact ⟨a, b, rfl, rfl, ha1, ha2, hb1, hb2, rfl, Kp.refl _⟩
  case round =>
    obtain ⟨x, y, rfl, rfl, hx1, hx2, hy1, hy2, HG, hkr⟩ := hrel
    by_cases hy : y = 0
    · subst hy
      have HE : Hid (gcdI a b = max x (-x)) := hid (by rw [HG.out]; unfold gcdI; rw [Int.gcd_zero_right]; omega)
      go_wp2
      all_goals
        go_ret
        exact ⟨ret_int (by rw [HE.out]; omega), hkr⟩
    · have hb := tmod_bd x y hy
      have HE : Hid (gcdI a b = gcdI y (x.tmod y)) := hid (by rw [HG.out]; unfold gcdI; rw [gcd_step x y hy])
      have e1 : (y == 0) = false := by simpa using hy
      have e2 : (y != 0) = true := by simpa using hy
      generalize hm : x.tmod y = m at *
      have hq1 : -1000000 ≤ m := by omega
      have hq2 : m ≤ 1000000 := by omega
      have hw : IntKind.i64.wrap m = m := IntWalk.i64_in _ (by omega)
      go_wp2
      go_quiet (fail)
      go_wp2
      go_roundw
      case rel => exact ⟨y, m, rfl, rfl, hy1, hy2, hq1, hq2, HE, hkr.drewN _⟩
      case measure => simp [intOf]; omega
set_option maxHeartbeats 400000 in
theorem sFloor_any (a b : Int) (w : World) (h0 : 0 < b) (h1 : b ≤ 1000000000000) (h2 : -1000000000000000 ≤ a) (h3 : a ≤ 1000000000000000) :
    Calls Try.prog 72 #[.int .i64 a, .int .i64 b] w fun e w' => e = .returned (.int .i64 (a / b)) ∧ Kp w w' := by
  have HE := hid (ediv_of_tdiv a b h0)
  obtain ⟨t1, t2⟩ := tdiv_bd a b h0 h2 h3
  have hs : a.tmod b < 0 ↔ a.tmod b ≠ 0 ∧ a < 0 := by
    by_cases ha : 0 ≤ a
    · have := Int.tmod_nonneg b ha
      omega
    · have h4 := Int.tmod_nonneg b (show 0 ≤ -a by omega)
      rw [Int.neg_tmod] at h4
      omega
  generalize hq : a.tdiv b = q at *
  generalize hr : a.tmod b = r at *
  have HS := hid hs
  clear hs
  go_enter Try.func72, Try.ntmps72
  by_cases hneg : r < 0
  all_goals
    go_wp2
    go_ret
    exact ⟨ret_int (by rw [HE.out]; have := HS.out; split <;> omega), Kp.refl _⟩
/-! the normal row -/
def gcdL : Int → List Term → Int
  | g, [] => g
  | g, t :: l => gcdL (gcdI g t.factor) l
def divT (g : Int) (t : Term) : Term := ⟨t.cell, t.factor.tdiv g⟩
def normR (r : Row) : Row := if r.terms = [] then ⟨[], max (min r.bound 0) (-1)⟩ else ⟨r.terms.map (divT (gcdL 0 r.terms)), r.bound / gcdL 0 r.terms⟩
theorem gcdI_bd (a b : Int) (h1 : -1000 ≤ b) (h2 : b ≤ 1000) (h3 : b ≠ 0) : 1 ≤ gcdI a b ∧ gcdI a b ≤ 1000 := by
  unfold gcdI Int.gcd
  have hp : 0 < b.natAbs := by omega
  have h4 := Nat.gcd_le_right a.natAbs hp
  have h5 := Nat.gcd_pos_of_pos_right a.natAbs hp
  omega
theorem gcdL_bd : ∀ (l : List Term) (g : Int), 0 ≤ g → g ≤ 1000 → (∀ t ∈ l, -1000 ≤ t.factor ∧ t.factor ≤ 1000 ∧ t.factor ≠ 0) → 0 ≤ gcdL g l ∧ gcdL g l ≤ 1000 ∧ (l ≠ [] → 1 ≤ gcdL g l)
  | [], g, h1, h2, _ => ⟨h1, h2, fun h => absurd rfl h⟩
  | t :: l, g, h1, h2, h => by
    obtain ⟨f1, f2, f3⟩ := h t (by simp)
    obtain ⟨b1, b2⟩ := gcdI_bd g t.factor f1 f2 f3
    obtain ⟨c1, c2, c3⟩ := gcdL_bd l (gcdI g t.factor) (by omega) b2 (fun u hu => h u (by simp [hu]))
    refine ⟨c1, c2, fun _ => ?_⟩
    cases l with
    | nil => exact b1
    | cons u l => exact c3 (by simp)
theorem tdiv_le (a b : Int) (h1 : -1000 ≤ a) (h2 : a ≤ 1000) : -1000 ≤ a.tdiv b ∧ a.tdiv b ≤ 1000 := by
  have h : (a.tdiv b).natAbs ≤ a.natAbs := by
    rw [Int.natAbs_tdiv]
    exact Nat.div_le_self _ _
  omega
def okF (t : Term) : Prop := -1000 ≤ t.factor ∧ t.factor ≤ 1000 ∧ t.factor ≠ 0
theorem stTermM : SliceT Try.prog 28 49 2 16 := SliceT.mk' Try.underlying28 (z := .agg #[.int .i64 0, .int .i64 0]) (by kernel_rfl) rfl (by omega)
theorem litT (w : World) (t : TypeId) (x : Term) : Sl (Pl encTerm) 2 (w.alloc (.cells #[.int .i64 x.cell, .int .i64 x.factor] t)) (.slice (some ⟨w.heap.size, 0, none⟩) 1 1) [x] :=
  Sl.one (R := Pl encTerm) w [.int .i64 x.cell, .int .i64 x.factor] t 2 x rfl rfl
theorem ret_row {v : Value} {a b : Int} (h : a = b) : Ending.returned (.agg #[v, .int .i64 a]) = .returned (.agg #[v, .int .i64 b]) := by rw [h]
set_option maxRecDepth 8000 in
set_option maxHeartbeats 8000000 in
theorem snormal_any (vt : Value) (ts : List Term) (bd : Int) (w : World) (ht : Terms w vt ts) (hok : ∀ t ∈ ts, okF t) (hl : ts.length ≤ 128) (hb1 : -1000000000 ≤ bd) (hb2 : bd ≤ 1000000000) :
    Calls Try.prog 37 #[.agg #[vt, .int .i64 bd]] w fun e w' => ∃ v, e = .returned (.agg #[v, .int .i64 (normR ⟨ts, bd⟩).bound]) ∧ Own encTerm 49 2 w.heap.size w' v (normR ⟨ts, bd⟩).terms ∧ Kp w w' := by
  obtain ⟨A, c, rfl, hc, hm⟩ := ht.form
  have HOK := hid hok
  have k0 := ((Kp.refl w).alloc (.cells #[.slice A ts.length c, .int .i64 bd] 30)).alloc (.cells #[.slice none 0 0, .int .i64 0] 30)
  have c0 := ((Kp.refl _).alloc (.cells #[.slice none 0 0, .int .i64 0] 30)).cellS (alloc_cell w #[.slice A ts.length c, .int .i64 bd] 30 0 rfl)
  have c1 := ((Kp.refl _).alloc (.cells #[.slice none 0 0, .int .i64 0] 30)).cellS (alloc_cell w #[.slice A ts.length c, .int .i64 bd] 30 1 rfl)
  have hB := Bx.new (w.alloc (.cells #[.slice A ts.length c, .int .i64 bd] 30)) #[.slice none 0 0, .int .i64 0] 30
  have hz : ((w.alloc (.cells #[.slice A ts.length c, .int .i64 bd] 30)).alloc (.cells #[.slice none 0 0, .int .i64 0] 30)).heap.size = w.heap.size + 2 := by simp
  rw [World.size_alloc] at hB
  have hgl : w.heap.size < ((w.alloc (.cells #[.slice A ts.length c, .int .i64 bd] 30)).alloc (.cells #[.slice none 0 0, .int .i64 0] 30)).heap.size := by omega
  have hgl1 : w.heap.size + 1 < ((w.alloc (.cells #[.slice A ts.length c, .int .i64 bd] 30)).alloc (.cells #[.slice none 0 0, .int .i64 0] 30)).heap.size := by omega
  clear hok
  by_cases hn : ts.length = 0
  · have hts : ts = [] := List.eq_nil_of_length_eq_zero hn
    have HN : Hid (normR ⟨ts, bd⟩ = ⟨[], max (min bd 0) (-1)⟩) := hid (by unfold normR; rw [if_pos hts])
    have e1 : ((ts.length : Int) == 0) = true := by rw [hn]; rfl
    have hR := fun n : Int => (Bx.new (w.alloc (.cells #[.slice A ts.length c, .int .i64 bd] 30)) #[.slice none 0 0, .int .i64 n] 30).range
    have kF := fun n : Int => ((Kp.refl w).alloc (.cells #[.slice A ts.length c, .int .i64 bd] 30)).alloc (.cells #[.slice none 0 0, .int .i64 n] 30)
    rw [World.size_alloc] at hR
    have HR := hid hR
    have HKF := hid kF
    clear hn hts hR kF
    go_enter Try.func37, Try.ntmps37
    go_wp2
    all_goals
      refine bodyPost_ret (results_cell_bx rfl _ _ (w.heap.size + 1) [.slice none 0 0, .int .i64 _] _ rfl (HR.out _) Try.underlying30 rfl (by kernel_rfl)) rfl ⟨.slice none 0 0, ?_, ?_, HKF.out _⟩
      · exact ret_row (by rw [HN.out]; dsimp only; omega)
      · rw [HN.out]
        exact Own.nil _ _ _ _ _
  · have hne : ts ≠ [] := fun h => hn (by rw [h]; rfl)
    have HN : Hid (normR ⟨ts, bd⟩ = ⟨ts.map (divT (gcdL 0 ts)), bd / gcdL 0 ts⟩) := hid (by unfold normR; rw [if_neg hne])
    obtain ⟨g1, g2, g3⟩ := gcdL_bd ts 0 (by omega) (by omega) (fun t h => HOK.out t h)
    replace g3 := g3 hne
    have e1 : ((ts.length : Int) == 0) = false := by simpa using hn
    clear hn hne
    go_enter Try.func37, Try.ntmps37
    go_wp2
    generalize (w.alloc (.cells #[.slice A ts.length c, .int .i64 bd] 30)).alloc (.cells #[.slice none 0 0, .int .i64 0] 30) = w0 at *
    generalize hG : gcdL 0 ts = G at *
    replace hG := hid hG
    go_loopw [3, 21] (fun v i wr => ∃ (k : Nat) (g : Int), k ≤ ts.length ∧ i = .int .i64 k ∧ v = .int .i64 g ∧ 0 ≤ g ∧ g ≤ 1000 ∧ Hid (G = gcdL g (ts.drop k)) ∧ Kp w0 wr) (fun _ i _ => ts.length - (intOf i).toNat)
    case atStart => exact ⟨0, 0, Nat.zero_le _, rfl, rfl, by omega, by omega, hG.out.symm, Kp.refl _⟩
    case round =>
      obtain ⟨k, g, hk, rfl, rfl, hg1, hg2, HG, hkr⟩ := hrel
      have kk := k0.trans hkr
      have d0 := hkr.cellS c0
      have d1 := hkr.cellS c1
      have hd := block_lt_of_cell d0
      by_cases hlt : k < ts.length
      · obtain ⟨q, o, rfl, hq, h1, h2⟩ := (ht.keep (pl_stable _) kk).term hlt
        have HD := hid (List.drop_eq_getElem_cons hlt)
        obtain ⟨f1, f2, f3⟩ := HOK.out ts[k] (List.getElem_mem hlt)
        clear c0 c1 d0 d1
        generalize ts[k] = t at *
        obtain ⟨ce, fa⟩ := t
        dsimp only at h1 h2 f1 f2 f3
        obtain ⟨p1, p2⟩ := gcdI_bd g fa f1 f2 f3
        have HF : Hid (G = gcdL (gcdI g fa) (ts.drop (k + 1))) := hid (by rw [HG.out, HD.out, gcdL])
        go_wp2_with fail
        refine (sDivisor_any g fa _ (by omega) (by omega) (by omega) (by omega)).mono ?_
        rintro e w2 ⟨rfl, k2⟩
        generalize gcdI g fa = g' at *
        go_wp2
        go_roundw
        case rel => exact ⟨k + 1, g', by omega, by go_num, rfl, by omega, p2, HF, hkr.trans (((Kp.refl wr).alloc _).trans k2)⟩
        case measure => simp [intOf]; omega
      · have hgg : g = G := by rw [HG.out, List.drop_of_length_le (by omega)]; rfl
        subst hgg
        have c0' := c0
        clear HG c0 c1
        have hBr := hB.kp hkr hgl1
        obtain ⟨wo, rfl⟩ : ∃ wo : World, wo = wr := ⟨_, rfl⟩
        have HFl := hid (show bd / g = bd / g from rfl)
        have hfb := ediv_bd bd g (by omega) (by omega) (by omega)
        go_wp2_with fail
        refine (sFloor_any bd g _ (by omega) (by omega) (by omega) (by omega)).mono ?_
        rintro e w2 ⟨rfl, k2⟩
        generalize hq : bd / g = q at *
        replace hq := hid hq
        replace k2 := hkr.trans k2
        have d0' := (k0.trans k2)
        have hBz := hB.kp k2 hgl1
        have e0 := k2.cellS c0'
        have kn := (Kp.refl w2).alloc (.cells #[.slice none 0 0, .int .i64 q] 30)
        have hBo := Bx.new w2 #[.slice none 0 0, .int .i64 q] 30
        have hz2 := alloc_lt w2 (.cells #[.slice none 0 0, .int .i64 q] 30)
        have f0 := kn.cellS e0
        have hbz := hBz.kp kn (by have := k2.size; omega)
        have kw3 := (k0.trans k2).trans kn
        have hlt2 : w.heap.size + 1 < w2.heap.size := by have := k2.size; omega
        clear hBr hBz e0 d0 d1
        go_wp2
        generalize w2.alloc (.cells #[.slice none 0 0, .int .i64 q] 30) = w3 at *
        generalize w2.heap.size = bo at *
        clear HFl d0' kn hq hfb
        go_loopw [38] (fun i wr => ∃ (k : Nat) (L : List Term) (v : Value), k ≤ ts.length ∧ i = .int .i64 k ∧ L.length ≤ k ∧ Bx wr bo [v, .int .i64 q] ∧ Own encTerm 49 2 w3.heap.size wr v L ∧ Hid (L = (ts.take k).map (divT g)) ∧ Kg w3 wr bo) (fun i _ => ts.length - (intOf i).toNat)
        case atStart => exact ⟨0, [], _, Nat.zero_le _, rfl, Nat.le_refl _, hBo, Own.nil _ _ _ _ _, hid (by simp), Kg.refl _ _⟩
        case round =>
          clear hBo
          obtain ⟨k, L, v, hk, rfl, hLk, hBo, own, HL, hKr⟩ := hrel
          obtain ⟨A1, c1', rfl, hc1, hm1⟩ := own.form
          have kwr : Kp w wr := Kg.to_kp kw3 hKr (by omega)
          have hsz := hKr.size
          have hbol : bo < wr.heap.size := by omega
          by_cases hlt : k < ts.length
          · obtain ⟨p, o, rfl, hp, h1, h2⟩ := (ht.keep (pl_stable _) kwr).term hlt
            have HT := hid (List.take_succ_eq_append_getElem hlt)
            obtain ⟨f1, f2, f3⟩ := HOK.out ts[k] (List.getElem_mem hlt)
            clear f0
            generalize ts[k] = t at *
            obtain ⟨ce, fa⟩ := t
            dsimp only at h1 h2 f1 f2 f3
            obtain ⟨t1, t2⟩ := tdiv_le fa g f1 f2
            have HN2 : Hid (L ++ [⟨ce, fa.tdiv g⟩] = (ts.take (k + 1)).map (divT g)) := hid (by rw [HT.out, HL.out, List.map_append]; rfl)
            have eg : (g == 0) = false := by rw [beq_eq_false_iff_ne]; omega
            have eg2 : g ≠ 0 := by omega
            have kA := (Kp.refl wr).alloc (.cells #[.int .i64 ce, .int .i64 fa] 49)
            have tA0 := alloc_cell wr #[.int .i64 ce, .int .i64 fa] 49 0 rfl
            have tA1 := alloc_cell wr #[.int .i64 ce, .int .i64 fa] 49 1 rfl
            have zA := alloc_lt wr (.cells #[.int .i64 ce, .int .i64 fa] 49)
            have hBA := hBo.kp kA hbol
            have hoblt := own.blk_lt
            have ownA := own.alloc (.cells #[.int .i64 ce, .int .i64 fa] 49)
            have hKA := hKr.alloc (.cells #[.int .i64 ce, .int .i64 fa] 49)
            clear hBo own
            go_wp2
            generalize wr.alloc (.cells #[.int .i64 ce, .int .i64 fa] 49) = wA at *
            generalize wr.heap.size = ba at *
            generalize hdv : fa.tdiv g = dv at *
            have hw : IntKind.i64.wrap dv = dv := IntWalk.i64_in _ (by omega)
            have hSf : ∀ W, Bx W bo [.slice A1 L.length c1', .int .i64 q] → W.cell? ⟨ba, 0, none⟩ = some (.int .i64 ce) → W.cell? ⟨ba, 1, none⟩ = some (.int .i64 fa) → (W.cell? ⟨bo, 0, none⟩ = some (.slice A1 L.length c1') ∧ W.frozen? ⟨bo, 0, none⟩ = false ∧ W.cell? ⟨ba, 0, none⟩ = some (.int .i64 ce) ∧ W.cell? ⟨ba, 1, none⟩ = some (.int .i64 fa)) := fun W h h1 h2 => ⟨h.cell (j := 0) rfl, h.free (j := 0) (by simp), h1, h2⟩
            refine beginT 12 (S := fun W => W.cell? ⟨bo, 0, none⟩ = some (.slice A1 L.length c1') ∧ W.frozen? ⟨bo, 0, none⟩ = false ∧ W.cell? ⟨ba, 0, none⟩ = some (.int .i64 ce) ∧ W.cell? ⟨ba, 1, none⟩ = some (.int .i64 fa)) (by kernel_rfl) (hSf _ (hBA.keep rfl) tA0 tA1) (fun hHeld => ?_)
            refine take_atT 0 42 (v := ?_) rfl rfl (by kernel_rfl) (by kernel_rfl) (by kernel_rfl) (by kernel_rfl) (by kernel_rfl) (fun _ _ _ h => h) hHeld (Or.inl ⟨by kernel_rfl, ?_⟩) ?_
            rotate_left
            · intro w hSw; (try dsimp only at hSw); go_simp; try with_reducible rfl
            simp only [Act.put, List.setIfInBounds_toArray, List.set_cons_zero, List.set_cons_succ]
            refine take_atT 1 43 (v := ?_) rfl rfl (by kernel_rfl) (by kernel_rfl) (by kernel_rfl) (by kernel_rfl) (by kernel_rfl) (fun _ _ _ h => h) hHeld (Or.inl ⟨by kernel_rfl, ?_⟩) ?_
            rotate_left
            · intro w hSw; (try dsimp only at hSw); go_simp; try with_reducible rfl
            simp only [Act.put, List.setIfInBounds_toArray, List.set_cons_zero, List.set_cons_succ]
            refine take_atT 2 44 (v := ?_) rfl rfl (by kernel_rfl) (by kernel_rfl) (by kernel_rfl) (by kernel_rfl) (by kernel_rfl) (fun _ _ _ h => h) hHeld (Or.inl ⟨by kernel_rfl, ?_⟩) ?_
            rotate_left
            · intro w hSw; (try dsimp only at hSw); go_simp; try with_reducible rfl
            simp only [Act.put, List.setIfInBounds_toArray, List.set_cons_zero, List.set_cons_succ]
            refine take_atT 3 45 (v := ?_) rfl rfl (by kernel_rfl) (by kernel_rfl) (by kernel_rfl) (by kernel_rfl) (by kernel_rfl) (fun _ _ _ h => h) hHeld (Or.inl ⟨by kernel_rfl, ?_⟩) ?_
            rotate_left
            · intro w hSw; (try dsimp only at hSw); go_simp; try with_reducible rfl
            simp only [Act.put, List.setIfInBounds_toArray, List.set_cons_zero, List.set_cons_succ]
            refine take_atT 4 46 (v := ?_) rfl rfl (by kernel_rfl) (by kernel_rfl) (by kernel_rfl) (by kernel_rfl) (by kernel_rfl) (fun _ _ _ h => h) hHeld (Or.inl ⟨by kernel_rfl, ?_⟩) ?_
            rotate_left
            · intro w hSw; (try dsimp only at hSw); go_simp; try with_reducible rfl
            simp only [Act.put, List.setIfInBounds_toArray, List.set_cons_zero, List.set_cons_succ]
            refine take_atT 5 47 (v := ?_) rfl rfl (by kernel_rfl) (by kernel_rfl) (by kernel_rfl) (by kernel_rfl) (by kernel_rfl) (fun _ _ _ h => h) hHeld (Or.inl ⟨by kernel_rfl, ?_⟩) ?_
            rotate_left
            · intro w hSw; (try dsimp only at hSw); go_simp; try with_reducible rfl
            simp only [Act.put, List.setIfInBounds_toArray, List.set_cons_zero, List.set_cons_succ]
            refine take_atT 6 48 (v := ?_) rfl rfl (by kernel_rfl) (by kernel_rfl) (by kernel_rfl) (by kernel_rfl) (by kernel_rfl) (fun _ _ _ h => h) hHeld (Or.inl ⟨by kernel_rfl, ?_⟩) ?_
            rotate_left
            · intro w hSw; (try dsimp only at hSw); go_simp; try with_reducible rfl
            simp only [Act.put, List.setIfInBounds_toArray, List.set_cons_zero, List.set_cons_succ]
            refine take_atT 7 49 (v := ?_) rfl rfl (by kernel_rfl) (by kernel_rfl) (by kernel_rfl) (by kernel_rfl) (by kernel_rfl) (fun _ _ _ h => h) hHeld (Or.inl ⟨by kernel_rfl, ?_⟩) ?_
            rotate_left
            · intro w hSw; (try dsimp only at hSw); go_simp; try with_reducible rfl
            simp only [Act.put, List.setIfInBounds_toArray, List.set_cons_zero, List.set_cons_succ]
            refine take_atT 8 50 (v := ?_) rfl rfl (by kernel_rfl) (by kernel_rfl) (by kernel_rfl) (by kernel_rfl) (by kernel_rfl) (fun _ _ _ h => h) hHeld (Or.inl ⟨by kernel_rfl, ?_⟩) ?_
            rotate_left
            · intro w hSw; (try dsimp only at hSw); go_simp; try with_reducible rfl
            simp only [Act.put, List.setIfInBounds_toArray, List.set_cons_zero, List.set_cons_succ]
            refine stepT (i := 9) (o := _) (by kernel_rfl) rfl (fun K hK => ?_)
            go_simp
            have kC := ((Kp.refl wA).alloc (.cells #[.int .i64 ce, .int .i64 dv] 49)).drew
            have hBC := hBA.kp kC (by omega)
            have ownC := ownA.kp kC
            have sC : Terms (wA.alloc (.cells #[.int .i64 ce, .int .i64 dv] 49)).drew (.slice (some ⟨wA.heap.size, 0, none⟩) 1 1) [⟨ce, dv⟩] := (litT wA 49 ⟨ce, dv⟩).keep (pl_stable _) ((Kp.refl _).drew)
            have hKC := hKA.trans (kC.kg bo)
            have tC0 := kC.cellS tA0
            have tC1 := kC.cellS tA1
            have zC := kC.size
            clear hBA ownA hKA tA0 tA1
            refine hK.out _ _ (hSf _ hBC tC0 tC1) (fun hHeld2 => ?_)
            clear hK K hHeld
            have hHeld := hHeld2
            clear hHeld2
            generalize (wA.alloc (.cells #[.int .i64 ce, .int .i64 dv] 49)).drew = wC at *
            refine stepT (i := 10) (o := _) (by kernel_rfl) rfl (fun K hK => ?_)
            refine step_append4 rfl (.tmp 43) (.tmp 51) rfl stTermM encTerm_len encTerm_one rfl ownC rfl sC (by simp; omega) (by simp; omega) (by omega) ?_
            intro v4 w4 hown4 hgrow4 hat4
            have hob := ownC.ge
            have hBD := hBC.grown hgrow4 (fun e => by have := hob bo e; omega) (by omega)
            have tD0 : w4.cell? ⟨ba, 0, none⟩ = some (.int .i64 ce) := (World.cell?_of_block (hgrow4.block ba (by omega) (fun e => by have := hoblt ba e.symm; omega))).trans tC0
            have tD1 : w4.cell? ⟨ba, 1, none⟩ = some (.int .i64 fa) := (World.cell?_of_block (hgrow4.block ba (by omega) (fun e => by have := hoblt ba e.symm; omega))).trans tC1
            have hKD := hKC.grown hgrow4 hob
            refine hK.out _ _ (hSf _ hBD tD0 tD1) (fun hHeld2 => ?_)
            clear hK K hHeld
            have hHeld := hHeld2
            clear hHeld2
            refine stepT (i := 11) (o := _) (by kernel_rfl) rfl (fun K hK => ?_)
            go_simp
            refine hK.out _ _ hHeld (fun hHeld2 => ?_)
            clear hK K hHeld
            have hHeld := hHeld2
            clear hHeld2
            have hBE := hBD.set (j := 0) (by simp) v4
            simp only [List.set_cons_zero] at hBE
            have hKE := hKD.set (p := ⟨bo, 0, none⟩) (.inl rfl) v4
            have hown5 := hown4.kg ((Kg.refl w4 bo).set (p := ⟨bo, 0, none⟩) (.inl rfl) v4) hz2
            obtain ⟨hc8, hf8, -, -⟩ := hHeld
            obtain ⟨A4, c4, hv4, hc4, hm4⟩ := hown5.form
            have hlen4 : (L ++ [(⟨ce, dv⟩ : Term)]).length ≤ k + 1 := by simp; omega
            generalize L ++ [(⟨ce, dv⟩ : Term)] = L4 at *
            subst hv4
            clear hBC hBD hown4 hgrow4 hat4 ownC sC hKC hKD kC hSf tC0 tC1 tD0 tD1 hoblt hob
            refine lastT (o := _) (by kernel_rfl) rfl (fun K hK => ?_)
            go_simp
            refine hK.out _ _ ?_
            clear hK K
            refine doneT (by kernel_rfl) ?_ _
            go_wp2
            go_roundw
            case rel => exact ⟨k + 1, L4, _, by omega, by go_num, hlen4, hBE, hown5, HN2, hKE⟩
            case measure => simp [intOf]; omega
          · have HE : Hid (L = ts.map (divT g)) := hid (by rw [HL.out, List.take_of_length_le (by omega)])
            have hbz2 := hbz.kg hKr (by omega) (by omega)
            have hBF := hbz2.set2 (.slice A1 L.length c1') (.int .i64 q)
            have q0 := hBo.cell (j := 0) rfl
            have q1 := hBo.cell (j := 1) rfl
            have s0 := hbz2.cell (j := 0) rfl
            have s1 := hbz2.cell (j := 1) rfl
            have r0 := hbz2.free (j := 0) (by simp)
            have r1 := hbz2.free (j := 1) (by simp)
            have hzr : w.heap.size + 1 < wr.heap.size := by omega
            have hkf : Kp w ((wr.setCell ⟨w.heap.size + 1, 0, none⟩ (.slice A1 L.length c1')).setCell ⟨w.heap.size + 1, 1, none⟩ (.int .i64 q)) := (kwr.set (p := ⟨w.heap.size + 1, 0, none⟩) (by simp) _).set (p := ⟨w.heap.size + 1, 1, none⟩) (by simp) _
            have hkg : Kg wr ((wr.setCell ⟨w.heap.size + 1, 0, none⟩ (.slice A1 L.length c1')).setCell ⟨w.heap.size + 1, 1, none⟩ (.int .i64 q)) (w.heap.size + 1) := ((Kg.refl _ _).set (p := ⟨w.heap.size + 1, 0, none⟩) (.inl rfl) _).set (p := ⟨w.heap.size + 1, 1, none⟩) (.inl rfl) _
            have hof := (own.kg hkg (by omega)).less (base' := w.heap.size) (by omega)
            clear hBo own f0
            go_wp2
            refine bodyPost_ret (results_cell_bx rfl _ _ (w.heap.size + 1) [.slice A1 L.length c1', .int .i64 q] _ rfl hBF.range Try.underlying30 rfl (by kernel_rfl)) rfl ⟨.slice A1 L.length c1', ret_row (by rw [HN.out]), ?_, hkf⟩
            rw [HN.out]
            dsimp only
            rw [← HE.out]
            exact hof
end Go.Proofs.Ytfllmnaillilhaa
namespace Go.Proofs.Ytfllmnaillilhaa
set_option linter.unusedSimpArgs false
set_option linter.unusedVariables false
open Go.RowKit

theorem stRngM : SliceT Try.prog 22 59 2 16 := SliceT.mk' Try.underlying22 (z := .agg #[.int .i64 0, .int .i64 0]) (by kernel_rfl) rfl (by omega)
def zeros : List Rng := List.replicate 128 ⟨0, 0⟩
theorem zeros_box : boxB zeros = true := by decide +kernel
theorem zeros_len : zeros.length = 128 := by simp [zeros]
theorem zeros_valid (r : Row) : validB zeros [r] = fitsB 128 r := by
  unfold validB
  rw [zeros_box, zeros_len]
  simp
/-- the normal row of any row, if it has one -/
def NormalR (r : Row) : Row × Bool := if fitsB 128 r then (normR r, true) else (⟨[], 0⟩, false)
theorem rowLitS (w : World) (t : TypeId) (A : Option Addr) (c : Nat) (ts : List Term) (bd : Int) (h : Terms w (.slice A ts.length c) ts) : RowsL (w.alloc (.cells #[.slice A ts.length c, .int .i64 bd] t)) (.slice (some ⟨w.heap.size, 0, none⟩) 1 1) [⟨ts, bd⟩] :=
  Sl.one (R := rdRow) w [.slice A ts.length c, .int .i64 bd] t 2 ⟨ts, bd⟩ rfl ⟨_, rfl, h.keep (pl_stable _) ((Kp.refl w).alloc _)⟩
theorem normal_small {n : Nat} {r : Row} (h : fitsB n r = true) : ∀ t ∈ r.terms, okF t := fun t ht => by
  obtain ⟨f1, f2⟩ := fitsn_all h t ht
  unfold okT at f1
  unfold okF
  omega
set_option maxRecDepth 8000 in
set_option maxHeartbeats 4000000 in
theorem sNormal_any (vt : Value) (ts : List Term) (bd : Int) (w : World) (ht : Terms w vt ts) :
    Calls Try.prog 11 #[.agg #[vt, .int .i64 bd]] w fun e w' => ∃ v, e = .returned (.tuple #[.agg #[v, .int .i64 (NormalR ⟨ts, bd⟩).1.bound], .bool (NormalR ⟨ts, bd⟩).2]) ∧ Own encTerm 49 2 w.heap.size w' v (NormalR ⟨ts, bd⟩).1.terms ∧ Kp w w' := by
  obtain ⟨A, c, rfl, hc, hm⟩ := ht.form
  have HF : Hid (NormalR ⟨ts, bd⟩ = if fitsB 128 ⟨ts, bd⟩ then (normR ⟨ts, bd⟩, true) else (⟨[], 0⟩, false)) := hid rfl
  have k0 := ((Kp.refl w).alloc (.cells #[.slice A ts.length c, .int .i64 bd] 30)).alloc (.cells #[.slice none 0 0, .int .i64 0] 30)
  have c0 := ((Kp.refl _).alloc (.cells #[.slice none 0 0, .int .i64 0] 30)).cellS (alloc_cell w #[.slice A ts.length c, .int .i64 bd] 30 0 rfl)
  have c1 := ((Kp.refl _).alloc (.cells #[.slice none 0 0, .int .i64 0] 30)).cellS (alloc_cell w #[.slice A ts.length c, .int .i64 bd] 30 1 rfl)
  have hB := Bx.new (w.alloc (.cells #[.slice A ts.length c, .int .i64 bd] 30)) #[.slice none 0 0, .int .i64 0] 30
  have hz : ((w.alloc (.cells #[.slice A ts.length c, .int .i64 bd] 30)).alloc (.cells #[.slice none 0 0, .int .i64 0] 30)).heap.size = w.heap.size + 2 := by simp
  rw [World.size_alloc] at hB
  have hz0 := hz
  go_enter Try.func11, Try.ntmps11
  go_wp2
  generalize (w.alloc (.cells #[.slice A ts.length c, .int .i64 bd] 30)).alloc (.cells #[.slice none 0 0, .int .i64 0] 30) = w0 at *
  generalize hbw : w.heap.size = b at *
  have HBW := hid hbw
  clear hbw hz0
  replace hz := hid hz
  have hbl : b ≤ w0.heap.size := by have := hz.out; omega
  have hS : ∀ W, Kp w0 W → (W.cell? ⟨b, 0, none⟩ = some (.slice A ts.length c) ∧ W.cell? ⟨b, 1, none⟩ = some (.int .i64 bd) ∧ Kp w0 W) := fun W hk => ⟨hk.cellS c0, hk.cellS c1, hk⟩
  refine wp_region_held_drew (S := fun W => W.cell? ⟨b, 0, none⟩ = some (.slice A ts.length c) ∧ W.cell? ⟨b, 1, none⟩ = some (.int .i64 bd) ∧ Kp w0 W) (by kernel_rfl) (hS _ (Kp.refl _).drew) (fun hHeld => ?_)
  refine take_at 1 5 (v := ?_) rfl rfl (by kernel_rfl) (by kernel_rfl) (by kernel_rfl) (fun _ _ _ h => h) hHeld (Or.inl ⟨by kernel_rfl, ?_⟩) ?_
  rotate_left
  · intro w hSw; (try dsimp only at hSw); go_simp; try with_reducible rfl
  simp only [Act.put, List.setIfInBounds_toArray, List.set_cons_zero, List.set_cons_succ]
  refine wpAnyH_ready (rs := [0, 2]) (by kernel_rfl) (by simp) ?_
  refine AllReadyH.cons (o := _) rfl (fun K hK => ?_) (AllReadyH.cons (o := _) rfl (fun K hK => ?_) AllReadyH.nil)
  · refine step_make_flat (enc := encRng) (base := b) rfl (.const (.int .i64 128)) (.const (.int .i64 128)) rfl stRngM ⟨0, 0⟩ (zero_of (u := .agg #[.int .i64 0, .int .i64 0]) (by kernel_rfl) rfl) 128 rfl rfl (by omega) (by omega) (by have := hHeld.2.2.size; omega) ?_
    intro wM ownM kM zM
    have hp := hHeld.2.2.trans kM
    have hz1 : Rngs wM _ zeros := ownM.sl encRng_len
    clear ownM zM
    generalize w0.drew.heap.size = bm at *
    refine hK.out _ _ (hS _ hp) (fun hHeld2 => ?_)
    clear hK K hHeld
    have hHeld := hHeld2
    clear hHeld2
    refine wpAnyH_ready (rs := [2]) (by kernel_rfl) (by simp) ?_
    refine AllReadyH.cons (o := _) rfl (fun K hK => ?_) AllReadyH.nil
    go_simp
    have kC := (Kp.refl wM).alloc (.cells #[.slice A ts.length c, .int .i64 bd] 30)
    have hpp := hp.trans kC
    refine hK.out _ _ (hS _ hpp) (fun hHeld2 => ?_)
    clear hK K hHeld
    have hHeld := hHeld2
    clear hHeld2
    refine wpAnyH_ready (rs := [3]) (by kernel_rfl) (by simp) ?_
    refine AllReadyH.cons (o := _) rfl (fun K hK => ?_) AllReadyH.nil
    go_simp
    refine (Valid_any _ _ zeros [⟨ts, bd⟩] _ (hz1.keep (pl_stable _) kC) (rowLitS wM 30 A c ts bd (ht.keep (pl_stable _) (k0.trans hp)))).mono ?_
    rintro e w9 ⟨rfl, h9⟩
    rw [zeros_valid]
    have hK9 := hpp.trans h9
    refine hK.out _ _ (hS _ hK9) (fun hHeld2 => ?_)
    clear hK K hHeld
    have hHeld := hHeld2
    clear hHeld2
    refine take_at 4 8 (v := ?_) rfl rfl (by kernel_rfl) (by kernel_rfl) (by kernel_rfl) (fun _ _ _ h => h) hHeld (Or.inl ⟨by kernel_rfl, ?_⟩) ?_
    rotate_left
    · intro w hSw; (try dsimp only at hSw); go_simp; try with_reducible rfl
    simp only [Act.put, List.setIfInBounds_toArray, List.set_cons_zero, List.set_cons_succ]
    refine wpAnyH_done (by kernel_rfl) ?_ _
    have kk := hHeld.2.2
    have q0 := hHeld.1
    have q1 := hHeld.2.1
    have hb9 : b + 1 < w9.heap.size := by have := kk.size; have := hz.out; omega
    have hBz := hB.kp kk (by have := hz.out; omega)
    have ht9 := ht.keep (pl_stable _) (k0.trans kk)
    have kW := k0.trans kk
    have hgl := block_lt_of_cell q0
    clear hHeld hS hB c0 c1 hK9 h9 hpp hz1 k0 kk
    cases hf : fitsB 128 ⟨ts, bd⟩ with
    | false =>
      have HN : Hid (NormalR ⟨ts, bd⟩ = (⟨[], 0⟩, false)) := hid (by rw [HF.out, hf]; rfl)
      have hBF := hBz.set2 (.slice none 0 0) (.int .i64 0)
      have s0 := hBz.cell (j := 0) rfl
      have s1 := hBz.cell (j := 1) rfl
      have r0 := hBz.free (j := 0) (by simp)
      have r1 := hBz.free (j := 1) (by simp)
      have hkf : Kp w ((w9.setCell ⟨b + 1, 0, none⟩ (.slice none 0 0)).setCell ⟨b + 1, 1, none⟩ (.int .i64 0)) := (kW.set (p := ⟨b + 1, 0, none⟩) (by have := HBW.out; show w.heap.size ≤ b + 1; omega) _).set (p := ⟨b + 1, 1, none⟩) (by have := HBW.out; show w.heap.size ≤ b + 1; omega) _
      clear hf hBz
      go_wp2
      refine bodyPost_ret (results_cell_bx2 rfl _ _ (b + 1) [.slice none 0 0, .int .i64 0] _ rfl hBF.range Try.underlying30 rfl (by kernel_rfl)) rfl ⟨.slice none 0 0, by rw [HN.out]; rfl, ?_, hkf⟩
      rw [HN.out]
      exact Own.nil _ _ _ _ _
    | true =>
      have HN : Hid (NormalR ⟨ts, bd⟩ = (normR ⟨ts, bd⟩, true)) := hid (by rw [HF.out, hf]; rfl)
      have hsm := normal_small hf
      obtain ⟨-, fl, fb1, fb2⟩ := fitsB_ok (n := 128) hf
      dsimp only at fl fb1 fb2
      replace hsm := hid hsm
      clear hf
      go_wp2_with fail
      refine (snormal_any _ ts bd _ ht9 hsm.out fl fb1 fb2).mono ?_
      rintro e w10 ⟨v, rfl, own, k10⟩
      replace hBz := hBz.kp k10 hb9
      generalize normR ⟨ts, bd⟩ = nr at *
      obtain ⟨nts, nbd⟩ := nr
      dsimp only at own ⊢
      obtain ⟨A1, c1, rfl, hc1, hm1⟩ := own.form
      have hBF := hBz.set2 (.slice A1 nts.length c1) (.int .i64 nbd)
      have s0 := hBz.cell (j := 0) rfl
      have s1 := hBz.cell (j := 1) rfl
      have r0 := hBz.free (j := 0) (by simp)
      have r1 := hBz.free (j := 1) (by simp)
      have hb10 : b + 1 < w10.heap.size := by have := k10.size; omega
      have hkg : Kg w10 ((w10.setCell ⟨b + 1, 0, none⟩ (.slice A1 nts.length c1)).setCell ⟨b + 1, 1, none⟩ (.int .i64 nbd)) (b + 1) := ((Kg.refl _ _).set (p := ⟨b + 1, 0, none⟩) (.inl rfl) _).set (p := ⟨b + 1, 1, none⟩) (.inl rfl) _
      have hof := (own.kg hkg hb9).less (base' := w.heap.size) kW.size
      have hkf : Kp w ((w10.setCell ⟨b + 1, 0, none⟩ (.slice A1 nts.length c1)).setCell ⟨b + 1, 1, none⟩ (.int .i64 nbd)) := ((kW.trans k10).set (p := ⟨b + 1, 0, none⟩) (by have := HBW.out; show w.heap.size ≤ b + 1; omega) _).set (p := ⟨b + 1, 1, none⟩) (by have := HBW.out; show w.heap.size ≤ b + 1; omega) _
      clear q0 q1 own hBz
      go_wp2
      refine bodyPost_ret (results_cell_bx2 rfl _ _ (b + 1) [.slice A1 nts.length c1, .int .i64 nbd] _ rfl hBF.range Try.underlying30 rfl (by kernel_rfl)) rfl ⟨.slice A1 nts.length c1, by rw [HN.out]; rfl, ?_, hkf⟩
      rw [HN.out]
      exact hof
  · go_simp
    have hp := hHeld.2.2
    have kC := ((Kp.refl w0).alloc (.cells #[.slice A ts.length c, .int .i64 bd] 30)).drew
    have hr1 : RowsL (w0.alloc (.cells #[.slice A ts.length c, .int .i64 bd] 30)).drew (.slice (some ⟨w0.heap.size, 0, none⟩) 1 1) [⟨ts, bd⟩] := (rowLitS w0 30 A c ts bd (ht.keep (pl_stable _) k0)).keep rdRow_stable ((Kp.refl _).drew)
    clear hp
    refine hK.out _ _ (hS _ kC) (fun hHeld2 => ?_)
    clear hK K hHeld
    have hHeld := hHeld2
    clear hHeld2
    generalize (w0.alloc (.cells #[.slice A ts.length c, .int .i64 bd] 30)).drew = wC at *
    refine wpAnyH_ready (rs := [0]) (by kernel_rfl) (by simp) ?_
    refine AllReadyH.cons (o := _) rfl (fun K hK => ?_) AllReadyH.nil
    refine step_make_flat (enc := encRng) (base := b) rfl (.const (.int .i64 128)) (.const (.int .i64 128)) rfl stRngM ⟨0, 0⟩ (zero_of (u := .agg #[.int .i64 0, .int .i64 0]) (by kernel_rfl) rfl) 128 rfl rfl (by omega) (by omega) (by have := kC.size; omega) ?_
    intro wM ownM kM zM
    have hpp := kC.trans kM
    have hz1 : Rngs wM _ zeros := ownM.sl encRng_len
    clear ownM zM
    generalize wC.heap.size = bm at *
    refine hK.out _ _ (hS _ hpp) (fun hHeld2 => ?_)
    clear hK K hHeld
    have hHeld := hHeld2
    clear hHeld2
    refine wpAnyH_ready (rs := [3]) (by kernel_rfl) (by simp) ?_
    refine AllReadyH.cons (o := _) rfl (fun K hK => ?_) AllReadyH.nil
    go_simp
    refine (Valid_any _ _ zeros [⟨ts, bd⟩] _ hz1 (hr1.keep rdRow_stable kM)).mono ?_
    rintro e w9 ⟨rfl, h9⟩
    rw [zeros_valid]
    have hK9 := hpp.trans h9
    refine hK.out _ _ (hS _ hK9) (fun hHeld2 => ?_)
    clear hK K hHeld
    have hHeld := hHeld2
    clear hHeld2
    refine take_at 4 8 (v := ?_) rfl rfl (by kernel_rfl) (by kernel_rfl) (by kernel_rfl) (fun _ _ _ h => h) hHeld (Or.inl ⟨by kernel_rfl, ?_⟩) ?_
    rotate_left
    · intro w hSw; (try dsimp only at hSw); go_simp; try with_reducible rfl
    simp only [Act.put, List.setIfInBounds_toArray, List.set_cons_zero, List.set_cons_succ]
    refine wpAnyH_done (by kernel_rfl) ?_ _
    have kk := hHeld.2.2
    have q0 := hHeld.1
    have q1 := hHeld.2.1
    have hb9 : b + 1 < w9.heap.size := by have := kk.size; have := hz.out; omega
    have hBz := hB.kp kk (by have := hz.out; omega)
    have ht9 := ht.keep (pl_stable _) (k0.trans kk)
    have kW := k0.trans kk
    have hgl := block_lt_of_cell q0
    clear hHeld hS hB c0 c1 hK9 h9 hpp hz1 k0 kk
    cases hf : fitsB 128 ⟨ts, bd⟩ with
    | false =>
      have HN : Hid (NormalR ⟨ts, bd⟩ = (⟨[], 0⟩, false)) := hid (by rw [HF.out, hf]; rfl)
      have hBF := hBz.set2 (.slice none 0 0) (.int .i64 0)
      have s0 := hBz.cell (j := 0) rfl
      have s1 := hBz.cell (j := 1) rfl
      have r0 := hBz.free (j := 0) (by simp)
      have r1 := hBz.free (j := 1) (by simp)
      have hkf : Kp w ((w9.setCell ⟨b + 1, 0, none⟩ (.slice none 0 0)).setCell ⟨b + 1, 1, none⟩ (.int .i64 0)) := (kW.set (p := ⟨b + 1, 0, none⟩) (by have := HBW.out; show w.heap.size ≤ b + 1; omega) _).set (p := ⟨b + 1, 1, none⟩) (by have := HBW.out; show w.heap.size ≤ b + 1; omega) _
      clear hf hBz
      go_wp2
      refine bodyPost_ret (results_cell_bx2 rfl _ _ (b + 1) [.slice none 0 0, .int .i64 0] _ rfl hBF.range Try.underlying30 rfl (by kernel_rfl)) rfl ⟨.slice none 0 0, by rw [HN.out]; rfl, ?_, hkf⟩
      rw [HN.out]
      exact Own.nil _ _ _ _ _
    | true =>
      have HN : Hid (NormalR ⟨ts, bd⟩ = (normR ⟨ts, bd⟩, true)) := hid (by rw [HF.out, hf]; rfl)
      have hsm := normal_small hf
      obtain ⟨-, fl, fb1, fb2⟩ := fitsB_ok (n := 128) hf
      dsimp only at fl fb1 fb2
      replace hsm := hid hsm
      clear hf
      go_wp2_with fail
      refine (snormal_any _ ts bd _ ht9 hsm.out fl fb1 fb2).mono ?_
      rintro e w10 ⟨v, rfl, own, k10⟩
      replace hBz := hBz.kp k10 hb9
      generalize normR ⟨ts, bd⟩ = nr at *
      obtain ⟨nts, nbd⟩ := nr
      dsimp only at own ⊢
      obtain ⟨A1, c1, rfl, hc1, hm1⟩ := own.form
      have hBF := hBz.set2 (.slice A1 nts.length c1) (.int .i64 nbd)
      have s0 := hBz.cell (j := 0) rfl
      have s1 := hBz.cell (j := 1) rfl
      have r0 := hBz.free (j := 0) (by simp)
      have r1 := hBz.free (j := 1) (by simp)
      have hb10 : b + 1 < w10.heap.size := by have := k10.size; omega
      have hkg : Kg w10 ((w10.setCell ⟨b + 1, 0, none⟩ (.slice A1 nts.length c1)).setCell ⟨b + 1, 1, none⟩ (.int .i64 nbd)) (b + 1) := ((Kg.refl _ _).set (p := ⟨b + 1, 0, none⟩) (.inl rfl) _).set (p := ⟨b + 1, 1, none⟩) (.inl rfl) _
      have hof := (own.kg hkg hb9).less (base' := w.heap.size) kW.size
      have hkf : Kp w ((w10.setCell ⟨b + 1, 0, none⟩ (.slice A1 nts.length c1)).setCell ⟨b + 1, 1, none⟩ (.int .i64 nbd)) := ((kW.trans k10).set (p := ⟨b + 1, 0, none⟩) (by have := HBW.out; show w.heap.size ≤ b + 1; omega) _).set (p := ⟨b + 1, 1, none⟩) (by have := HBW.out; show w.heap.size ≤ b + 1; omega) _
      clear q0 q1 own hBz
      go_wp2
      refine bodyPost_ret (results_cell_bx2 rfl _ _ (b + 1) [.slice A1 nts.length c1, .int .i64 nbd] _ rfl hBF.range Try.underlying30 rfl (by kernel_rfl)) rfl ⟨.slice A1 nts.length c1, by rw [HN.out]; rfl, ?_, hkf⟩
      rw [HN.out]
      exact hof
end Go.Proofs.Ytfllmnaillilhaa
