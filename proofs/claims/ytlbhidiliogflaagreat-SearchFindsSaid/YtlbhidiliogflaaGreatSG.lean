/-
Whether values are a solution of a system: the walks.
Whether a system is small enough for the laws: the walk.
The reference of systems: when a system is valid.
The reference of systems: whether a system is small.
-/
import Derived.Test.YtlbhidiliogflaaGreatSB
import Derived.Test.YtlbhidiliogflaaGreatPA
import Derived.Test.YtlbhidiliogflaaGreatSA
import Derived.Test.YtlbhidiliogflaaGreatKA
namespace Go.Proofs.YtlbhidiliogflaaGreat
set_option linter.unusedSimpArgs false
set_option linter.unusedVariables false
open Go.RowKit

theorem validS_parts {s : Sys} (h : validS s = true) : boxB s.box = true ∧ s.box.any emptyR = false ∧ (s.rows.length ≤ 1024 ∧ validB s.box s.rows = true) ∧ s.graphs.length ≤ 64 ∧ s.cases.length ≤ 1024 ∧ (∀ g ∈ s.graphs, grOk s.box.length g = true) ∧ ∀ l ∈ s.cases, l.length ≤ 64 ∧ validB s.box l = true := by
  unfold validS rowsOk at h
  simp only [Bool.and_eq_true, Bool.not_eq_true', decide_eq_true_eq, List.all_eq_true, List.any_eq_false, Bool.not_eq_true', Bool.and_eq_false_iff, not_or] at h
  obtain ⟨⟨⟨⟨⟨⟨h1, h2⟩, h3, h4⟩, h5⟩, h6⟩, h7⟩, h8⟩ := h
  refine ⟨h1, by simpa using h2, ⟨by omega, h4⟩, h5, h6, h7, fun l hl => ?_⟩
  have := h8 l hl
  simp at this
  exact ⟨by omega, this.2⟩
theorem row_okV {b : List Rng} {rows : List Row} {vs : List Int} (h : validB b rows = true) (hl : b.length = vs.length) {r : Row} (hr : r ∈ rows) : rowOkV vs r := by
  obtain ⟨v1, v2, v3⟩ := validB_ok h
  obtain ⟨f1, f2, f3, f4⟩ := fitsB_ok (v3 r hr)
  rw [hl] at f1
  exact ⟨f1, by omega⟩
theorem fit_of {s : Sys} {vs : List Int} (h : validS s = true) (hc : containsB s.box vs = true) : FitV s vs := by
  obtain ⟨h1, h2, ⟨h3, h4⟩, h5, h6, h7, h8⟩ := validS_parts h
  have hl := (not_badV hc).1
  have hv := okV_of h4 hc
  obtain ⟨-, v2, -⟩ := validB_ok h4
  exact ⟨fun r hr => row_okV h4 hl hr, fun g hg => by rw [← hl]; exact h7 g hg, fun l hll r hr => row_okV (h8 l hll).2 hl hr, hv, by omega, h3, h5, h6⟩
/-- whether values in the box are a solution -/
def solvesB (s : Sys) (vs : List Int) : Bool := (!s.rows.any (badR vs) && !s.graphs.any (badG vs)) && (s.cases.any (goodC vs) || s.cases.isEmpty)
set_option maxRecDepth 8000 in
set_option maxHeartbeats 4000000 in
theorem sSolves_any (va vv : Value) (s : Sys) (vs : List Int) (w : World) (hs : SysV w va s) (hv : Ints w vv vs) (hF : FitV s vs) :
    Calls Tryz.prog 63 #[va, vv] w fun e w' => e = .returned (.bool (solvesB s vs)) ∧ Kp w w' := by
  have hs' := hs
  obtain ⟨Ab, cb, Ar, cr, Ag, cg, Ac, cc, rfl, hb, hr, hg, hc⟩ := hs'
  obtain ⟨l1, m1⟩ := hb.caps
  obtain ⟨l2, m2⟩ := hr.caps
  obtain ⟨l3, m3⟩ := hg.caps
  obtain ⟨l4, m4⟩ := hc.caps
  obtain ⟨A', c', rfl, hc', hm'⟩ := hv.form
  have HF : Hid (solvesB s vs = ((!s.rows.any (badR vs) && !s.graphs.any (badG vs)) && (s.cases.any (goodC vs) || s.cases.isEmpty))) := hid rfl
  have k0 := (Kp.refl w).alloc (.cells #[.slice Ab s.box.length cb, .slice Ar s.rows.length cr, .slice Ag s.graphs.length cg, .slice Ac s.cases.length cc] 27)
  have B0 := SysB.new w #[.slice Ab s.box.length cb, .slice Ar s.rows.length cr, .slice Ag s.graphs.length cg, .slice Ac s.cases.length cc] 27
  have z0 := alloc_lt w (.cells #[.slice Ab s.box.length cb, .slice Ar s.rows.length cr, .slice Ag s.graphs.length cg, .slice Ac s.cases.length cc] 27)
  go_enter Tryz.func63, Tryz.ntmps63
  go_wp2_with fail
  try rw [← World.size_alloc w (.cells #[.slice Ab s.box.length cb, .slice Ar s.rows.length cr, .slice Ag s.graphs.length cg, .slice Ac s.cases.length cc] 27)]
  generalize w.alloc (.cells #[.slice Ab s.box.length cb, .slice Ar s.rows.length cr, .slice Ag s.graphs.length cg, .slice Ac s.cases.length cc] 27) = w0 at *
  generalize w.heap.size = b0 at *
  refine (sFails_any _ _ s vs _ (hs.keep k0) (hv.keep (pl_stable _) k0) hF).mono ?_
  rintro e w1 ⟨v1, v2, rfl, s1, s2, k1⟩
  replace B0 := B0.keep k1
  replace k1 := k0.trans k1
  obtain ⟨c0, c1, c2, c3⟩ := B0.cells
  have hgl := block_lt_of_cell c0
  have i1 := idxsF_nil (badR vs) 0 s.rows
  have i2 := idxsF_nil (badG vs) 0 s.graphs
  have j1 := idxsF_len (badR vs) 0 s.rows
  have j2 := idxsF_len (badG vs) 0 s.graphs
  generalize idxsF (badR vs) 0 s.rows = L1 at *
  generalize idxsF (badG vs) 0 s.graphs = L2 at *
  replace i1 := hid i1
  replace i2 := hid i2
  obtain ⟨A1, c1', rfl, _, _⟩ := s1.form
  obtain ⟨A2, c2', rfl, _, _⟩ := s2.form
  clear s1 s2 k0
  have n1 := hF.nrows
  have n2 := hF.ngraphs
  have n3 := hF.ncases
  by_cases hp : 0 < L1.length + L2.length
  · have e1 : decide ((0 : Int) < (L1.length : Int) + (L2.length : Int)) = true := decide_eq_true (by omega)
    have HE : Hid (solvesB s vs = false) := hid (by
      rw [HF.out, ← i1.out, ← i2.out]
      by_cases h1 : 0 < L1.length
      · simp [h1]
      · have h2 : 0 < L2.length := by omega
        simp [h2])
    go_wp2
    go_ret
    exact ⟨ret_bool HE.out.symm, k1⟩
  · have e1 : decide ((0 : Int) < (L1.length : Int) + (L2.length : Int)) = false := decide_eq_false (by omega)
    have HE : Hid (solvesB s vs = (s.cases.any (goodC vs) || s.cases.isEmpty)) := hid (by
      rw [HF.out, ← i1.out, ← i2.out, show L1.length = 0 by omega, show L2.length = 0 by omega]
      simp)
    clear i1 i2
    go_wp2_with fail
    refine (sAlternative_any _ _ s vs _ (hs.keep k1) (hv.keep (pl_stable _) k1) hF).mono ?_
    rintro e w2 ⟨rfl, k2⟩
    replace B0 := B0.keep k2
    clear c0 c1 c2 c3 hgl
    obtain ⟨c0, c1, c2, c3⟩ := B0.cells
    have hgl := block_lt_of_cell c0
    have HI := hid (idxF_any (goodC vs) 0 s.cases)
    have HZ : Hid (s.cases.isEmpty = decide (s.cases.length = 0)) := hid (by cases s.cases <;> simp)
    generalize idxF (goodC vs) 0 s.cases = r at *
    unfold altR
    by_cases hr0 : 0 ≤ r
    · have HE2 : Hid (solvesB s vs = true) := hid (by rw [HE.out, ← HI.out, decide_eq_true hr0]; rfl)
      rw [decide_eq_true hr0]
      go_wp2
      go_ret
      exact ⟨ret_bool HE2.out.symm, k1.trans k2⟩
    · rw [decide_eq_false hr0]
      by_cases hcl : s.cases.length = 0
      · have e2 : ((s.cases.length : Int) == 0) = true := by simpa using hcl
        have HE2 : Hid (solvesB s vs = true) := hid (by rw [HE.out, HZ.out, decide_eq_true hcl]; simp)
        clear hcl
        go_wp2
        go_ret
        exact ⟨ret_bool HE2.out.symm, k1.trans k2⟩
      · have e2 : ((s.cases.length : Int) == 0) = false := by simpa using hcl
        have HE2 : Hid (solvesB s vs = false) := hid (by rw [HE.out, HZ.out, decide_eq_false hcl, ← HI.out, decide_eq_false hr0]; rfl)
        clear hcl
        go_wp2
        go_ret
        exact ⟨ret_bool HE2.out.symm, k1.trans k2⟩
def lookedB (s : Sys) (vs : List Int) : Bool := (validS s && decide (vs.length = s.box.length)) && !vs.any farI
set_option maxRecDepth 8000 in
set_option maxHeartbeats 4000000 in
theorem sLooked_any (va vv : Value) (s : Sys) (vs : List Int) (w : World) (hs : SysV w va s) (hv : Ints w vv vs) :
    Calls Tryz.prog 62 #[va, vv] w fun e w' => e = .returned (.bool (lookedB s vs)) ∧ Kp w w' := by
  have hs' := hs
  obtain ⟨Ab, cb, Ar, cr, Ag, cg, Ac, cc, rfl, hb, hr, hg, hc⟩ := hs'
  obtain ⟨l1, m1⟩ := hb.caps
  obtain ⟨l2, m2⟩ := hr.caps
  obtain ⟨l3, m3⟩ := hg.caps
  obtain ⟨l4, m4⟩ := hc.caps
  obtain ⟨A', c', rfl, hc', hm'⟩ := hv.form
  have HF : Hid (lookedB s vs = ((validS s && decide (vs.length = s.box.length)) && !vs.any farI)) := hid rfl
  have k0 := (Kp.refl w).alloc (.cells #[.slice Ab s.box.length cb, .slice Ar s.rows.length cr, .slice Ag s.graphs.length cg, .slice Ac s.cases.length cc] 27)
  have B0 := SysB.new w #[.slice Ab s.box.length cb, .slice Ar s.rows.length cr, .slice Ag s.graphs.length cg, .slice Ac s.cases.length cc] 27
  have z0 := alloc_lt w (.cells #[.slice Ab s.box.length cb, .slice Ar s.rows.length cr, .slice Ag s.graphs.length cg, .slice Ac s.cases.length cc] 27)
  go_enter Tryz.func62, Tryz.ntmps62
  go_wp2_with fail
  try rw [← World.size_alloc w (.cells #[.slice Ab s.box.length cb, .slice Ar s.rows.length cr, .slice Ag s.graphs.length cg, .slice Ac s.cases.length cc] 27)]
  generalize w.alloc (.cells #[.slice Ab s.box.length cb, .slice Ar s.rows.length cr, .slice Ag s.graphs.length cg, .slice Ac s.cases.length cc] 27) = w0 at *
  generalize w.heap.size = b0 at *
  refine (sValid_any _ s _ (hs.keep k0)).mono ?_
  rintro e w1 ⟨rfl, k1⟩
  replace B0 := B0.keep k1
  replace k1 := k0.trans k1
  obtain ⟨c0, c1, c2, c3⟩ := B0.cells
  have hgl := block_lt_of_cell c0
  cases hV : validS s with
  | false =>
    have HE : Hid (lookedB s vs = false) := hid (by rw [HF.out, hV]; rfl)
    clear hV
    go_wp2
    go_ret
    exact ⟨ret_bool HE.out.symm, k1⟩
  | true =>
    by_cases hl : vs.length = s.box.length
    · have HE : Hid (lookedB s vs = !vs.any farI) := hid (by rw [HF.out, hV, decide_eq_true hl]; rfl)
      have e1 : ((vs.length : Int) == (s.box.length : Int)) = true := beq_iff_eq.2 (by omega)
      have e2 : (vs.length == s.box.length) = true := by simpa using hl
      clear hV hl
      go_wp2_with fail
      refine (ContainsFuncI_any farI 77 [] _ vs _ (hv.keep (pl_stable _) k1) sLooked1_real (fun w' r _ => sLooked1_any r w')).mono ?_
      rintro e w3 ⟨rfl, k3⟩
      generalize hx : vs.any farI = x
      have Hx := hid hx
      clear hx
      go_wp2
      go_ret
      exact ⟨ret_bool (by rw [HE.out, Hx.out]), k1.trans k3⟩
    · have HE : Hid (lookedB s vs = false) := hid (by rw [HF.out, decide_eq_false hl]; simp)
      have e1 : ((vs.length : Int) == (s.box.length : Int)) = false := by simp; omega
      have e2 : (vs.length == s.box.length) = false := by simpa using hl
      clear hV hl
      go_wp2
      go_ret
      exact ⟨ret_bool HE.out.symm, k1⟩
theorem looked_in {s : Sys} {vs : List Int} (h : validS s = true) (hc : containsB s.box vs = true) : lookedB s vs = true := by
  have hf := fit_of h hc
  have hl := (not_badV hc).1
  unfold lookedB
  rw [h, decide_eq_true hl.symm]
  simp only [Bool.and_self, Bool.true_and, Bool.not_eq_true', List.any_eq_false]
  intro x hx
  have := hf.okv x hx
  unfold farI
  simp
  omega
def holdsS (s : Sys) (vs : List Int) : Bool := validS s && (containsB s.box vs && solvesB s vs)
set_option maxRecDepth 8000 in
set_option maxHeartbeats 4000000 in
theorem sHolds_any (va vv : Value) (s : Sys) (vs : List Int) (w : World) (hs : SysV w va s) (hv : Ints w vv vs) :
    Calls Tryz.prog 33 #[va, vv] w fun e w' => e = .returned (.bool (holdsS s vs)) ∧ Kp w w' := by
  have hs' := hs
  obtain ⟨Ab, cb, Ar, cr, Ag, cg, Ac, cc, rfl, hb, hr, hg, hc⟩ := hs'
  obtain ⟨l1, m1⟩ := hb.caps
  obtain ⟨l2, m2⟩ := hr.caps
  obtain ⟨l3, m3⟩ := hg.caps
  obtain ⟨l4, m4⟩ := hc.caps
  obtain ⟨A', c', rfl, hc', hm'⟩ := hv.form
  have HF : Hid (holdsS s vs = (validS s && (containsB s.box vs && solvesB s vs))) := hid rfl
  have k0 := (Kp.refl w).alloc (.cells #[.slice Ab s.box.length cb, .slice Ar s.rows.length cr, .slice Ag s.graphs.length cg, .slice Ac s.cases.length cc] 27)
  have B0 := SysB.new w #[.slice Ab s.box.length cb, .slice Ar s.rows.length cr, .slice Ag s.graphs.length cg, .slice Ac s.cases.length cc] 27
  have z0 := alloc_lt w (.cells #[.slice Ab s.box.length cb, .slice Ar s.rows.length cr, .slice Ag s.graphs.length cg, .slice Ac s.cases.length cc] 27)
  go_enter Tryz.func33, Tryz.ntmps33
  go_wp2_with fail
  try rw [← World.size_alloc w (.cells #[.slice Ab s.box.length cb, .slice Ar s.rows.length cr, .slice Ag s.graphs.length cg, .slice Ac s.cases.length cc] 27)]
  generalize w.alloc (.cells #[.slice Ab s.box.length cb, .slice Ar s.rows.length cr, .slice Ag s.graphs.length cg, .slice Ac s.cases.length cc] 27) = w0 at *
  generalize w.heap.size = b0 at *
  refine (sLooked_any _ _ s vs _ (hs.keep k0) (hv.keep (pl_stable _) k0)).mono ?_
  rintro e w1 ⟨rfl, k1⟩
  replace B0 := B0.keep k1
  replace k1 := k0.trans k1
  obtain ⟨c0, c1, c2, c3⟩ := B0.cells
  have hgl := block_lt_of_cell c0
  cases hV : lookedB s vs with
  | false =>
    have HE : Hid (holdsS s vs = false) := hid (by
      rw [HF.out]
      cases h1 : validS s with
      | false => rfl
      | true =>
        cases h2 : containsB s.box vs with
        | false => rfl
        | true =>
          rw [looked_in h1 h2] at hV
          cases hV)
    clear hV
    go_wp2
    go_ret
    exact ⟨ret_bool HE.out.symm, k1⟩
  | true =>
    have HV : Hid (validS s = true) := hid (by unfold lookedB at hV; simp only [Bool.and_eq_true] at hV; exact hV.1.1)
    clear hV
    go_wp2_with fail
    refine (Contains_any _ _ s.box vs _ (hb.keep (pl_stable _) k1) (hv.keep (pl_stable _) k1)).mono ?_
    rintro e w2 ⟨rfl, k2⟩
    replace B0 := B0.keep k2
    replace k2 := k1.trans k2
    clear c0 c1 c2 c3 hgl k1
    obtain ⟨c0, c1, c2, c3⟩ := B0.cells
    have hgl := block_lt_of_cell c0
    cases hC : containsB s.box vs with
    | false =>
      have HE : Hid (holdsS s vs = false) := hid (by rw [HF.out, hC]; simp)
      clear hC
      go_wp2
      go_ret
      exact ⟨ret_bool HE.out.symm, k2⟩
    | true =>
      have hF := fit_of HV.out hC
      have HE : Hid (holdsS s vs = solvesB s vs) := hid (by rw [HF.out, HV.out, hC]; rfl)
      clear hC
      go_wp2_with fail
      refine (sSolves_any _ _ s vs _ (hs.keep k2) (hv.keep (pl_stable _) k2) hF).mono ?_
      rintro e w3 ⟨rfl, k3⟩
      generalize hx : solvesB s vs = x
      have Hx := hid hx
      clear hx
      go_wp2
      go_ret
      exact ⟨ret_bool (by rw [HE.out, Hx.out]), k2.trans k3⟩
end Go.Proofs.YtlbhidiliogflaaGreat
namespace Go.Proofs.YtlbhidiliogflaaGreat
set_option linter.unusedSimpArgs false
set_option linter.unusedVariables false
open Go.RowKit

def cutB (s : Sys) : Bool := (s.graphs.all (fun g => decide (g.least.length ≤ 40)) && s.cases.all (fun c => decide (c.length ≤ 70))) && (((decide (s.box.length ≤ 130) && decide (s.rows.length ≤ 40)) && decide (s.graphs.length ≤ 70)) && decide (s.cases.length ≤ 20))
theorem cut_rows {s : Sys} (h : cutB s = true) : s.box.length ≤ 130 ∧ s.rows.length ≤ 40 ∧ s.graphs.length ≤ 70 ∧ s.cases.length ≤ 20 := by
  unfold cutB at h
  simp only [Bool.and_eq_true, decide_eq_true_eq] at h
  obtain ⟨-, ⟨⟨h1, h2⟩, h3⟩, h4⟩ := h
  exact ⟨h1, h2, h3, h4⟩
end Go.Proofs.YtlbhidiliogflaaGreat
namespace Go.Proofs.YtlbhidiliogflaaGreat
set_option linter.unusedSimpArgs false
set_option linter.unusedVariables false
open Go.RowKit

theorem validS_box {s : Sys} (h : boxB s.box = false) : validS s = false := by unfold validS; rw [h]; simp
theorem validS_rows {s : Sys} (h : rowsOk s.box s.rows 1024 = false) : validS s = false := by unfold validS; rw [h]; simp
theorem validS_eq {s : Sys} (h1 : validB s.box s.rows = true) (h2 : s.box.any emptyR = false) (h3 : s.rows.length ≤ 1024) (h4 : s.graphs.length ≤ 64) (h5 : s.cases.length ≤ 1024) :
    validS s = (s.graphs.all (grOk s.box.length) && !s.cases.any (fun l => !rowsOk s.box l 64)) := by
  have hb : boxB s.box = true := by
    unfold validB at h1
    simp only [Bool.and_eq_true] at h1
    exact h1.1
  unfold validS
  rw [hb, h2, decide_eq_true h4, decide_eq_true h5]
  unfold rowsOk
  rw [h1, decide_eq_true (by omega)]
  rfl
set_option maxRecDepth 8000 in
set_option maxHeartbeats 8000000 in
theorem qValid_any (va : Value) (s : Sys) (w : World) (hs : SysV w va s) :
    Calls Tryz.prog 15 #[va] w fun e w' => e = .returned (.bool (validS s)) ∧ Kp w w' := by
  have hs' := hs
  obtain ⟨Ab, cb, Ar, cr, Ag, cg, Ac, cc, rfl, hb, hr, hg, hc⟩ := hs'
  obtain ⟨l1, m1⟩ := hb.caps
  obtain ⟨l2, m2⟩ := hr.caps
  obtain ⟨l3, m3⟩ := hg.caps
  obtain ⟨l4, m4⟩ := hc.caps
  by_cases a1 : 1024 < s.rows.length
  · have e1 : decide ((1024 : Int) < (s.rows.length : Int)) = true := decide_eq_true (by omega)
    have k0 := (Kp.refl w).alloc (.cells #[.slice Ab s.box.length cb, .slice Ar s.rows.length cr, .slice Ag s.graphs.length cg, .slice Ac s.cases.length cc] 27)
    have HF : Hid (validS s = false) := hid (validS_rows (by simp [rowsOk]; omega))
    go_enter Tryz.func15, Tryz.ntmps15
    go_wp2
    go_ret
    exact ⟨ret_bool HF.out.symm, k0⟩
  have e1 : decide ((1024 : Int) < (s.rows.length : Int)) = false := decide_eq_false (by omega)
  by_cases a2 : 64 < s.graphs.length
  · have e2 : decide ((64 : Int) < (s.graphs.length : Int)) = true := decide_eq_true (by omega)
    have k0 := (Kp.refl w).alloc (.cells #[.slice Ab s.box.length cb, .slice Ar s.rows.length cr, .slice Ag s.graphs.length cg, .slice Ac s.cases.length cc] 27)
    have HF : Hid (validS s = false) := hid (by
      have : decide (s.graphs.length ≤ 64) = false := decide_eq_false (by omega)
      unfold validS; rw [this]; simp)
    go_enter Tryz.func15, Tryz.ntmps15
    go_wp2
    go_ret
    exact ⟨ret_bool HF.out.symm, k0⟩
  have e2 : decide ((64 : Int) < (s.graphs.length : Int)) = false := decide_eq_false (by omega)
  by_cases a3 : 1024 < s.cases.length
  · have e3 : decide ((1024 : Int) < (s.cases.length : Int)) = true := decide_eq_true (by omega)
    have k0 := (Kp.refl w).alloc (.cells #[.slice Ab s.box.length cb, .slice Ar s.rows.length cr, .slice Ag s.graphs.length cg, .slice Ac s.cases.length cc] 27)
    have HF : Hid (validS s = false) := hid (by
      have : decide (s.cases.length ≤ 1024) = false := decide_eq_false (by omega)
      unfold validS; rw [this]; simp)
    go_enter Tryz.func15, Tryz.ntmps15
    go_wp2
    go_ret
    exact ⟨ret_bool HF.out.symm, k0⟩
  have e3 : decide ((1024 : Int) < (s.cases.length : Int)) = false := decide_eq_false (by omega)
  have k0 := (Kp.refl w).alloc (.cells #[.slice Ab s.box.length cb, .slice Ar s.rows.length cr, .slice Ag s.graphs.length cg, .slice Ac s.cases.length cc] 27)
  have B0 := SysB.new w #[.slice Ab s.box.length cb, .slice Ar s.rows.length cr, .slice Ag s.graphs.length cg, .slice Ac s.cases.length cc] 27
  have z0 := alloc_lt w (.cells #[.slice Ab s.box.length cb, .slice Ar s.rows.length cr, .slice Ag s.graphs.length cg, .slice Ac s.cases.length cc] 27)
  go_enter Tryz.func15, Tryz.ntmps15
  go_wp2_with fail
  try rw [← World.size_alloc w (.cells #[.slice Ab s.box.length cb, .slice Ar s.rows.length cr, .slice Ag s.graphs.length cg, .slice Ac s.cases.length cc] 27)]
  generalize w.alloc (.cells #[.slice Ab s.box.length cb, .slice Ar s.rows.length cr, .slice Ag s.graphs.length cg, .slice Ac s.cases.length cc] 27) = w0 at *
  generalize w.heap.size = b0 at *
  refine (rValid_any _ _ s.box s.rows _ (hb.keep (pl_stable _) k0) (hr.keep rdRow_stable k0)).mono ?_
  rintro e w1 ⟨rfl, k1⟩
  replace B0 := B0.keep k1
  replace k1 := k0.trans k1
  obtain ⟨c0, c1, c2, c3⟩ := B0.cells
  have hgl := block_lt_of_cell c0
  cases hV : validB s.box s.rows with
  | false =>
    have HF : Hid (validS s = false) := hid (validS_rows (by unfold rowsOk; rw [hV]; simp))
    go_wp2
    go_ret
    exact ⟨ret_bool HF.out.symm, k1⟩
  | true =>
    replace hV := hid hV
    go_wp2_with fail
    refine (rEmpty_any _ s.box _ (hb.keep (pl_stable _) k1)).mono ?_
    rintro e w2 ⟨rfl, k2⟩
    replace B0 := B0.keep k2
    replace k2 := k1.trans k2
    clear c0 c1 c2 c3 hgl k1
    obtain ⟨c0, c1, c2, c3⟩ := B0.cells
    have hgl := block_lt_of_cell c0
    cases hE : s.box.any emptyR with
    | true =>
      have HF : Hid (validS s = false) := hid (by unfold validS; rw [hE]; simp)
      go_wp2
      go_ret
      exact ⟨ret_bool HF.out.symm, k2⟩
    | false =>
      have HV := hid (validS_eq hV.out hE (by omega) (by omega) (by omega))
      have hlb : s.box.length ≤ 128 := (validB_ok hV.out).2.1
      clear hE hV e1 e2 e3
      go_wp2
      go_loopw [3] (fun i wr => ∃ k : Nat, k ≤ s.cases.length ∧ i = .int .i64 k ∧ Hid (s.cases.any (fun l => !rowsOk s.box l 64) = (s.cases.drop k).any (fun l => !rowsOk s.box l 64)) ∧ Kp w2 wr) (fun i _ => s.cases.length - (intOf i).toNat)
      case atStart => exact ⟨0, Nat.zero_le _, rfl, rfl, Kp.refl _⟩
      case round =>
        obtain ⟨k, hk, rfl, HB, hkr⟩ := hrel
        replace B0 := B0.keep hkr
        have kk := k2.trans hkr
        clear c0 c1 c2 c3 hgl k2
        obtain ⟨c0, c1, c2, c3⟩ := B0.cells
        have hgl := block_lt_of_cell c0
        by_cases hlt : k < s.cases.length
        · have hg2 := hc.keep rdRows_stable kk
          obtain ⟨b, o, A', c', rfl, hb', h1, h2⟩ := hg2.rowsAt hlt
          obtain ⟨y1, y2⟩ := h2.caps
          have HD := hid (List.drop_eq_getElem_cons hlt)
          generalize s.cases[k] = l at *
          have hb2 := hb.keep (pl_stable _) kk
          clear hs hb hr hg hg2 hc
          have q1 : (0 : Int) ≤ k := by omega
          have q2 : (k : Int) < s.cases.length := by omega
          by_cases hll : 64 < l.length
          · have e1 : decide ((64 : Int) < (l.length : Int)) = true := decide_eq_true (by omega)
            have HF : Hid (validS s = false) := hid (by
              have : rowsOk s.box l 64 = false := by simp [rowsOk]; omega
              rw [HV.out, HB.out, HD.out, List.any_cons, this]
              simp)
            go_wp2
            go_quiet (fail)
            go_wp2
            go_ret
            exact ⟨ret_bool HF.out.symm, kk.drewN _⟩
          · have e1 : decide ((64 : Int) < (l.length : Int)) = false := decide_eq_false (by omega)
            have HR : Hid (rowsOk s.box l 64 = validB s.box l) := hid (by unfold rowsOk; rw [decide_eq_true (by omega)]; rfl)
            have hSf : ∀ W, Kp wr W → (W.cell? ⟨b0, 0, none⟩ = some (.slice Ab s.box.length cb) ∧ W.cell? ⟨b0, 3, none⟩ = some (.slice (some ⟨b, o, none⟩) s.cases.length cc) ∧ W.cell? ⟨b, o + k, none⟩ = some (.slice A' l.length c') ∧ Kp wr W) := fun W hk => ⟨hk.cellS c0, hk.cellS c3, hk.cellS h1, hk⟩
            go_wp2
            refine wp_region_held_drew (S := fun W => W.cell? ⟨b0, 0, none⟩ = some (.slice Ab s.box.length cb) ∧ W.cell? ⟨b0, 3, none⟩ = some (.slice (some ⟨b, o, none⟩) s.cases.length cc) ∧ W.cell? ⟨b, o + k, none⟩ = some (.slice A' l.length c') ∧ Kp wr W) (by kernel_rfl) (hSf _ (Kp.refl _).drew) (fun hHeld => ?_)
            refine take_at 0 43 (v := ?_) rfl rfl (by kernel_rfl) (by kernel_rfl) (by kernel_rfl) (fun _ _ _ h => h) hHeld (Or.inl ⟨by kernel_rfl, ?_⟩) ?_
            rotate_left
            · intro w hSw; (try dsimp only at hSw); go_simp; try with_reducible rfl
            simp only [Act.put, List.setIfInBounds_toArray, List.set_cons_zero, List.set_cons_succ]
            refine take_at 1 44 (v := ?_) rfl rfl (by kernel_rfl) (by kernel_rfl) (by kernel_rfl) (fun _ _ _ h => h) hHeld (Or.inl ⟨by kernel_rfl, ?_⟩) ?_
            rotate_left
            · intro w hSw; (try dsimp only at hSw); go_simp; try with_reducible rfl
            simp only [Act.put, List.setIfInBounds_toArray, List.set_cons_zero, List.set_cons_succ]
            refine take_at 2 45 (v := ?_) rfl rfl (by kernel_rfl) (by kernel_rfl) (by kernel_rfl) (fun _ _ _ h => h) hHeld (Or.inl ⟨by kernel_rfl, ?_⟩) ?_
            rotate_left
            · intro w hSw; (try dsimp only at hSw); go_simp; try with_reducible rfl
            simp only [Act.put, List.setIfInBounds_toArray, List.set_cons_zero, List.set_cons_succ]
            refine take_at 3 46 (v := ?_) rfl rfl (by kernel_rfl) (by kernel_rfl) (by kernel_rfl) (fun _ _ _ h => h) hHeld (Or.inl ⟨by kernel_rfl, ?_⟩) ?_
            rotate_left
            · intro w hSw; (try dsimp only at hSw); go_simp; try with_reducible rfl
            simp only [Act.put, List.setIfInBounds_toArray, List.set_cons_zero, List.set_cons_succ]
            refine take_at 4 47 (v := ?_) rfl rfl (by kernel_rfl) (by kernel_rfl) (by kernel_rfl) (fun _ _ _ h => h) hHeld (Or.inl ⟨by kernel_rfl, ?_⟩) ?_
            rotate_left
            · intro w hSw; (try dsimp only at hSw); go_simp; try with_reducible rfl
            simp only [Act.put, List.setIfInBounds_toArray, List.set_cons_zero, List.set_cons_succ]
            refine take_at 5 48 (v := ?_) rfl rfl (by kernel_rfl) (by kernel_rfl) (by kernel_rfl) (fun _ _ _ h => h) hHeld (Or.inl ⟨by kernel_rfl, ?_⟩) ?_
            rotate_left
            · intro w hSw; (try dsimp only at hSw); go_simp; try with_reducible rfl
            simp only [Act.put, List.setIfInBounds_toArray, List.set_cons_zero, List.set_cons_succ]
            refine take_at 6 49 (v := ?_) rfl rfl (by kernel_rfl) (by kernel_rfl) (by kernel_rfl) (fun _ _ _ h => h) hHeld (Or.inl ⟨by kernel_rfl, ?_⟩) ?_
            rotate_left
            · intro w hSw; (try dsimp only at hSw); go_simp; try with_reducible rfl
            simp only [Act.put, List.setIfInBounds_toArray, List.set_cons_zero, List.set_cons_succ]
            refine take_at 7 50 (v := ?_) rfl rfl (by kernel_rfl) (by kernel_rfl) (by kernel_rfl) (fun _ _ _ h => h) hHeld (Or.inl ⟨by kernel_rfl, ?_⟩) ?_
            rotate_left
            · intro w hSw; (try dsimp only at hSw); go_simp; try with_reducible rfl
            simp only [Act.put, List.setIfInBounds_toArray, List.set_cons_zero, List.set_cons_succ]
            refine take_at 8 51 (v := ?_) rfl rfl (by kernel_rfl) (by kernel_rfl) (by kernel_rfl) (fun _ _ _ h => h) hHeld (Or.inl ⟨by kernel_rfl, ?_⟩) ?_
            rotate_left
            · intro w hSw; (try dsimp only at hSw); go_simp; try with_reducible rfl
            simp only [Act.put, List.setIfInBounds_toArray, List.set_cons_zero, List.set_cons_succ]
            refine take_at 9 52 (v := ?_) rfl rfl (by kernel_rfl) (by kernel_rfl) (by kernel_rfl) (fun _ _ _ h => h) hHeld (Or.inl ⟨by kernel_rfl, ?_⟩) ?_
            rotate_left
            · intro w hSw; (try dsimp only at hSw); go_simp; try with_reducible rfl
            simp only [Act.put, List.setIfInBounds_toArray, List.set_cons_zero, List.set_cons_succ]
            refine take_at 10 53 (v := ?_) rfl rfl (by kernel_rfl) (by kernel_rfl) (by kernel_rfl) (fun _ _ _ h => h) hHeld (Or.inl ⟨by kernel_rfl, ?_⟩) ?_
            rotate_left
            · intro w hSw; (try dsimp only at hSw); go_simp; try with_reducible rfl
            simp only [Act.put, List.setIfInBounds_toArray, List.set_cons_zero, List.set_cons_succ]
            refine take_at 11 54 (v := ?_) rfl rfl (by kernel_rfl) (by kernel_rfl) (by kernel_rfl) (fun _ _ _ h => h) hHeld (Or.inl ⟨by kernel_rfl, ?_⟩) ?_
            rotate_left
            · intro w hSw; (try dsimp only at hSw); go_simp; try with_reducible rfl
            simp only [Act.put, List.setIfInBounds_toArray, List.set_cons_zero, List.set_cons_succ]
            refine take_at 12 55 (v := ?_) rfl rfl (by kernel_rfl) (by kernel_rfl) (by kernel_rfl) (fun _ _ _ h => h) hHeld (Or.inl ⟨by kernel_rfl, ?_⟩) ?_
            rotate_left
            · intro w hSw; (try dsimp only at hSw); go_simp; try with_reducible rfl
            simp only [Act.put, List.setIfInBounds_toArray, List.set_cons_zero, List.set_cons_succ]
            refine take_at 13 56 (v := ?_) rfl rfl (by kernel_rfl) (by kernel_rfl) (by kernel_rfl) (fun _ _ _ h => h) hHeld (Or.inl ⟨by kernel_rfl, ?_⟩) ?_
            rotate_left
            · intro w hSw; (try dsimp only at hSw); go_simp; try with_reducible rfl
            simp only [Act.put, List.setIfInBounds_toArray, List.set_cons_zero, List.set_cons_succ]
            refine take_at 14 57 (v := ?_) rfl rfl (by kernel_rfl) (by kernel_rfl) (by kernel_rfl) (fun _ _ _ h => h) hHeld (Or.inl ⟨by kernel_rfl, ?_⟩) ?_
            rotate_left
            · intro w hSw; (try dsimp only at hSw); go_simp; try with_reducible rfl
            simp only [Act.put, List.setIfInBounds_toArray, List.set_cons_zero, List.set_cons_succ]
            refine wpAnyH_ready (rs := [15]) (by kernel_rfl) (by simp) ?_
            refine AllReadyH.cons (o := _) rfl (fun K hK => ?_) AllReadyH.nil
            go_simp
            refine (rValid_any _ _ s.box l _ (hb2.keep (pl_stable _) hHeld.2.2.2) (h2.keep rdRow_stable hHeld.2.2.2)).mono ?_
            rintro e w9 ⟨rfl, h9⟩
            refine hK.out _ _ (hSf _ (hHeld.2.2.2.trans h9)) (fun hHeld2 => ?_)
            clear hK K hHeld
            have hHeld := hHeld2
            clear hHeld2
            cases hG : validB s.box l with
            | true =>
              have HF : Hid (s.cases.any (fun l => !rowsOk s.box l 64) = (s.cases.drop (k + 1)).any (fun l => !rowsOk s.box l 64)) := hid (by rw [HB.out, HD.out, List.any_cons, HR.out, hG]; rfl)
              clear hG
              refine take_at 16 59 (v := ?_) rfl rfl (by kernel_rfl) (by kernel_rfl) (by kernel_rfl) (fun _ _ _ h => h) hHeld (Or.inl ⟨by kernel_rfl, ?_⟩) ?_
              rotate_left
              · intro w hSw; (try dsimp only at hSw); go_simp; try with_reducible rfl
              simp only [Act.put, List.setIfInBounds_toArray, List.set_cons_zero, List.set_cons_succ]
              refine take_at 17 60 (v := ?_) rfl rfl (by kernel_rfl) (by kernel_rfl) (by kernel_rfl) (fun _ _ _ h => h) hHeld (Or.inl ⟨by kernel_rfl, ?_⟩) ?_
              rotate_left
              · intro w hSw; (try dsimp only at hSw); go_simp; try with_reducible rfl
              simp only [Act.put, List.setIfInBounds_toArray, List.set_cons_zero, List.set_cons_succ]
              refine wpAnyH_done (by kernel_rfl) ?_ _
              have k4 := hHeld.2.2.2
              clear hHeld hSf
              go_wp2
              go_roundw
              case rel => exact ⟨k + 1, by omega, by go_num, HF, hkr.trans k4⟩
              case measure => simp [intOf]; omega
            | false =>
              have HF : Hid (validS s = false) := hid (by rw [HV.out, HB.out, HD.out, List.any_cons, HR.out, hG]; simp)
              clear hG
              refine take_at 16 59 (v := ?_) rfl rfl (by kernel_rfl) (by kernel_rfl) (by kernel_rfl) (fun _ _ _ h => h) hHeld (Or.inl ⟨by kernel_rfl, ?_⟩) ?_
              rotate_left
              · intro w hSw; (try dsimp only at hSw); go_simp; try with_reducible rfl
              simp only [Act.put, List.setIfInBounds_toArray, List.set_cons_zero, List.set_cons_succ]
              refine take_at 17 60 (v := ?_) rfl rfl (by kernel_rfl) (by kernel_rfl) (by kernel_rfl) (fun _ _ _ h => h) hHeld (Or.inl ⟨by kernel_rfl, ?_⟩) ?_
              rotate_left
              · intro w hSw; (try dsimp only at hSw); go_simp; try with_reducible rfl
              simp only [Act.put, List.setIfInBounds_toArray, List.set_cons_zero, List.set_cons_succ]
              refine wpAnyH_done (by kernel_rfl) ?_ _
              have k4 := hHeld.2.2.2
              clear hHeld hSf
              go_wp2
              go_ret
              exact ⟨ret_bool HF.out.symm, kk.trans k4⟩
        · have HV2 : Hid (validS s = s.graphs.all (grOk s.box.length)) := hid (by rw [HV.out, HB.out, List.drop_of_length_le (by omega)]; simp)
          clear HV HB
          obtain ⟨w3, rfl⟩ : ∃ x : World, x = wr := ⟨_, rfl⟩
          have HV := HV2
          have k3 := kk
          clear HV2 kk hkr
          go_wp2
          go_loopw [4] (fun i wr => ∃ k : Nat, k ≤ s.graphs.length ∧ i = .int .i64 k ∧ Hid (s.graphs.all (grOk s.box.length) = (s.graphs.drop k).all (grOk s.box.length)) ∧ Kp w3 wr) (fun i _ => s.graphs.length - (intOf i).toNat)
          case atStart => exact ⟨0, Nat.zero_le _, rfl, rfl, Kp.refl _⟩
          case round =>
            obtain ⟨k, hk, rfl, HB, hkr⟩ := hrel
            replace B0 := B0.keep hkr
            have kk := k3.trans hkr
            clear c0 c1 c2 c3 hgl k3
            obtain ⟨c0, c1, c2, c3⟩ := B0.cells
            have hgl := block_lt_of_cell c0
            by_cases hlt : k < s.graphs.length
            · have hg2 := hg.keep rdGr_stable kk
              obtain ⟨b, o, A', c', rfl, hb', h1, h2, h3, h4⟩ := hg2.gr hlt
              have HD := hid (List.drop_eq_getElem_cons hlt)
              generalize s.graphs[k] = g at *
              obtain ⟨fi, sz, le⟩ := g
              dsimp only at h1 h2 h3 h4
              obtain ⟨y1, y2⟩ := h4.caps
              clear hs hb hr hg hg2 hc
              have q1 : (0 : Int) ≤ k := by omega
              have q2 : (k : Int) < s.graphs.length := by omega
              have kA := (Kp.refl wr).alloc (.cells #[.int .i64 fi, .int .i64 sz, .slice A' le.length c'] 83)
              have f0 := alloc_cell wr #[.int .i64 fi, .int .i64 sz, .slice A' le.length c'] 83 0 rfl
              have f1 := alloc_cell wr #[.int .i64 fi, .int .i64 sz, .slice A' le.length c'] 83 1 rfl
              have f2 := alloc_cell wr #[.int .i64 fi, .int .i64 sz, .slice A' le.length c'] 83 2 rfl
              have zA := alloc_lt wr (.cells #[.int .i64 fi, .int .i64 sz, .slice A' le.length c'] 83)
              have x0 := kA.cellS c0
              have x2 := kA.cellS c2
              have hle := h4.keep (pl_stable _) kA
              by_cases g1 : sz < 1
              · have e1 : decide (sz < 1) = true := decide_eq_true g1
                have HF : Hid (validS s = false) := hid (by
                  rw [HV.out, HB.out, HD.out, List.all_cons]
                  unfold grOk
                  dsimp only
                  rw [decide_eq_false (by omega)]
                  rfl)
                go_wp2
                go_ret
                exact ⟨ret_bool HF.out.symm, kk.trans kA⟩
              have e1 : decide (sz < 1) = false := decide_eq_false g1
              by_cases g2 : 6 < sz
              · have e2 : decide (6 < sz) = true := decide_eq_true g2
                have HF : Hid (validS s = false) := hid (by
                  rw [HV.out, HB.out, HD.out, List.all_cons]
                  unfold grOk
                  dsimp only
                  rw [decide_eq_false (by omega)]
                  rfl)
                go_wp2
                go_ret
                exact ⟨ret_bool HF.out.symm, kk.trans kA⟩
              have e2 : decide (6 < sz) = false := decide_eq_false g2
              by_cases g3 : fi < 0
              · have e3 : decide (fi < 0) = true := decide_eq_true g3
                have HF : Hid (validS s = false) := hid (by
                  rw [HV.out, HB.out, HD.out, List.all_cons]
                  unfold grOk
                  dsimp only
                  rw [decide_eq_false (by omega)]
                  rfl)
                go_wp2
                go_ret
                exact ⟨ret_bool HF.out.symm, kk.trans kA⟩
              have e3 : decide (fi < 0) = false := decide_eq_false g3
              obtain ⟨b1, b2⟩ := sq_bd (s := sz) (by omega) (by omega)
              by_cases g4 : s.box.length - sz * sz < fi
              · have e4 : decide (s.box.length - sz * sz < fi) = true := decide_eq_true g4
                have hw1 : IntKind.i64.wrap (sz * sz) = sz * sz := IntWalk.i64_in _ (by omega)
                have hw2 : IntKind.i64.wrap (s.box.length - sz * sz) = s.box.length - sz * sz := IntWalk.i64_in _ (by omega)
                have HF : Hid (validS s = false) := hid (by
                  rw [HV.out, HB.out, HD.out, List.all_cons]
                  unfold grOk
                  dsimp only
                  rw [decide_eq_false (fun h => by obtain ⟨_, _, _, h, _⟩ := h; exact absurd g4 (Int.not_lt.mpr h))]
                  rfl)
                go_wp2
                go_ret
                exact ⟨ret_bool HF.out.symm, kk.trans kA⟩
              have e4 : decide (s.box.length - sz * sz < fi) = false := decide_eq_false g4
              by_cases g5 : (le.length : Int) = sz * sz
              · have e5 : ((le.length : Int) != sz * sz) = false := by simpa using g5
                have HG : Hid (grOk s.box.length ⟨fi, sz, le⟩ = !le.any farI) := hid (by
                  unfold grOk
                  dsimp only
                  rw [decide_eq_true (by omega)]
                  rfl)
                obtain ⟨hw1, hw2⟩ : IntKind.i64.wrap (sz * sz) = sz * sz ∧ IntKind.i64.wrap (s.box.length - sz * sz) = s.box.length - sz * sz := ⟨IntWalk.i64_in _ (by omega), IntWalk.i64_in _ (by omega)⟩
                go_wp2
                clear hw1 hw2 e1 e2 e3 e4 e5 g1 g2 g3 g4 g5
                generalize wr.alloc (.cells #[.int .i64 fi, .int .i64 sz, .slice A' le.length c'] 83) = wA at *
                generalize wr.heap.size = bg at *
                go_loopw [6] (fun i wr => ∃ k : Nat, k ≤ le.length ∧ i = .int .i64 k ∧ Hid (le.any farI = (le.drop k).any farI) ∧ Kp wA wr) (fun i _ => le.length - (intOf i).toNat)
                case atStart => exact ⟨0, Nat.zero_le _, rfl, rfl, Kp.refl _⟩
                case round =>
                  obtain ⟨j, hj, rfl, HJ, hjr⟩ := hrel
                  have hj2 := hjr.cellS f2
                  have hjg := block_lt_of_cell hj2
                  by_cases hjl : j < le.length
                  · obtain ⟨q, p, rfl, hq, hx⟩ := (hle.keep (pl_stable _) hjr).ints hjl
                    have HE := hid (List.drop_eq_getElem_cons hjl)
                    generalize le[j] = x at *
                    by_cases p1 : x < -4000000
                    · have e1 : decide (x < -4000000) = true := decide_eq_true p1
                      have HF : Hid (validS s = false) := hid (by rw [HV.out, HB.out, HD.out, List.all_cons, HG.out, HJ.out, HE.out, List.any_cons]; unfold farI; rw [e1]; simp)
                      go_wp2
                      go_ret
                      exact ⟨ret_bool HF.out.symm, kk.trans (kA.trans hjr)⟩
                    have e1 : decide (x < -4000000) = false := decide_eq_false p1
                    by_cases p2 : 4000000 < x
                    · have e2 : decide (4000000 < x) = true := decide_eq_true p2
                      have HF : Hid (validS s = false) := hid (by rw [HV.out, HB.out, HD.out, List.all_cons, HG.out, HJ.out, HE.out, List.any_cons]; unfold farI; rw [e2]; simp)
                      go_wp2
                      go_ret
                      exact ⟨ret_bool HF.out.symm, kk.trans (kA.trans hjr)⟩
                    have e2 : decide (4000000 < x) = false := decide_eq_false p2
                    have HF : Hid (le.any farI = (le.drop (j + 1)).any farI) := hid (by
                      have hx : farI x = false := by unfold farI; rw [e1, e2]; rfl
                      rw [HJ.out, HE.out, List.any_cons, hx]; rfl)
                    go_wp2
                    go_roundw
                    case rel => exact ⟨j + 1, by omega, by go_num, HF, hjr⟩
                    case measure => simp [intOf]; omega
                  · have HF : Hid (s.graphs.all (grOk s.box.length) = (s.graphs.drop (k + 1)).all (grOk s.box.length)) := hid (by rw [HB.out, HD.out, List.all_cons, HG.out, HJ.out, List.drop_of_length_le (by omega)]; rfl)
                    have k4 := kA.trans hjr
                    go_wp2
                    go_roundw
                    case rel => exact ⟨k + 1, by omega, by go_num, HF, hkr.trans k4⟩
                    case measure => simp [intOf]; omega
              · have e5 : ((le.length : Int) != sz * sz) = true := by simpa using g5
                obtain ⟨hw1, hw2⟩ : IntKind.i64.wrap (sz * sz) = sz * sz ∧ IntKind.i64.wrap (s.box.length - sz * sz) = s.box.length - sz * sz := ⟨IntWalk.i64_in _ (by omega), IntWalk.i64_in _ (by omega)⟩
                have HF : Hid (validS s = false) := hid (by
                  rw [HV.out, HB.out, HD.out, List.all_cons]
                  unfold grOk
                  dsimp only
                  rw [decide_eq_false (fun h => by obtain ⟨_, _, _, _, h⟩ := h; exact g5 h)]
                  rfl)
                go_wp2
                go_ret
                exact ⟨ret_bool HF.out.symm, kk.trans kA⟩
            · have HF : Hid (validS s = true) := hid (by rw [HV.out, HB.out, List.drop_of_length_le (by omega)]; rfl)
              go_wp2
              go_ret
              exact ⟨ret_bool HF.out.symm, kk⟩
end Go.Proofs.YtlbhidiliogflaaGreat
namespace Go.Proofs.YtlbhidiliogflaaGreat
set_option linter.unusedSimpArgs false
set_option linter.unusedVariables false
open Go.RowKit

def fewB (s : Sys) (most : Int) : Bool := (((((decide (s.box.length ≤ 12) && decide (s.rows.length ≤ 30)) && decide (s.graphs.length ≤ 6)) && decide (s.cases.length ≤ 12)) && validS s) && s.cases.all (fun l => decide (l.length ≤ 8))) && decide (sizeB s.box ≤ most)
theorem few_parts {s : Sys} {m : Int} (h : fewB s m = true) : s.box.length ≤ 12 ∧ s.rows.length ≤ 30 ∧ s.graphs.length ≤ 6 ∧ s.cases.length ≤ 12 ∧ validS s = true ∧ (∀ l ∈ s.cases, l.length ≤ 8) ∧ sizeB s.box ≤ m := by
  unfold fewB at h
  simp only [Bool.and_eq_true, decide_eq_true_eq, List.all_eq_true] at h
  obtain ⟨⟨⟨⟨⟨⟨h1, h2⟩, h3⟩, h4⟩, h5⟩, h6⟩, h7⟩ := h
  exact ⟨h1, h2, h3, h4, h5, h6, h7⟩
set_option maxRecDepth 8000 in
set_option maxHeartbeats 4000000 in
theorem qFew_any (va : Value) (s : Sys) (most : Int) (w : World) (hs : SysV w va s) :
    Calls Tryz.prog 16 #[va, .int .i64 most] w fun e w' => e = .returned (.bool (fewB s most)) ∧ Kp w w' := by
  have hs' := hs
  obtain ⟨Ab, cb, Ar, cr, Ag, cg, Ac, cc, rfl, hb, hr, hg, hc⟩ := hs'
  obtain ⟨l1, m1⟩ := hb.caps
  obtain ⟨l2, m2⟩ := hr.caps
  obtain ⟨l3, m3⟩ := hg.caps
  obtain ⟨l4, m4⟩ := hc.caps
  have HC : Hid (fewB s most = ((((((decide (s.box.length ≤ 12) && decide (s.rows.length ≤ 30)) && decide (s.graphs.length ≤ 6)) && decide (s.cases.length ≤ 12)) && validS s) && s.cases.all (fun l => decide (l.length ≤ 8))) && decide (sizeB s.box ≤ most))) := hid rfl
  by_cases h1 : 12 < s.box.length
  · have e1 : decide ((12 : Int) < (s.box.length : Int)) = true := decide_eq_true (by omega)
    have HF : Hid (fewB s most = false) := hid (by rw [HC.out, decide_eq_false (show ¬ s.box.length ≤ 12 by omega)]; simp)
    have k0 := (Kp.refl w).alloc (.cells #[.slice Ab s.box.length cb, .slice Ar s.rows.length cr, .slice Ag s.graphs.length cg, .slice Ac s.cases.length cc] 27)
    have B0 := SysB.new w #[.slice Ab s.box.length cb, .slice Ar s.rows.length cr, .slice Ag s.graphs.length cg, .slice Ac s.cases.length cc] 27
    have z0 := alloc_lt w (.cells #[.slice Ab s.box.length cb, .slice Ar s.rows.length cr, .slice Ag s.graphs.length cg, .slice Ac s.cases.length cc] 27)
    go_enter Tryz.func16, Tryz.ntmps16
    go_wp2_with fail
    try rw [← World.size_alloc w (.cells #[.slice Ab s.box.length cb, .slice Ar s.rows.length cr, .slice Ag s.graphs.length cg, .slice Ac s.cases.length cc] 27)]
    generalize w.alloc (.cells #[.slice Ab s.box.length cb, .slice Ar s.rows.length cr, .slice Ag s.graphs.length cg, .slice Ac s.cases.length cc] 27) = w0 at *
    generalize w.heap.size = b0 at *
    go_ret
    exact ⟨ret_bool HF.out.symm, k0⟩
  have e1 : decide ((12 : Int) < (s.box.length : Int)) = false := decide_eq_false (by omega)
  by_cases h2 : 30 < s.rows.length
  · have e2 : decide ((30 : Int) < (s.rows.length : Int)) = true := decide_eq_true (by omega)
    have HF : Hid (fewB s most = false) := hid (by rw [HC.out, decide_eq_false (show ¬ s.rows.length ≤ 30 by omega)]; simp)
    have k0 := (Kp.refl w).alloc (.cells #[.slice Ab s.box.length cb, .slice Ar s.rows.length cr, .slice Ag s.graphs.length cg, .slice Ac s.cases.length cc] 27)
    have B0 := SysB.new w #[.slice Ab s.box.length cb, .slice Ar s.rows.length cr, .slice Ag s.graphs.length cg, .slice Ac s.cases.length cc] 27
    have z0 := alloc_lt w (.cells #[.slice Ab s.box.length cb, .slice Ar s.rows.length cr, .slice Ag s.graphs.length cg, .slice Ac s.cases.length cc] 27)
    go_enter Tryz.func16, Tryz.ntmps16
    go_wp2_with fail
    try rw [← World.size_alloc w (.cells #[.slice Ab s.box.length cb, .slice Ar s.rows.length cr, .slice Ag s.graphs.length cg, .slice Ac s.cases.length cc] 27)]
    generalize w.alloc (.cells #[.slice Ab s.box.length cb, .slice Ar s.rows.length cr, .slice Ag s.graphs.length cg, .slice Ac s.cases.length cc] 27) = w0 at *
    generalize w.heap.size = b0 at *
    go_ret
    exact ⟨ret_bool HF.out.symm, k0⟩
  have e2 : decide ((30 : Int) < (s.rows.length : Int)) = false := decide_eq_false (by omega)
  by_cases h3 : 6 < s.graphs.length
  · have e3 : decide ((6 : Int) < (s.graphs.length : Int)) = true := decide_eq_true (by omega)
    have HF : Hid (fewB s most = false) := hid (by rw [HC.out, decide_eq_false (show ¬ s.graphs.length ≤ 6 by omega)]; simp)
    have k0 := (Kp.refl w).alloc (.cells #[.slice Ab s.box.length cb, .slice Ar s.rows.length cr, .slice Ag s.graphs.length cg, .slice Ac s.cases.length cc] 27)
    have B0 := SysB.new w #[.slice Ab s.box.length cb, .slice Ar s.rows.length cr, .slice Ag s.graphs.length cg, .slice Ac s.cases.length cc] 27
    have z0 := alloc_lt w (.cells #[.slice Ab s.box.length cb, .slice Ar s.rows.length cr, .slice Ag s.graphs.length cg, .slice Ac s.cases.length cc] 27)
    go_enter Tryz.func16, Tryz.ntmps16
    go_wp2_with fail
    try rw [← World.size_alloc w (.cells #[.slice Ab s.box.length cb, .slice Ar s.rows.length cr, .slice Ag s.graphs.length cg, .slice Ac s.cases.length cc] 27)]
    generalize w.alloc (.cells #[.slice Ab s.box.length cb, .slice Ar s.rows.length cr, .slice Ag s.graphs.length cg, .slice Ac s.cases.length cc] 27) = w0 at *
    generalize w.heap.size = b0 at *
    go_ret
    exact ⟨ret_bool HF.out.symm, k0⟩
  have e3 : decide ((6 : Int) < (s.graphs.length : Int)) = false := decide_eq_false (by omega)
  by_cases h4 : 12 < s.cases.length
  · have e4 : decide ((12 : Int) < (s.cases.length : Int)) = true := decide_eq_true (by omega)
    have HF : Hid (fewB s most = false) := hid (by rw [HC.out, decide_eq_false (show ¬ s.cases.length ≤ 12 by omega)]; simp)
    have k0 := (Kp.refl w).alloc (.cells #[.slice Ab s.box.length cb, .slice Ar s.rows.length cr, .slice Ag s.graphs.length cg, .slice Ac s.cases.length cc] 27)
    have B0 := SysB.new w #[.slice Ab s.box.length cb, .slice Ar s.rows.length cr, .slice Ag s.graphs.length cg, .slice Ac s.cases.length cc] 27
    have z0 := alloc_lt w (.cells #[.slice Ab s.box.length cb, .slice Ar s.rows.length cr, .slice Ag s.graphs.length cg, .slice Ac s.cases.length cc] 27)
    go_enter Tryz.func16, Tryz.ntmps16
    go_wp2_with fail
    try rw [← World.size_alloc w (.cells #[.slice Ab s.box.length cb, .slice Ar s.rows.length cr, .slice Ag s.graphs.length cg, .slice Ac s.cases.length cc] 27)]
    generalize w.alloc (.cells #[.slice Ab s.box.length cb, .slice Ar s.rows.length cr, .slice Ag s.graphs.length cg, .slice Ac s.cases.length cc] 27) = w0 at *
    generalize w.heap.size = b0 at *
    go_ret
    exact ⟨ret_bool HF.out.symm, k0⟩
  have e4 : decide ((12 : Int) < (s.cases.length : Int)) = false := decide_eq_false (by omega)
  have k0 := (Kp.refl w).alloc (.cells #[.slice Ab s.box.length cb, .slice Ar s.rows.length cr, .slice Ag s.graphs.length cg, .slice Ac s.cases.length cc] 27)
  have B0 := SysB.new w #[.slice Ab s.box.length cb, .slice Ar s.rows.length cr, .slice Ag s.graphs.length cg, .slice Ac s.cases.length cc] 27
  have z0 := alloc_lt w (.cells #[.slice Ab s.box.length cb, .slice Ar s.rows.length cr, .slice Ag s.graphs.length cg, .slice Ac s.cases.length cc] 27)
  go_enter Tryz.func16, Tryz.ntmps16
  go_wp2_with fail
  try rw [← World.size_alloc w (.cells #[.slice Ab s.box.length cb, .slice Ar s.rows.length cr, .slice Ag s.graphs.length cg, .slice Ac s.cases.length cc] 27)]
  generalize w.alloc (.cells #[.slice Ab s.box.length cb, .slice Ar s.rows.length cr, .slice Ag s.graphs.length cg, .slice Ac s.cases.length cc] 27) = w0 at *
  generalize w.heap.size = b0 at *
  refine (qValid_any _ s _ (hs.keep k0)).mono ?_
  rintro e w1 ⟨rfl, k1⟩
  replace B0 := B0.keep k1
  replace k1 := k0.trans k1
  obtain ⟨c0, c1, c2, c3⟩ := B0.cells
  have hgl := block_lt_of_cell c0
  cases hV : validS s with
  | false =>
    have HF : Hid (fewB s most = false) := hid (by rw [HC.out, hV]; simp)
    clear hV
    go_wp2
    go_ret
    exact ⟨ret_bool HF.out.symm, k1⟩
  | true =>
    have HD : Hid (fewB s most = (s.cases.all (fun l => decide (l.length ≤ 8)) && decide (sizeB s.box ≤ most))) := hid (by
      rw [HC.out, hV, decide_eq_true (show s.box.length ≤ 12 by omega), decide_eq_true (show s.rows.length ≤ 30 by omega), decide_eq_true (show s.graphs.length ≤ 6 by omega), decide_eq_true (show s.cases.length ≤ 12 by omega)]
      rfl)
    clear hV HC e1 e2 e3 e4
    go_wp2
    go_loopw [5] (fun i wr => ∃ k : Nat, k ≤ s.cases.length ∧ i = .int .i64 k ∧ Hid (s.cases.all (fun l => decide (l.length ≤ 8)) = (s.cases.drop k).all (fun l => decide (l.length ≤ 8))) ∧ Kp w1 wr) (fun i _ => s.cases.length - (intOf i).toNat)
    case atStart => exact ⟨0, Nat.zero_le _, rfl, rfl, Kp.refl _⟩
    case round =>
      obtain ⟨k, hk, rfl, HB, hkr⟩ := hrel
      replace B0 := B0.keep hkr
      have kk := k1.trans hkr
      clear c0 c1 c2 c3 hgl
      obtain ⟨c0, c1, c2, c3⟩ := B0.cells
      have hgl := block_lt_of_cell c0
      by_cases hlt : k < s.cases.length
      · obtain ⟨b, o, A', c', rfl, hb', h1', h2'⟩ := hc.rowsAt hlt
        have d1 := kk.cellS h1'
        have HE := hid (List.drop_eq_getElem_cons hlt)
        clear hb' h1' hs hb hr hg hc
        generalize s.cases[k] = l at *
        obtain ⟨q1, q2⟩ := h2'.caps
        clear h2'
        have j1 : (0 : Int) ≤ k := by omega
        have j2 : (k : Int) < s.cases.length := by omega
        by_cases h : 8 < l.length
        · have e1 : decide ((8 : Int) < (l.length : Int)) = true := decide_eq_true (by omega)
          have HF : Hid (fewB s most = false) := hid (by rw [HD.out, HB.out, HE.out, List.all_cons, decide_eq_false (show ¬ l.length ≤ 8 by omega)]; simp)
          go_wp2
          go_ret
          exact ⟨ret_bool HF.out.symm, kk⟩
        · have e1 : decide ((8 : Int) < (l.length : Int)) = false := decide_eq_false (by omega)
          have HF : Hid (s.cases.all (fun l => decide (l.length ≤ 8)) = (s.cases.drop (k + 1)).all (fun l => decide (l.length ≤ 8))) := hid (by rw [HB.out, HE.out, List.all_cons, decide_eq_true (show l.length ≤ 8 by omega)]; rfl)
          go_wp2
          go_roundw
          case rel => exact ⟨k + 1, by omega, by go_num, HF, hkr⟩
          case measure => simp [intOf]; omega
      · have HF : Hid (fewB s most = decide (sizeB s.box ≤ most)) := hid (by rw [HD.out, HB.out, List.drop_of_length_le (by omega)]; simp)
        go_wp2_with fail
        refine (rSize_any _ s.box _ (hb.keep (pl_stable _) kk)).mono ?_
        rintro e w2 ⟨rfl, k2⟩
        generalize sizeB s.box = z at *
        by_cases hz : z ≤ most
        · have e1 : decide (z ≤ most) = true := decide_eq_true hz
          rw [e1] at HF
          go_wp2
          go_ret
          exact ⟨ret_bool HF.out.symm, kk.trans k2⟩
        · have e1 : decide (z ≤ most) = false := decide_eq_false hz
          rw [e1] at HF
          go_wp2
          go_ret
          exact ⟨ret_bool HF.out.symm, kk.trans k2⟩
end Go.Proofs.YtlbhidiliogflaaGreat
