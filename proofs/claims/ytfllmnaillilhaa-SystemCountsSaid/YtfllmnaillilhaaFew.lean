
/-
The reference of systems: whether a system is small.
-/
import Derived.Test.YtfllmnaillilhaaTB
import Derived.Test.YtfllmnaillilhaaCut18
namespace Go.Proofs.Ytfllmnaillilhaa
set_option linter.unusedSimpArgs false
set_option linter.unusedVariables false
open Go.RowKit

def fewB (s : Sys) (most : Int) : Bool := (((((decide (s.box.length ≤ 12) && decide (s.rows.length ≤ 30)) && decide (s.graphs.length ≤ 6)) && decide (s.cases.length ≤ 12)) && validS s) && s.cases.all (fun l => decide (l.length ≤ 8))) && decide (sizeB s.box ≤ most)
theorem few_parts {s : Sys} {m : Int} (h : fewB s m = true) : s.box.length ≤ 12 ∧ s.rows.length ≤ 30 ∧ s.graphs.length ≤ 6 ∧ s.cases.length ≤ 12 ∧ validS s = true ∧ (∀ l ∈ s.cases, l.length ≤ 8) ∧ sizeB s.box ≤ m := by
  unfold fewB at h
  simp only [Bool.and_eq_true, decide_eq_true_eq, List.all_eq_true] at h
  obtain ⟨⟨⟨⟨⟨⟨h1, h2⟩, h3⟩, h4⟩, h5⟩, h6⟩, h7⟩ := h
  exact ⟨h1, h2, h3, h4, h5, h6, h7⟩
set_option maxRecDepth 8000 in
set_option maxHeartbeats 4000000 in
theorem qFew_any (va : Value) (s : Sys) (most : Int) (w : World) (hs : SysV w va s) :
    Calls Try.prog 18 #[va, .int .i64 most] w fun e w' => e = .returned (.bool (fewB s most)) ∧ Kp w w' := by
  have hs' := hs
  obtain ⟨Ab, cb, Ar, cr, Ag, cg, Ac, cc, rfl, hb, hr, hg, hc⟩ := hs'
  obtain ⟨l1, m1⟩ := hb.caps
  obtain ⟨l2, m2⟩ := hr.caps
  obtain ⟨l3, m3⟩ := hg.caps
  obtain ⟨l4, m4⟩ := hc.caps
  have HC : Hid (fewB s most = ((((((decide (s.box.length ≤ 12) && decide (s.rows.length ≤ 30)) && decide (s.graphs.length ≤ 6)) && decide (s.cases.length ≤ 12)) && validS s) && s.cases.all (fun l => decide (l.length ≤ 8))) && decide (sizeB s.box ≤ most))) := hid rfl
  by_cases h1 : 12 < s.box.length
  · have e1 : decide ((12 : Int) < (s.box.length : Int)) = true := decide_eq_true (by omega)
    have HF : Hid (fewB s most = false) := hid (by rw [HC.out, decide_eq_false (show ¬ s.box.length ≤ 12 by omega)]; simp)
    have k0 := (Kp.refl w).alloc (.cells #[.slice Ab s.box.length cb, .slice Ar s.rows.length cr, .slice Ag s.graphs.length cg, .slice Ac s.cases.length cc] 27)
    have B0 := SysB.new w #[.slice Ab s.box.length cb, .slice Ar s.rows.length cr, .slice Ag s.graphs.length cg, .slice Ac s.cases.length cc] 27
    have z0 := alloc_lt w (.cells #[.slice Ab s.box.length cb, .slice Ar s.rows.length cr, .slice Ag s.graphs.length cg, .slice Ac s.cases.length cc] 27)
    go_enter Try.func18, Try.ntmps18
    go_wp2_with fail
    try rw [← World.size_alloc w (.cells #[.slice Ab s.box.length cb, .slice Ar s.rows.length cr, .slice Ag s.graphs.length cg, .slice Ac s.cases.length cc] 27)]
    generalize w.alloc (.cells #[.slice Ab s.box.length cb, .slice Ar s.rows.length cr, .slice Ag s.graphs.length cg, .slice Ac s.cases.length cc] 27) = w0 at *
    generalize w.heap.size = b0 at *
    go_ret
    exact ⟨ret_bool HF.out.symm, k0⟩
  have e1 : decide ((12 : Int) < (s.box.length : Int)) = false := decide_eq_false (by omega)
  by_cases h2 : 30 < s.rows.length
  · have e2 : decide ((30 : Int) < (s.rows.length : Int)) = true := decide_eq_true (by omega)
    have HF : Hid (fewB s most = false) := hid (by rw [HC.out, decide_eq_false (show ¬ s.rows.length ≤ 30 by omega)]; simp)
    have k0 := (Kp.refl w).alloc (.cells #[.slice Ab s.box.length cb, .slice Ar s.rows.length cr, .slice Ag s.graphs.length cg, .slice Ac s.cases.length cc] 27)
    have B0 := SysB.new w #[.slice Ab s.box.length cb, .slice Ar s.rows.length cr, .slice Ag s.graphs.length cg, .slice Ac s.cases.length cc] 27
    have z0 := alloc_lt w (.cells #[.slice Ab s.box.length cb, .slice Ar s.rows.length cr, .slice Ag s.graphs.length cg, .slice Ac s.cases.length cc] 27)
    go_enter Try.func18, Try.ntmps18
    go_wp2_with fail
    try rw [← World.size_alloc w (.cells #[.slice Ab s.box.length cb, .slice Ar s.rows.length cr, .slice Ag s.graphs.length cg, .slice Ac s.cases.length cc] 27)]
    generalize w.alloc (.cells #[.slice Ab s.box.length cb, .slice Ar s.rows.length cr, .slice Ag s.graphs.length cg, .slice Ac s.cases.length cc] 27) = w0 at *
    generalize w.heap.size = b0 at *
    go_ret
    exact ⟨ret_bool HF.out.symm, k0⟩
  have e2 : decide ((30 : Int) < (s.rows.length : Int)) = false := decide_eq_false (by omega)
  by_cases h3 : 6 < s.graphs.length
  · have e3 : decide ((6 : Int) < (s.graphs.length : Int)) = true := decide_eq_true (by omega)
    have HF : Hid (fewB s most = false) := hid (by rw [HC.out, decide_eq_false (show ¬ s.graphs.length ≤ 6 by omega)]; simp)
    have k0 := (Kp.refl w).alloc (.cells #[.slice Ab s.box.length cb, .slice Ar s.rows.length cr, .slice Ag s.graphs.length cg, .slice Ac s.cases.length cc] 27)
    have B0 := SysB.new w #[.slice Ab s.box.length cb, .slice Ar s.rows.length cr, .slice Ag s.graphs.length cg, .slice Ac s.cases.length cc] 27
    have z0 := alloc_lt w (.cells #[.slice Ab s.box.length cb, .slice Ar s.rows.length cr, .slice Ag s.graphs.length cg, .slice Ac s.cases.length cc] 27)
    go_enter Try.func18, Try.ntmps18
    go_wp2_with fail
    try rw [← World.size_alloc w (.cells #[.slice Ab s.box.length cb, .slice Ar s.rows.length cr, .slice Ag s.graphs.length cg, .slice Ac s.cases.length cc] 27)]
    generalize w.alloc (.cells #[.slice Ab s.box.length cb, .slice Ar s.rows.length cr, .slice Ag s.graphs.length cg, .slice Ac s.cases.length cc] 27) = w0 at *
    generalize w.heap.size = b0 at *
    go_ret
    exact ⟨ret_bool HF.out.symm, k0⟩
  have e3 : decide ((6 : Int) < (s.graphs.length : Int)) = false := decide_eq_false (by omega)
  by_cases h4 : 12 < s.cases.length
  · have e4 : decide ((12 : Int) < (s.cases.length : Int)) = true := decide_eq_true (by omega)
    have HF : Hid (fewB s most = false) := hid (by rw [HC.out, decide_eq_false (show ¬ s.cases.length ≤ 12 by omega)]; simp)
    have k0 := (Kp.refl w).alloc (.cells #[.slice Ab s.box.length cb, .slice Ar s.rows.length cr, .slice Ag s.graphs.length cg, .slice Ac s.cases.length cc] 27)
    have B0 := SysB.new w #[.slice Ab s.box.length cb, .slice Ar s.rows.length cr, .slice Ag s.graphs.length cg, .slice Ac s.cases.length cc] 27
    have z0 := alloc_lt w (.cells #[.slice Ab s.box.length cb, .slice Ar s.rows.length cr, .slice Ag s.graphs.length cg, .slice Ac s.cases.length cc] 27)
    go_enter Try.func18, Try.ntmps18
    go_wp2_with fail
    try rw [← World.size_alloc w (.cells #[.slice Ab s.box.length cb, .slice Ar s.rows.length cr, .slice Ag s.graphs.length cg, .slice Ac s.cases.length cc] 27)]
    generalize w.alloc (.cells #[.slice Ab s.box.length cb, .slice Ar s.rows.length cr, .slice Ag s.graphs.length cg, .slice Ac s.cases.length cc] 27) = w0 at *
    generalize w.heap.size = b0 at *
    go_ret
    exact ⟨ret_bool HF.out.symm, k0⟩
  have e4 : decide ((12 : Int) < (s.cases.length : Int)) = false := decide_eq_false (by omega)
  have k0 := (Kp.refl w).alloc (.cells #[.slice Ab s.box.length cb, .slice Ar s.rows.length cr, .slice Ag s.graphs.length cg, .slice Ac s.cases.length cc] 27)
  have B0 := SysB.new w #[.slice Ab s.box.length cb, .slice Ar s.rows.length cr, .slice Ag s.graphs.length cg, .slice Ac s.cases.length cc] 27
  have z0 := alloc_lt w (.cells #[.slice Ab s.box.length cb, .slice Ar s.rows.length cr, .slice Ag s.graphs.length cg, .slice Ac s.cases.length cc] 27)
  go_enter Try.func18, Try.ntmps18
  go_wp2_with fail
  try rw [← World.size_alloc w (.cells #[.slice Ab s.box.length cb, .slice Ar s.rows.length cr, .slice Ag s.graphs.length cg, .slice Ac s.cases.length cc] 27)]
  generalize w.alloc (.cells #[.slice Ab s.box.length cb, .slice Ar s.rows.length cr, .slice Ag s.graphs.length cg, .slice Ac s.cases.length cc] 27) = w0 at *
  generalize w.heap.size = b0 at *
  refine (qValid_any _ s _ (hs.keep k0)).mono ?_
  rintro e w1 ⟨rfl, k1⟩
  replace B0 := B0.keep k1
  replace k1 := k0.trans k1
  obtain ⟨c0, c1, c2, c3⟩ := B0.cells
  have hgl := block_lt_of_cell c0
  cases hV : validS s with
  | false =>
    have HF : Hid (fewB s most = false) := hid (by rw [HC.out, hV]; simp)
    clear hV
    go_wp2
    go_ret
    exact ⟨ret_bool HF.out.symm, k1⟩
  | true =>
    have HD : Hid (fewB s most = (s.cases.all (fun l => decide (l.length ≤ 8)) && decide (sizeB s.box ≤ most))) := hid (by
      rw [HC.out, hV, decide_eq_true (show s.box.length ≤ 12 by omega), decide_eq_true (show s.rows.length ≤ 30 by omega), decide_eq_true (show s.graphs.length ≤ 6 by omega), decide_eq_true (show s.cases.length ≤ 12 by omega)]
      rfl)
    clear hV HC e1 e2 e3 e4
    go_wp2
    go_loopw [5] (fun i wr => ∃ k : Nat, k ≤ s.cases.length ∧ i = .int .i64 k ∧ Hid (s.cases.all (fun l => decide (l.length ≤ 8)) = (s.cases.drop k).all (fun l => decide (l.length ≤ 8))) ∧ Kp w1 wr) (fun i _ => s.cases.length - (intOf i).toNat)
    case atStart => exact ⟨0, Nat.zero_le _, rfl, rfl, Kp.refl _⟩
    case round =>
      obtain ⟨k, hk, rfl, HB, hkr⟩ := hrel
      replace B0 := B0.keep hkr
      have kk := k1.trans hkr
      clear c0 c1 c2 c3 hgl
      obtain ⟨c0, c1, c2, c3⟩ := B0.cells
      have hgl := block_lt_of_cell c0
      by_cases hlt : k < s.cases.length
      · obtain ⟨b, o, A', c', rfl, hb', h1', h2'⟩ := hc.rowsAt hlt
        have d1 := kk.cellS h1'
        have HE := hid (List.drop_eq_getElem_cons hlt)
        clear hb' h1' hs hb hr hg hc
        generalize s.cases[k] = l at *
        obtain ⟨q1, q2⟩ := h2'.caps
        clear h2'
        have j1 : (0 : Int) ≤ k := by omega
        have j2 : (k : Int) < s.cases.length := by omega
        by_cases h : 8 < l.length
        · have e1 : decide ((8 : Int) < (l.length : Int)) = true := decide_eq_true (by omega)
          have HF : Hid (fewB s most = false) := hid (by rw [HD.out, HB.out, HE.out, List.all_cons, decide_eq_false (show ¬ l.length ≤ 8 by omega)]; simp)
          go_wp2
          go_ret
          exact ⟨ret_bool HF.out.symm, kk⟩
        · have e1 : decide ((8 : Int) < (l.length : Int)) = false := decide_eq_false (by omega)
          have HF : Hid (s.cases.all (fun l => decide (l.length ≤ 8)) = (s.cases.drop (k + 1)).all (fun l => decide (l.length ≤ 8))) := hid (by rw [HB.out, HE.out, List.all_cons, decide_eq_true (show l.length ≤ 8 by omega)]; rfl)
          go_wp2
          go_roundw
          case rel => exact ⟨k + 1, by omega, by go_num, HF, hkr⟩
          case measure => simp [intOf]; omega
      · have HF : Hid (fewB s most = decide (sizeB s.box ≤ most)) := hid (by rw [HD.out, HB.out, List.drop_of_length_le (by omega)]; simp)
        go_wp2_with fail
        refine (rSize_any _ s.box _ (hb.keep (pl_stable _) kk)).mono ?_
        rintro e w2 ⟨rfl, k2⟩
        generalize sizeB s.box = z at *
        by_cases hz : z ≤ most
        · have e1 : decide (z ≤ most) = true := decide_eq_true hz
          rw [e1] at HF
          go_wp2
          go_ret
          exact ⟨ret_bool HF.out.symm, kk.trans k2⟩
        · have e1 : decide (z ≤ most) = false := decide_eq_false hz
          rw [e1] at HF
          go_wp2
          go_ret
          exact ⟨ret_bool HF.out.symm, kk.trans k2⟩
end Go.Proofs.Ytfllmnaillilhaa
