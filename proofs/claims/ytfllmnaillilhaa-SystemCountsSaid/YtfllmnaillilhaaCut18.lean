
/-
Whether a system is small enough for the laws: the walk.
-/
import Derived.Test.YtfllmnaillilhaaSA
namespace Go.Proofs.Ytfllmnaillilhaa
set_option linter.unusedSimpArgs false
set_option linter.unusedVariables false
open Go.RowKit

def cutB (s : Sys) : Bool := (s.graphs.all (fun g => decide (g.least.length ≤ 40)) && s.cases.all (fun c => decide (c.length ≤ 70))) && (((decide (s.box.length ≤ 130) && decide (s.rows.length ≤ 40)) && decide (s.graphs.length ≤ 70)) && decide (s.cases.length ≤ 20))
theorem cut_rows {s : Sys} (h : cutB s = true) : s.box.length ≤ 130 ∧ s.rows.length ≤ 40 ∧ s.graphs.length ≤ 70 ∧ s.cases.length ≤ 20 := by
  unfold cutB at h
  simp only [Bool.and_eq_true, decide_eq_true_eq] at h
  obtain ⟨-, ⟨⟨h1, h2⟩, h3⟩, h4⟩ := h
  exact ⟨h1, h2, h3, h4⟩
set_option maxRecDepth 8000 in
set_option maxHeartbeats 4000000 in
theorem cut18_any (va : Value) (s : Sys) (w : World) (hs : SysV w va s) :
    Calls Try.prog 10 #[va] w fun e w' => e = .returned (.bool (cutB s)) ∧ Kp w w' := by
  have hs' := hs
  obtain ⟨Ab, cb, Ar, cr, Ag, cg, Ac, cc, rfl, hb, hr, hg, hc⟩ := hs'
  obtain ⟨l1, m1⟩ := hb.caps
  obtain ⟨l2, m2⟩ := hr.caps
  obtain ⟨l3, m3⟩ := hg.caps
  obtain ⟨l4, m4⟩ := hc.caps
  have HC : Hid (cutB s = ((s.graphs.all (fun g => decide (g.least.length ≤ 40)) && s.cases.all (fun c => decide (c.length ≤ 70))) && (((decide (s.box.length ≤ 130) && decide (s.rows.length ≤ 40)) && decide (s.graphs.length ≤ 70)) && decide (s.cases.length ≤ 20)))) := hid rfl
  have k0 := (Kp.refl w).alloc (.cells #[.slice Ab s.box.length cb, .slice Ar s.rows.length cr, .slice Ag s.graphs.length cg, .slice Ac s.cases.length cc] 27)
  have B0 := SysB.new w #[.slice Ab s.box.length cb, .slice Ar s.rows.length cr, .slice Ag s.graphs.length cg, .slice Ac s.cases.length cc] 27
  have z0 := alloc_lt w (.cells #[.slice Ab s.box.length cb, .slice Ar s.rows.length cr, .slice Ag s.graphs.length cg, .slice Ac s.cases.length cc] 27)
  go_enter Try.func10, Try.ntmps10
  go_wp2_with fail
  try rw [← World.size_alloc w (.cells #[.slice Ab s.box.length cb, .slice Ar s.rows.length cr, .slice Ag s.graphs.length cg, .slice Ac s.cases.length cc] 27)]
  generalize w.alloc (.cells #[.slice Ab s.box.length cb, .slice Ar s.rows.length cr, .slice Ag s.graphs.length cg, .slice Ac s.cases.length cc] 27) = w0 at *
  generalize w.heap.size = b0 at *
  obtain ⟨c0, c1, c2, c3⟩ := B0.cells
  have hgl := block_lt_of_cell c0
  go_loopw [10] (fun i wr => ∃ k : Nat, k ≤ s.graphs.length ∧ i = .int .i64 k ∧ Hid (s.graphs.all (fun g => decide (g.least.length ≤ 40)) = (s.graphs.drop k).all (fun g => decide (g.least.length ≤ 40))) ∧ Kp w0 wr) (fun i _ => s.graphs.length - (intOf i).toNat)
  case atStart => exact ⟨0, Nat.zero_le _, rfl, rfl, Kp.refl _⟩
  case round =>
    obtain ⟨k, hk, rfl, HB, hkr⟩ := hrel
    by_cases hlt : k < s.graphs.length
    · obtain ⟨b, o, A', c', rfl, hb', h1', h2', h3', h4⟩ := hg.gr hlt
      have kk := k0.trans hkr
      have h1 := kk.cellS h1'
      have h2 := kk.cellS h2'
      have h3 := kk.cellS h3'
      have HD := hid (List.drop_eq_getElem_cons hlt)
      clear hb' h1' h2' h3' hs hb hr hg hc
      generalize s.graphs[k] = g at *
      obtain ⟨fi, sz, le⟩ := g
      dsimp only at h1 h2 h3 h4
      obtain ⟨q1, q2⟩ := h4.caps
      clear h4
      by_cases h : 40 < le.length
      · have e1 : decide ((40 : Int) < (le.length : Int)) = true := decide_eq_true (by omega)
        have HF : Hid (cutB s = false) := hid (by rw [HC.out, HB.out, HD.out, List.all_cons, decide_eq_false (show ¬ le.length ≤ 40 by omega)]; simp)
        go_wp2
        go_ret
        exact ⟨ret_bool HF.out.symm, kk.alloc _⟩
      · have e1 : decide ((40 : Int) < (le.length : Int)) = false := decide_eq_false (by omega)
        have HF : Hid (s.graphs.all (fun g => decide (g.least.length ≤ 40)) = (s.graphs.drop (k + 1)).all (fun g => decide (g.least.length ≤ 40))) := hid (by rw [HB.out, HD.out, List.all_cons, decide_eq_true (show le.length ≤ 40 by omega)]; rfl)
        go_wp2
        go_roundw
        case rel => exact ⟨k + 1, by omega, by go_num, HF, hkr.alloc _⟩
        case measure => simp [intOf]; omega
    · have HF : Hid (cutB s = (s.cases.all (fun c => decide (c.length ≤ 70)) && (((decide (s.box.length ≤ 130) && decide (s.rows.length ≤ 40)) && decide (s.graphs.length ≤ 70)) && decide (s.cases.length ≤ 20)))) := hid (by rw [HC.out, HB.out, List.drop_of_length_le (by omega)]; simp)
      have k1 := k0.trans hkr
      replace B0 := B0.keep hkr
      obtain ⟨w1, hw1⟩ : ∃ w1 : World, w1 = wr := ⟨_, rfl⟩
      subst hw1
      clear HC HB c0 c1 c2 c3 hgl hkr
      obtain ⟨c0, c1, c2, c3⟩ := B0.cells
      have hgl := block_lt_of_cell c0
      go_wp2
      go_loopw [22] (fun i wr => ∃ k : Nat, k ≤ s.cases.length ∧ i = .int .i64 k ∧ Hid (s.cases.all (fun c => decide (c.length ≤ 70)) = (s.cases.drop k).all (fun c => decide (c.length ≤ 70))) ∧ Kp w1 wr) (fun i _ => s.cases.length - (intOf i).toNat)
      case atStart => exact ⟨0, Nat.zero_le _, rfl, rfl, Kp.refl _⟩
      case round =>
        obtain ⟨k, hk, rfl, HB, hkr⟩ := hrel
        have kk := k1.trans hkr
        by_cases hlt : k < s.cases.length
        · obtain ⟨b, o, A', c', rfl, hb', h1', h2'⟩ := hc.rowsAt hlt
          have h1 := kk.cellS h1'
          have HD := hid (List.drop_eq_getElem_cons hlt)
          clear hb' h1' hs hb hr hg hc
          generalize s.cases[k] = l at *
          obtain ⟨q1, q2⟩ := h2'.caps
          clear h2'
          by_cases h : 70 < l.length
          · have e1 : decide ((70 : Int) < (l.length : Int)) = true := decide_eq_true (by omega)
            have HE : Hid (cutB s = false) := hid (by rw [HF.out, HB.out, HD.out, List.all_cons, decide_eq_false (show ¬ l.length ≤ 70 by omega)]; simp)
            go_wp2
            go_ret
            exact ⟨ret_bool HE.out.symm, kk⟩
          · have e1 : decide ((70 : Int) < (l.length : Int)) = false := decide_eq_false (by omega)
            have HE : Hid (s.cases.all (fun c => decide (c.length ≤ 70)) = (s.cases.drop (k + 1)).all (fun c => decide (c.length ≤ 70))) := hid (by rw [HB.out, HD.out, List.all_cons, decide_eq_true (show l.length ≤ 70 by omega)]; rfl)
            go_wp2
            go_roundw
            case rel => exact ⟨k + 1, by omega, by go_num, HE, hkr⟩
            case measure => simp [intOf]; omega
        · have HE : Hid (cutB s = (((decide (s.box.length ≤ 130) && decide (s.rows.length ≤ 40)) && decide (s.graphs.length ≤ 70)) && decide (s.cases.length ≤ 20))) := hid (by rw [HF.out, HB.out, List.drop_of_length_le (by omega)]; simp)
          replace B0 := B0.keep hkr
          clear HF HB c0 c1 c2 c3 hgl hkr
          obtain ⟨c0, c1, c2, c3⟩ := B0.cells
          have hgl := block_lt_of_cell c0
          have p1 : decide (s.box.length ≤ 130) = decide ((s.box.length : Int) ≤ 130) := by rw [decide_eq_decide]; omega
          have p2 : decide (s.rows.length ≤ 40) = decide ((s.rows.length : Int) ≤ 40) := by rw [decide_eq_decide]; omega
          have p3 : decide (s.graphs.length ≤ 70) = decide ((s.graphs.length : Int) ≤ 70) := by rw [decide_eq_decide]; omega
          have p4 : decide (s.cases.length ≤ 20) = decide ((s.cases.length : Int) ≤ 20) := by rw [decide_eq_decide]; omega
          rw [p1, p2, p3, p4] at HE
          clear p1 p2 p3 p4
          by_cases g1 : (s.box.length : Int) ≤ 130
          · have d1 : decide ((s.box.length : Int) ≤ 130) = true := decide_eq_true g1
            by_cases g2 : (s.rows.length : Int) ≤ 40
            · have d2 : decide ((s.rows.length : Int) ≤ 40) = true := decide_eq_true g2
              by_cases g3 : (s.graphs.length : Int) ≤ 70
              · have d3 : decide ((s.graphs.length : Int) ≤ 70) = true := decide_eq_true g3
                by_cases g4 : (s.cases.length : Int) ≤ 20
                · have d4 : decide ((s.cases.length : Int) ≤ 20) = true := decide_eq_true g4
                  rw [d1, d2, d3, d4] at HE
                  go_wp2
                  go_ret
                  exact ⟨ret_bool HE.out.symm, kk⟩
                · have d4 : decide ((s.cases.length : Int) ≤ 20) = false := decide_eq_false g4
                  rw [d1, d2, d3, d4] at HE
                  go_wp2
                  go_ret
                  exact ⟨ret_bool HE.out.symm, kk⟩
              · have d3 : decide ((s.graphs.length : Int) ≤ 70) = false := decide_eq_false g3
                rw [d1, d2, d3] at HE
                go_wp2
                go_ret
                exact ⟨ret_bool (by rw [HE.out]; simp), kk⟩
            · have d2 : decide ((s.rows.length : Int) ≤ 40) = false := decide_eq_false g2
              rw [d1, d2] at HE
              go_wp2
              go_ret
              exact ⟨ret_bool (by rw [HE.out]; simp), kk⟩
          · have d1 : decide ((s.box.length : Int) ≤ 130) = false := decide_eq_false g1
            rw [d1] at HE
            go_wp2
            go_ret
            exact ⟨ret_bool (by rw [HE.out]; simp), kk⟩
end Go.Proofs.Ytfllmnaillilhaa
