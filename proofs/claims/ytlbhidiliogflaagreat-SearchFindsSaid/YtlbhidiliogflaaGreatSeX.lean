
/-
Search: the law's few, the reference's Small: the walks.
-/
import Derived.Test.YtlbhidiliogflaaGreatSeV
import Derived.Test.YtlbhidiliogflaaGreatSG
namespace Go.Proofs.YtlbhidiliogflaaGreat
set_option linter.unusedSimpArgs false
set_option linter.unusedVariables false
open Go.RowKit

/-- small enough for the laws -/
def fewL (s : Sys) (most : Int) : Bool := if validS s = true then fewB s most else decide (s.box.length ≤ 20) && (decide (s.rows.length ≤ 30) && (decide (s.graphs.length ≤ 6) && decide (s.cases.length ≤ 12)))
def smallB (b : Int) : Bool := decide (0 ≤ b) && decide (b ≤ 65536)
theorem rSmall_any (b : Int) (w : World) : Calls Tryz.prog 22 #[.int .i64 b] w fun e w' => e = .returned (.bool (smallB b)) ∧ w' = w := by
  have HF : Hid (smallB b = (decide (0 ≤ b) && decide (b ≤ 65536))) := hid rfl
  by_cases h1 : 0 ≤ b
  · have e1 : decide (0 ≤ b) = true := decide_eq_true h1
    by_cases h2 : b ≤ 65536
    · have e2 : decide (b ≤ 65536) = true := decide_eq_true h2
      have HR : Hid (smallB b = true) := hid (by rw [HF.out, e1, e2]; rfl)
      clear HF
      go_enter Tryz.func22, Tryz.ntmps22
      go_wp2
      go_ret
      exact ⟨ret_bool HR.out.symm, rfl⟩
    · have e2 : decide (b ≤ 65536) = false := decide_eq_false h2
      have HR : Hid (smallB b = false) := hid (by rw [HF.out, e1, e2]; rfl)
      clear HF
      go_enter Tryz.func22, Tryz.ntmps22
      go_wp2
      go_ret
      exact ⟨ret_bool HR.out.symm, rfl⟩
  · have e1 : decide (0 ≤ b) = false := decide_eq_false h1
    have HR : Hid (smallB b = false) := hid (by rw [HF.out, e1]; rfl)
    clear HF
    go_enter Tryz.func22, Tryz.ntmps22
    go_wp2
    go_ret
    exact ⟨ret_bool HR.out.symm, rfl⟩
set_option maxRecDepth 8000 in
set_option maxHeartbeats 4000000 in
theorem lawFew_any (va : Value) (s : Sys) (most : Int) (w : World) (hs : SysV w va s) :
    Calls Tryz.prog 5 #[va, .int .i64 most] w fun e w' => e = .returned (.bool (fewL s most)) ∧ Kp w w' := by
  have hs' := hs
  obtain ⟨Ab, cb, Ar, cr, Ag, cg, Ac, cc, rfl, hb, hr, hg, hc⟩ := hs'
  obtain ⟨l1, m1⟩ := hb.caps
  obtain ⟨l2, m2⟩ := hr.caps
  obtain ⟨l3, m3⟩ := hg.caps
  obtain ⟨l4, m4⟩ := hc.caps
  have HF : Hid (fewL s most = if validS s = true then fewB s most else decide (s.box.length ≤ 20) && (decide (s.rows.length ≤ 30) && (decide (s.graphs.length ≤ 6) && decide (s.cases.length ≤ 12)))) := hid rfl
  have k0 := (Kp.refl w).alloc (.cells #[.slice Ab s.box.length cb, .slice Ar s.rows.length cr, .slice Ag s.graphs.length cg, .slice Ac s.cases.length cc] 27)
  have B0 := SysB.new w #[.slice Ab s.box.length cb, .slice Ar s.rows.length cr, .slice Ag s.graphs.length cg, .slice Ac s.cases.length cc] 27
  have z0 := alloc_lt w (.cells #[.slice Ab s.box.length cb, .slice Ar s.rows.length cr, .slice Ag s.graphs.length cg, .slice Ac s.cases.length cc] 27)
  go_enter Tryz.func5, Tryz.ntmps5
  go_wp2_with fail
  try rw [← World.size_alloc w (.cells #[.slice Ab s.box.length cb, .slice Ar s.rows.length cr, .slice Ag s.graphs.length cg, .slice Ac s.cases.length cc] 27)]
  generalize w.alloc (.cells #[.slice Ab s.box.length cb, .slice Ar s.rows.length cr, .slice Ag s.graphs.length cg, .slice Ac s.cases.length cc] 27) = w0 at *
  generalize w.heap.size = b0 at *
  refine (qValid_any _ s _ (hs.keep k0)).mono ?_
  rintro e w1 ⟨rfl, k1⟩
  replace B0 := B0.keep k1
  replace k1 := k0.trans k1
  obtain ⟨c0, c1, c2, c3⟩ := B0.cells
  have hgl := block_lt_of_cell c0
  cases hV : validS s with
  | true =>
    have HR : Hid (fewL s most = fewB s most) := hid (by rw [HF.out, if_pos hV])
    clear hV HF
    go_wp2_with fail
    refine (qFew_any _ s most _ (hs.keep k1)).mono ?_
    rintro e w2 ⟨rfl, k2⟩
    have k12 := k1.trans k2
    rw [← HR.out]
    go_wp2
    go_ret
    exact ⟨rfl, k12⟩
  | false =>
    have HR0 : Hid (fewL s most = (decide (s.box.length ≤ 20) && (decide (s.rows.length ≤ 30) && (decide (s.graphs.length ≤ 6) && decide (s.cases.length ≤ 12))))) := hid (by rw [HF.out, if_neg (by rw [hV]; simp)])
    clear HF
    by_cases h1 : s.box.length ≤ 20
    · have e1 : decide ((s.box.length : Int) ≤ 20) = true := decide_eq_true (by omega)
      by_cases h2 : s.rows.length ≤ 30
      · have e2 : decide ((s.rows.length : Int) ≤ 30) = true := decide_eq_true (by omega)
        by_cases h3 : s.graphs.length ≤ 6
        · have e3 : decide ((s.graphs.length : Int) ≤ 6) = true := decide_eq_true (by omega)
          by_cases h4 : s.cases.length ≤ 12
          · have e4 : decide ((s.cases.length : Int) ≤ 12) = true := decide_eq_true (by omega)
            have HR : Hid (fewL s most = true) := hid (by rw [HR0.out]; simp [h1, h2, h3, h4])
            clear HR0
            clear hV
            go_wp2
            go_ret
            exact ⟨ret_bool HR.out.symm, k1⟩
          · have e4 : decide ((s.cases.length : Int) ≤ 12) = false := decide_eq_false (by omega)
            have HR : Hid (fewL s most = false) := hid (by rw [HR0.out]; simp [h4])
            clear HR0
            clear hV
            go_wp2
            go_ret
            exact ⟨ret_bool HR.out.symm, k1⟩
        · have e3 : decide ((s.graphs.length : Int) ≤ 6) = false := decide_eq_false (by omega)
          have HR : Hid (fewL s most = false) := hid (by rw [HR0.out]; simp [h3])
          clear HR0
          clear hV
          go_wp2
          go_ret
          exact ⟨ret_bool HR.out.symm, k1⟩
      · have e2 : decide ((s.rows.length : Int) ≤ 30) = false := decide_eq_false (by omega)
        have HR : Hid (fewL s most = false) := hid (by rw [HR0.out]; simp [h2])
        clear HR0
        clear hV
        go_wp2
        go_ret
        exact ⟨ret_bool HR.out.symm, k1⟩
    · have e1 : decide ((s.box.length : Int) ≤ 20) = false := decide_eq_false (by omega)
      have HR : Hid (fewL s most = false) := hid (by rw [HR0.out]; simp [h1])
      clear HR0
      clear hV
      go_wp2
      go_ret
      exact ⟨ret_bool HR.out.symm, k1⟩
end Go.Proofs.YtlbhidiliogflaaGreat
