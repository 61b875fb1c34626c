/-
The reference's Few at the zero Model: the walks with every list nil.
The reference's Few (of events) at the zero Model: the walk.
-/
import Derived.Test.YtcddllaljgfjbaaCsA
namespace Go.Proofs.Ytcddllaljgfjbaa
set_option linter.unusedSimpArgs false
set_option linter.unusedVariables false
open Go.RowKit

theorem iMo : (Try.prog.info? 80).map (·.size) = some (#[.slice none 0 0, .slice none 0 0, .slice none 0 0, .slice none 0 0, .slice none 0 0, .slice none 0 0, .slice none 0 0] : Array Value).toList.length := by kernel_rfl
theorem rSound_nil (w : World) : Calls Try.prog 89 #[.slice none 0 0] w fun x w' => x = .returned (.bool true) ∧ Kp w w' := by
  go_enter Try.func89, Try.ntmps89
  go_wp2
  go_loopw [3] (fun i wi => i = .int .i64 0 ∧ wi = w) (fun _ _ => 0)
  case atStart => exact ⟨rfl, rfl⟩
  case round =>
    obtain ⟨rfl, rfl⟩ := hrel
    go_wp2
    go_ret
    exact ⟨rfl, Kp.refl _⟩
theorem rValid9_nil (w : World) : Calls Try.prog 77 #[.slice none 0 0, .slice none 0 0] w fun x w' => x = .returned (.bool true) ∧ Kp w w' := by
  have C1 := hid (rSound_nil w)
  go_enter Try.func77, Try.ntmps77
  go_wp2_with fail
  refine C1.out.mono ?_
  rintro z w1 ⟨rfl, k1⟩
  go_wp2
  go_loopw [5, 6, 7] (fun a b i wi => a = .int .i64 0 ∧ b = .int .i64 0 ∧ i = .int .i64 0 ∧ wi = w1) (fun _ _ _ _ => 0)
  case atStart => exact ⟨rfl, rfl, rfl, rfl⟩
  case round =>
    obtain ⟨rfl, rfl, rfl, rfl⟩ := hrel
    go_wp2
    go_ret
    exact ⟨rfl, k1⟩
theorem rDistinct_nil (w : World) (A : Option Addr) (c : Nat) : Calls Try.prog 78 #[.slice A 0 c] w fun x w' => x = .returned (.bool true) ∧ Kp w w' := by
  go_enter Try.func78, Try.ntmps78
  go_wp2
  go_loopw [3] (fun i wi => i = .int .i64 0 ∧ wi = w) (fun _ _ => 0)
  case atStart => exact ⟨rfl, rfl⟩
  case round =>
    obtain ⟨rfl, rfl⟩ := hrel
    go_wp2
    go_ret
    exact ⟨rfl, Kp.refl _⟩
theorem rRanges_nil (w : World) (b : Bool) : Calls Try.prog 105 #[.slice none 0 0, .slice none 0 0, .bool b] w fun x w' => ∃ A c, x = .returned (.slice A 0 c) ∧ Kp w w' := by
  go_enter Try.func105, Try.ntmps105
  have k0 := (Kp.refl w).alloc (.cells #[] 111)
  have C1 := hid (rValid9_nil (w.alloc (.cells #[] 111)))
  go_wp2_with fail
  refine C1.out.mono ?_
  rintro z w1 ⟨rfl, k1⟩
  have k2 := k0.trans k1
  clear k0 C1 k1
  generalize w.alloc (.cells #[] 111) = w0 at *
  go_wp2
  go_loopw [7, 8] (fun a i wi => a = .slice (some ⟨w.heap.size, 0, none⟩) 0 0 ∧ i = .int .i64 0 ∧ wi = w1) (fun _ _ _ => 0)
  case atStart => exact ⟨rfl, rfl, rfl⟩
  case round =>
    obtain ⟨rfl, rfl, rfl⟩ := hrel
    go_wp2
    go_ret
    exact ⟨_, _, rfl, k2⟩
set_option maxRecDepth 8000 in
theorem rStrictR_zero (w : World) : Calls Try.prog 94 #[.agg #[.slice none 0 0, .slice none 0 0, .slice none 0 0, .slice none 0 0, .slice none 0 0, .slice none 0 0, .slice none 0 0]] w fun x w' => ∃ A c, x = .returned (.slice A 0 c) ∧ Kp w w' := by
  have hB := Bx.new w #[.slice none 0 0, .slice none 0 0, .slice none 0 0, .slice none 0 0, .slice none 0 0, .slice none 0 0, .slice none 0 0] 80
  have k0 := (Kp.refl w).alloc (.cells #[.slice none 0 0, .slice none 0 0, .slice none 0 0, .slice none 0 0, .slice none 0 0, .slice none 0 0, .slice none 0 0] 80)
  have gl := hB.lt (by simp)
  go_enter Try.func94, Try.ntmps94
  go_upto_region 1 with (fail)
  generalize w.heap.size = g at *
  generalize w.alloc (.cells #[.slice none 0 0, .slice none 0 0, .slice none 0 0, .slice none 0 0, .slice none 0 0, .slice none 0 0, .slice none 0 0] 80) = w0 at *
  have z0 := hB.cell (j := 0) (u := .slice none 0 0) rfl
  have z1 := hB.cell (j := 1) (u := .slice none 0 0) rfl
  have z2 := hB.cell (j := 2) (u := .slice none 0 0) rfl
  have z3 := hB.cell (j := 3) (u := .slice none 0 0) rfl
  have z4 := hB.cell (j := 4) (u := .slice none 0 0) rfl
  have z5 := hB.cell (j := 5) (u := .slice none 0 0) rfl
  have z6 := hB.cell (j := 6) (u := .slice none 0 0) rfl
  have C1 := hid (rRanges_nil w0 true)
  go_wp2_with fail
  refine C1.out.mono ?_
  rintro z w1 ⟨A, c, rfl, k1⟩
  go_wp2
  go_ret
  exact ⟨_, _, rfl, k0.trans k1⟩
set_option maxRecDepth 8000 in
theorem rCons_zero (w : World) : Calls Try.prog 79 #[.agg #[.slice none 0 0, .slice none 0 0, .slice none 0 0, .slice none 0 0, .slice none 0 0, .slice none 0 0, .slice none 0 0]] w fun x w' => x = .returned (.bool true) ∧ Kp w w' := by
  have hB := Bx.new w #[.slice none 0 0, .slice none 0 0, .slice none 0 0, .slice none 0 0, .slice none 0 0, .slice none 0 0, .slice none 0 0] 80
  have k0 := (Kp.refl w).alloc (.cells #[.slice none 0 0, .slice none 0 0, .slice none 0 0, .slice none 0 0, .slice none 0 0, .slice none 0 0, .slice none 0 0] 80)
  have gl := hB.lt (by simp)
  go_enter Try.func79, Try.ntmps79
  go_upto_region 1 with (fail)
  generalize w.heap.size = g at *
  generalize w.alloc (.cells #[.slice none 0 0, .slice none 0 0, .slice none 0 0, .slice none 0 0, .slice none 0 0, .slice none 0 0, .slice none 0 0] 80) = w0 at *
  have z0 := hB.cell (j := 0) (u := .slice none 0 0) rfl
  have z1 := hB.cell (j := 1) (u := .slice none 0 0) rfl
  have z2 := hB.cell (j := 2) (u := .slice none 0 0) rfl
  have z3 := hB.cell (j := 3) (u := .slice none 0 0) rfl
  have z4 := hB.cell (j := 4) (u := .slice none 0 0) rfl
  have z5 := hB.cell (j := 5) (u := .slice none 0 0) rfl
  have z6 := hB.cell (j := 6) (u := .slice none 0 0) rfl
  have C1 := hid (rStrictR_zero w0)
  go_wp2_with (first | (refine wpl_load_mid_g (by simp [Region.wanted, yielded]) 80 (.tmp 1) rfl g 0 rfl _ _ hB.range Try.underlying80 rfl iMo ?_) | fail)
  refine C1.out.mono ?_
  rintro z w1 ⟨A, c, rfl, k1⟩
  replace z3 := k1.cellS z3
  go_wp2
  go_loopw [4] (fun i wi => i = .int .i64 0 ∧ wi = w1) (fun _ _ => 0)
  case atStart => exact ⟨rfl, rfl⟩
  case round =>
    obtain ⟨rfl, rfl⟩ := hrel
    go_wp2
    go_loopw [7] (fun i wi => i = .int .i64 0 ∧ wi = wr) (fun _ _ => 0)
    case atStart => exact ⟨rfl, rfl⟩
    case round =>
      obtain ⟨rfl, rfl⟩ := hrel
      go_wp2
      go_ret
      exact ⟨rfl, k0.trans k1⟩
set_option maxRecDepth 8000 in
theorem rActions_zero (w : World) : Calls Try.prog 80 #[.agg #[.slice none 0 0, .slice none 0 0, .slice none 0 0, .slice none 0 0, .slice none 0 0, .slice none 0 0, .slice none 0 0]] w fun x w' => x = .returned (.bool true) ∧ Kp w w' := by
  have hB := Bx.new w #[.slice none 0 0, .slice none 0 0, .slice none 0 0, .slice none 0 0, .slice none 0 0, .slice none 0 0, .slice none 0 0] 80
  have k0 := (Kp.refl w).alloc (.cells #[.slice none 0 0, .slice none 0 0, .slice none 0 0, .slice none 0 0, .slice none 0 0, .slice none 0 0, .slice none 0 0] 80)
  have gl := hB.lt (by simp)
  go_enter Try.func80, Try.ntmps80
  go_upto_region 1 with (fail)
  generalize w.heap.size = g at *
  generalize w.alloc (.cells #[.slice none 0 0, .slice none 0 0, .slice none 0 0, .slice none 0 0, .slice none 0 0, .slice none 0 0, .slice none 0 0] 80) = w0 at *
  have z0 := hB.cell (j := 0) (u := .slice none 0 0) rfl
  have z1 := hB.cell (j := 1) (u := .slice none 0 0) rfl
  have z2 := hB.cell (j := 2) (u := .slice none 0 0) rfl
  have z3 := hB.cell (j := 3) (u := .slice none 0 0) rfl
  have z4 := hB.cell (j := 4) (u := .slice none 0 0) rfl
  have z5 := hB.cell (j := 5) (u := .slice none 0 0) rfl
  have z6 := hB.cell (j := 6) (u := .slice none 0 0) rfl
  generalize Bx.lt hB (by simp) = gl2
  have k1 := (Kp.refl w0).alloc (.cells #[] 9)
  go_upto_region 2 with (fail)
  obtain ⟨w1, hw1⟩ : ∃ w1, w1 = w0.alloc (.cells #[] 9) := ⟨_, rfl⟩
  rw [← hw1] at k1
  rw [← hw1]
  generalize w0.heap.size = g1 at *
  replace z4 := k1.cellS z4
  replace z5 := k1.cellS z5
  clear z0 z1 z2 z3 z6 hw1 hB
  have C1 := hid (rDistinct_nil w1 (some ⟨g1, 0, none⟩) 0)
  go_wp2_with fail
  go_loopw [3, 4] (fun a i wi => a = .slice (some ⟨g1, 0, none⟩) 0 0 ∧ i = .int .i64 0 ∧ wi = w1) (fun _ _ _ => 0)
  case atStart => exact ⟨rfl, rfl, rfl⟩
  case round =>
    obtain ⟨rfl, rfl, rfl⟩ := hrel
    go_wp2_with fail
    refine C1.out.mono ?_
    rintro z w2 ⟨rfl, k2⟩
    replace z4 := k2.cellS z4
    replace z5 := k2.cellS z5
    go_wp2
    go_loopw [7] (fun i wi => i = .int .i64 0 ∧ wi = w2) (fun _ _ => 0)
    case atStart => exact ⟨rfl, rfl⟩
    case round =>
      obtain ⟨rfl, rfl⟩ := hrel
      go_wp2
      go_ret
      exact ⟨rfl, (k0.trans k1).trans k2⟩
set_option maxRecDepth 8000 in
theorem rHidden_zero (w : World) : Calls Try.prog 81 #[.agg #[.slice none 0 0, .slice none 0 0, .slice none 0 0, .slice none 0 0, .slice none 0 0, .slice none 0 0, .slice none 0 0]] w fun x w' => x = .returned (.bool true) ∧ Kp w w' := by
  have hB := Bx.new w #[.slice none 0 0, .slice none 0 0, .slice none 0 0, .slice none 0 0, .slice none 0 0, .slice none 0 0, .slice none 0 0] 80
  have k0 := (Kp.refl w).alloc (.cells #[.slice none 0 0, .slice none 0 0, .slice none 0 0, .slice none 0 0, .slice none 0 0, .slice none 0 0, .slice none 0 0] 80)
  have gl := hB.lt (by simp)
  go_enter Try.func81, Try.ntmps81
  go_upto_region 1 with (fail)
  generalize w.heap.size = g at *
  generalize w.alloc (.cells #[.slice none 0 0, .slice none 0 0, .slice none 0 0, .slice none 0 0, .slice none 0 0, .slice none 0 0, .slice none 0 0] 80) = w0 at *
  have z0 := hB.cell (j := 0) (u := .slice none 0 0) rfl
  have z1 := hB.cell (j := 1) (u := .slice none 0 0) rfl
  have z2 := hB.cell (j := 2) (u := .slice none 0 0) rfl
  have z3 := hB.cell (j := 3) (u := .slice none 0 0) rfl
  have z4 := hB.cell (j := 4) (u := .slice none 0 0) rfl
  have z5 := hB.cell (j := 5) (u := .slice none 0 0) rfl
  have z6 := hB.cell (j := 6) (u := .slice none 0 0) rfl
  go_wp2
  go_loopw [3] (fun i wi => i = .int .i64 0 ∧ wi = w0) (fun _ _ => 0)
  case atStart => exact ⟨rfl, rfl⟩
  case round =>
    obtain ⟨rfl, rfl⟩ := hrel
    go_wp2
    go_loopw [7] (fun i wi => i = .int .i64 0 ∧ wi = wr) (fun _ _ => 0)
    case atStart => exact ⟨rfl, rfl⟩
    case round =>
      obtain ⟨rfl, rfl⟩ := hrel
      go_wp2
      go_ret
      exact ⟨rfl, k0⟩
set_option maxRecDepth 8000 in
theorem rValid13_zero (w : World) : Calls Try.prog 59 #[.agg #[.slice none 0 0, .slice none 0 0, .slice none 0 0, .slice none 0 0, .slice none 0 0, .slice none 0 0, .slice none 0 0]] w fun x w' => x = .returned (.bool true) ∧ Kp w w' := by
  have hB := Bx.new w #[.slice none 0 0, .slice none 0 0, .slice none 0 0, .slice none 0 0, .slice none 0 0, .slice none 0 0, .slice none 0 0] 80
  have k0 := (Kp.refl w).alloc (.cells #[.slice none 0 0, .slice none 0 0, .slice none 0 0, .slice none 0 0, .slice none 0 0, .slice none 0 0, .slice none 0 0] 80)
  have gl := hB.lt (by simp)
  go_enter Try.func59, Try.ntmps59
  go_upto_region 1 with (fail)
  generalize w.heap.size = g at *
  generalize w.alloc (.cells #[.slice none 0 0, .slice none 0 0, .slice none 0 0, .slice none 0 0, .slice none 0 0, .slice none 0 0, .slice none 0 0] 80) = w0 at *
  have z0 := hB.cell (j := 0) (u := .slice none 0 0) rfl
  have z1 := hB.cell (j := 1) (u := .slice none 0 0) rfl
  have z2 := hB.cell (j := 2) (u := .slice none 0 0) rfl
  have z3 := hB.cell (j := 3) (u := .slice none 0 0) rfl
  have z4 := hB.cell (j := 4) (u := .slice none 0 0) rfl
  have z5 := hB.cell (j := 5) (u := .slice none 0 0) rfl
  have z6 := hB.cell (j := 6) (u := .slice none 0 0) rfl
  have C1 := hid (rValid9_nil w0)
  have HB := hid (fun W (k : Kp w0 W) => (hB.kp k gl).range)
  go_wp2_with fail
  refine C1.out.mono ?_
  rintro z w1 ⟨rfl, k1⟩
  replace z2 := k1.cellS z2
  have C2 := hid (rDistinct_nil w1 none 0)
  go_wp2_with fail
  refine C2.out.mono ?_
  rintro z w2 ⟨rfl, k2⟩
  replace k2 := k1.trans k2
  have C3 := hid (rCons_zero w2)
  have h2 := HB.out _ k2
  go_wp2_with (first | (refine wpl_load_mid_g (by simp [Region.wanted, yielded]) 80 (.tmp 1) rfl g 0 rfl _ _ h2 Try.underlying80 rfl iMo ?_) | fail)
  refine C3.out.mono ?_
  rintro z w3 ⟨rfl, k3⟩
  replace k3 := k2.trans k3
  have C4 := hid (rActions_zero w3)
  have h3 := HB.out _ k3
  go_wp2_with (first | (refine wpl_load_mid_g (by simp [Region.wanted, yielded]) 80 (.tmp 1) rfl g 0 rfl _ _ h3 Try.underlying80 rfl iMo ?_) | fail)
  refine C4.out.mono ?_
  rintro z w4 ⟨rfl, k4⟩
  replace k4 := k3.trans k4
  have C5 := hid (rHidden_zero w4)
  have h4 := HB.out _ k4
  go_wp2_with (first | (refine wpl_load_mid_g (by simp [Region.wanted, yielded]) 80 (.tmp 1) rfl g 0 rfl _ _ h4 Try.underlying80 rfl iMo ?_) | fail)
  refine C5.out.mono ?_
  rintro z w5 ⟨rfl, k5⟩
  replace k5 := k4.trans k5
  go_wp2
  go_ret
  exact ⟨rfl, k0.trans k5⟩
set_option maxRecDepth 8000 in
theorem rStrict_zero (w : World) : Calls Try.prog 60 #[.agg #[.slice none 0 0, .slice none 0 0, .slice none 0 0, .slice none 0 0, .slice none 0 0, .slice none 0 0, .slice none 0 0]] w fun x w' => x = .returned (.int .i64 0) ∧ Kp w w' := by
  have hB := Bx.new w #[.slice none 0 0, .slice none 0 0, .slice none 0 0, .slice none 0 0, .slice none 0 0, .slice none 0 0, .slice none 0 0] 80
  have k0 := (Kp.refl w).alloc (.cells #[.slice none 0 0, .slice none 0 0, .slice none 0 0, .slice none 0 0, .slice none 0 0, .slice none 0 0, .slice none 0 0] 80)
  have gl := hB.lt (by simp)
  go_enter Try.func60, Try.ntmps60
  go_upto_region 1 with (fail)
  generalize w.heap.size = g at *
  generalize w.alloc (.cells #[.slice none 0 0, .slice none 0 0, .slice none 0 0, .slice none 0 0, .slice none 0 0, .slice none 0 0, .slice none 0 0] 80) = w0 at *
  have z0 := hB.cell (j := 0) (u := .slice none 0 0) rfl
  have z1 := hB.cell (j := 1) (u := .slice none 0 0) rfl
  have z2 := hB.cell (j := 2) (u := .slice none 0 0) rfl
  have z3 := hB.cell (j := 3) (u := .slice none 0 0) rfl
  have z4 := hB.cell (j := 4) (u := .slice none 0 0) rfl
  have z5 := hB.cell (j := 5) (u := .slice none 0 0) rfl
  have z6 := hB.cell (j := 6) (u := .slice none 0 0) rfl
  go_wp2
  go_loopw [3, 4] (fun a i wi => a = .int .i64 0 ∧ i = .int .i64 0 ∧ wi = w0) (fun _ _ _ => 0)
  case atStart => exact ⟨rfl, rfl, rfl⟩
  case round =>
    obtain ⟨rfl, rfl, rfl⟩ := hrel
    go_wp2
    go_ret
    exact ⟨rfl, k0⟩
set_option maxRecDepth 8000 in
theorem rMerged_zero (w : World) : Calls Try.prog 61 #[.agg #[.slice none 0 0, .slice none 0 0, .slice none 0 0, .slice none 0 0, .slice none 0 0, .slice none 0 0, .slice none 0 0]] w fun x w' => ∃ A c, x = .returned (.slice A 0 c) ∧ Kp w w' := by
  have hB := Bx.new w #[.slice none 0 0, .slice none 0 0, .slice none 0 0, .slice none 0 0, .slice none 0 0, .slice none 0 0, .slice none 0 0] 80
  have k0 := (Kp.refl w).alloc (.cells #[.slice none 0 0, .slice none 0 0, .slice none 0 0, .slice none 0 0, .slice none 0 0, .slice none 0 0, .slice none 0 0] 80)
  have gl := hB.lt (by simp)
  go_enter Try.func61, Try.ntmps61
  go_upto_region 1 with (fail)
  generalize w.heap.size = g at *
  generalize w.alloc (.cells #[.slice none 0 0, .slice none 0 0, .slice none 0 0, .slice none 0 0, .slice none 0 0, .slice none 0 0, .slice none 0 0] 80) = w0 at *
  have z0 := hB.cell (j := 0) (u := .slice none 0 0) rfl
  have z1 := hB.cell (j := 1) (u := .slice none 0 0) rfl
  have z2 := hB.cell (j := 2) (u := .slice none 0 0) rfl
  have z3 := hB.cell (j := 3) (u := .slice none 0 0) rfl
  have z4 := hB.cell (j := 4) (u := .slice none 0 0) rfl
  have z5 := hB.cell (j := 5) (u := .slice none 0 0) rfl
  have z6 := hB.cell (j := 6) (u := .slice none 0 0) rfl
  have k1 := (Kp.refl w0).alloc (.cells #[] 113)
  go_upto_region 2 with (fail)
  obtain ⟨w1, hw1⟩ : ∃ w1, w1 = w0.alloc (.cells #[] 113) := ⟨_, rfl⟩
  rw [← hw1] at k1
  rw [← hw1]
  generalize w0.heap.size = g1 at *
  replace z1 := k1.cellS z1
  clear z0 z2 z3 z4 z5 z6 hw1 hB
  go_wp2
  go_loopw [3, 4] (fun a i wi => a = .slice (some ⟨g1, 0, none⟩) 0 0 ∧ i = .int .i64 0 ∧ wi = w1) (fun _ _ _ => 0)
  case atStart => exact ⟨rfl, rfl, rfl⟩
  case round =>
    obtain ⟨rfl, rfl, rfl⟩ := hrel
    go_wp2
    go_ret
    exact ⟨_, _, rfl, k0.trans k1⟩
end Go.Proofs.Ytcddllaljgfjbaa
namespace Go.Proofs.Ytcddllaljgfjbaa
set_option linter.unusedSimpArgs false
set_option linter.unusedVariables false
open Go.RowKit

def Few32R (l : List Ev) (w : World) (x : Ending) (w' : World) : Prop := ∃ r, x = .returned (.bool r) ∧ (r = true → l.length ≤ 60 ∧ ∀ e ∈ l, e.past.length ≤ 8) ∧ Kp w w'
theorem few32_no {l : List Ev} {w w' : World} (k : Kp w w') : Few32R l w (.returned (.bool false)) w' := ⟨false, rfl, (fun h => by cases h), k⟩
set_option maxRecDepth 8000 in
set_option maxHeartbeats 4000000 in
theorem rFew32_zero (l : List Ev) (v : Value) (w : World) (hS : Evs w v l) : Calls Try.prog 31 #[.agg #[.slice none 0 0, .slice none 0 0, .slice none 0 0, .slice none 0 0, .slice none 0 0, .slice none 0 0, .slice none 0 0], v] w (Few32R l w) := by
  obtain ⟨A, ca, rfl, hca, hma⟩ := hS.form
  have hB := Bx.new w #[.slice none 0 0, .slice none 0 0, .slice none 0 0, .slice none 0 0, .slice none 0 0, .slice none 0 0, .slice none 0 0] 80
  have k0 := (Kp.refl w).alloc (.cells #[.slice none 0 0, .slice none 0 0, .slice none 0 0, .slice none 0 0, .slice none 0 0, .slice none 0 0, .slice none 0 0] 80)
  have gl := hB.lt (by simp)
  have HS := hid hS
  clear hS
  obtain ⟨m, hm⟩ : ∃ m, m = l.length := ⟨_, rfl⟩
  rw [← hm] at hca ⊢
  by_cases g0 : m ≤ 60
  · have e0 : decide ((60 : Int) < (m : Int)) = false := decide_eq_false (by omega)
    replace hm := hid hm
    go_enter Try.func31, Try.ntmps31
    go_upto_region 1 with (fail)
    generalize w.heap.size = g at *
    generalize w.alloc (.cells #[.slice none 0 0, .slice none 0 0, .slice none 0 0, .slice none 0 0, .slice none 0 0, .slice none 0 0, .slice none 0 0] 80) = w0 at *
    have HB := hid (fun W (k : Kp w0 W) => (hB.kp k gl).range)
    have z0 := hB.cell (j := 0) (u := .slice none 0 0) rfl
    have z1 := hB.cell (j := 1) (u := .slice none 0 0) rfl
    have z3 := hB.cell (j := 3) (u := .slice none 0 0) rfl
    have z4 := hB.cell (j := 4) (u := .slice none 0 0) rfl
    have z5 := hB.cell (j := 5) (u := .slice none 0 0) rfl
    have C1 := hid (rValid13_zero w0)
    have h1 := hB.range
    clear hB
    go_wp2_with (first | (refine wpl_load_mid_g (by simp [Region.wanted, yielded]) 80 (.tmp 2) rfl g 0 rfl _ _ h1 Try.underlying80 rfl iMo ?_) | fail)
    refine C1.out.mono ?_
    rintro z w1 ⟨rfl, k1⟩
    replace z0 := k1.cellS z0
    replace z1 := k1.cellS z1
    clear h1 z3 z4 C1
    replace z5 := k1.cellS z5
    go_wp2_with fail
    go_loopw [5] (fun i wi => i = .int .i64 0 ∧ wi = w1) (fun _ _ => 0)
    case atStart => exact ⟨rfl, rfl⟩
    case round =>
      obtain ⟨rfl, rfl⟩ := hrel
      go_wp2_with fail
      go_loopw [6] (fun i wi => i = .int .i64 0 ∧ wi = wr) (fun _ _ => 0)
      case atStart => exact ⟨rfl, rfl⟩
      case round =>
        obtain ⟨rfl, rfl⟩ := hrel
        go_upto_region 13 with (fail)
        clear z0 z1
        refine G2.wp_region_growT Kp [] 6 224 (G2.pvL [G2.eqv (.agg #[.slice none 0 0, .slice none 0 0, .slice none 0 0, .slice none 0 0, .slice none 0 0, .slice none 0 0, .slice none 0 0]), G2.eqv (.int .i64 0), G2.eqv (.agg #[.slice none 0 0, .slice none 0 0, .slice none 0 0, .slice none 0 0, .slice none 0 0, .slice none 0 0, .slice none 0 0]), (fun x W => ∃ A c, x = .slice A 0 c), G2.eqv (.int .i64 0), G2.eqv (.int .i64 0)]) (by kernel_rfl) (by kernel_rfl) rfl (fun x => Kp.refl x) (fun _ _ _ h k => h.trans k) (Kp.refl _).drew (by intro _ _ _ _ _ h; exact h) (G2.pvL_keep (G2.stabL_cons (G2.stab_eq _) (G2.stabL_cons (G2.stab_eq _) (G2.stabL_cons (G2.stab_eq _) (G2.stabL_cons (fun _ _ _ h _ => h) (G2.stabL_cons (G2.stab_eq _) (G2.stabL_cons (G2.stab_eq _) (G2.stabL_nil)))))))) (G2.stepsT_cons 0 ?_ (G2.stepsT_cons 1 ?_ (G2.stepsT_cons 2 ?_ (G2.stepsT_cons 3 ?_ (G2.stepsT_cons 4 ?_ (G2.stepsT_cons 5 ?_ (G2.stepsT_nil _ _ _))))))) ?_ ?_
        · intro a w' hk hF hD K hK
          have h2 : a.tmps[2]?.getD undef = .pointer (some ⟨g, 0, none⟩) := hF 2 (by kernel_rfl)
          clear hF hD
          rw [if_pos (by simp [Region.wanted])]
          refine wp_load_mid 80 (.tmp 2) rfl g 0 ((eval_tmp _ _).trans h2) _ _ (HB.out _ (k1.trans hk)) Try.underlying80 rfl iMo ?_
          exact hK.out _ _ (Kp.refl _) rfl
        · intro a w' hk hF hD K hK
          have h123 : a.tmps[123]?.getD undef = .agg #[.slice none 0 0, .slice none 0 0, .slice none 0 0, .slice none 0 0, .slice none 0 0, .slice none 0 0, .slice none 0 0] := hD 0 (by kernel_rfl)
          clear hF hD
          go_simp
          refine (rStrict_zero _).mono ?_
          rintro e w9 ⟨rfl, k9⟩
          exact hK.out _ _ k9 rfl
        · intro a w' hk hF hD K hK
          have h2 : a.tmps[2]?.getD undef = .pointer (some ⟨g, 0, none⟩) := hF 2 (by kernel_rfl)
          clear hF hD
          rw [if_pos (by simp [Region.wanted])]
          refine wp_load_mid 80 (.tmp 2) rfl g 0 ((eval_tmp _ _).trans h2) _ _ (HB.out _ (k1.trans hk)) Try.underlying80 rfl iMo ?_
          exact hK.out _ _ (Kp.refl _) rfl
        · intro a w' hk hF hD K hK
          have h125 : a.tmps[125]?.getD undef = .agg #[.slice none 0 0, .slice none 0 0, .slice none 0 0, .slice none 0 0, .slice none 0 0, .slice none 0 0, .slice none 0 0] := hD 2 (by kernel_rfl)
          clear hF hD
          go_simp
          refine (rMerged_zero _).mono ?_
          rintro e w9 ⟨A, c, rfl, k9⟩
          exact hK.out _ _ k9 ⟨A, c, rfl⟩
        · intro a w' hk hF hD K hK
          have h126 : (fun x W => ∃ A c, x = .slice A 0 c) (a.tmps[126]?.getD undef) w' := hD 3 (by kernel_rfl)
          clear hF hD
          obtain ⟨A0, c0, h126⟩ := h126
          go_simp
          exact hK.out _ _ (Kp.refl _) rfl
        · intro a w' hk hF hD K hK
          have h124 : a.tmps[124]?.getD undef = .int .i64 0 := hD 1 (by kernel_rfl)
          clear hF hD
          go_simp
          exact hK.out _ _ (Kp.refl _) rfl
        · exact fun i0 hi0 => by simp at hi0
        intro v w9 k9 hv
        have v4 : v 4 = .int .i64 0 := hv 4 (by omega)
        have v5 : v 5 = .int .i64 0 := hv 5 (by omega)
        clear hv
        simp only [G2.growPut, G2.gSlot, List.getElem?_toArray, List.getElem?_cons_zero, List.getElem?_cons_succ, Option.bind_some, List.setIfInBounds_toArray, List.set_cons_zero, List.set_cons_succ, List.drop_succ_cons, List.drop_zero, v4, v5]
        have k2 := k1.trans k9
        replace z5 := k9.cellS z5
        go_wp2_with fail
        go_loopw [9] (fun i wi => i = .int .i64 0 ∧ wi = w9) (fun _ _ => 0)
        case atStart => exact ⟨rfl, rfl⟩
        case round =>
          obtain ⟨rfl, rfl⟩ := hrel
          go_wp2_with fail
          have kf := k0.trans k2
          clear z5 k0 k1 k2 k9 HB gl
          go_loopw [13] (fun i wi => ∃ k : Nat, k ≤ m ∧ i = .int .i64 (k : Int) ∧ Hid (∀ e ∈ l.take k, e.past.length ≤ 8) ∧ wi = wr) (fun i _ => m - (intOf i).toNat)
          case atStart => exact ⟨0, Nat.zero_le _, rfl, hid (by simp), rfl⟩
          case round =>
            obtain ⟨k, hk, rfl, HF, rfl⟩ := hrel
            by_cases hlt : k < m
            · have hkl : (k : Int) < (m : Int) := by omega
              have hlt2 : k < l.length := by rw [← hm.out]; exact hlt
              obtain ⟨b, o, u, rfl, hb, hr, hu⟩ := Sl.evAt (HS.out.keep rdEv_stable kf) hlt2
              have HT := hid (List.take_succ_eq_append_getElem hlt2)
              generalize l[k] = x at *
              obtain ⟨Av, cv, rfl, hcv, hmv⟩ := hu.form
              have i3 := hr 3 (.slice Av x.past.length cv) rfl
              clear hr hlt2
              by_cases g2 : x.past.length ≤ 8
              · have e2 : decide ((8 : Int) < (x.past.length : Int)) = false := decide_eq_false (by omega)
                have HF2 : Hid (∀ e ∈ l.take (k + 1), e.past.length ≤ 8) := hid (fun y hy => by
                  rw [HT.out] at hy
                  rcases List.mem_append.1 hy with hy | hy
                  · exact HF.out y hy
                  · obtain rfl : y = x := by simpa using hy
                    exact g2)
                go_wp2
                go_roundw
                case rel => exact ⟨k + 1, by omega, by go_num, HF2, trivial⟩
                case measure => simp [intOf]; omega
              · have e2 : decide ((8 : Int) < (x.past.length : Int)) = true := decide_eq_true (by omega)
                go_wp2
                go_ret
                exact few32_no kf
            · have hkl : ¬ (k : Int) < (m : Int) := by omega
              have HX : Hid (l.length ≤ 60 ∧ ∀ e ∈ l, e.past.length ≤ 8) := hid ⟨by rw [← hm.out]; exact g0, by
                have e : k = l.length := by rw [← hm.out]; omega
                have := HF.out
                rw [e, List.take_length] at this
                exact this⟩
              go_wp2
              go_ret
              exact ⟨true, rfl, fun _ => HX.out, kf⟩
  · have e0 : decide ((60 : Int) < (m : Int)) = true := decide_eq_true (by omega)
    replace hm := hid hm
    go_enter Try.func31, Try.ntmps31
    go_upto_region 1 with (fail)
    generalize w.heap.size = g at *
    generalize w.alloc (.cells #[.slice none 0 0, .slice none 0 0, .slice none 0 0, .slice none 0 0, .slice none 0 0, .slice none 0 0, .slice none 0 0] 80) = w0 at *
    have z0 := hB.cell (j := 0) (u := .slice none 0 0) rfl
    have z1 := hB.cell (j := 1) (u := .slice none 0 0) rfl
    have z3 := hB.cell (j := 3) (u := .slice none 0 0) rfl
    have z4 := hB.cell (j := 4) (u := .slice none 0 0) rfl
    have z5 := hB.cell (j := 5) (u := .slice none 0 0) rfl
    clear hB
    go_wp2
    go_ret
    exact few32_no k0
end Go.Proofs.Ytcddllaljgfjbaa
