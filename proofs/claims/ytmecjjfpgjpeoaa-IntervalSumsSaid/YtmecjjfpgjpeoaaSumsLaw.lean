
/-
IntervalSums: for every row and box the law returns true and leaves its arguments as they were.
-/
import Derived.Test.YtmecjjfpgjpeoaaAwake
import Derived.Test.YtmecjjfpgjpeoaaIntOpen
namespace Go.Proofs.Ytmecjjfpgjpeoaa.lawSums
open Go.ChangeShapes Go.WideShapes Go.ChangeAt Go.RowKit

set_option maxHeartbeats 1000000 in
theorem walk (vt vb : Value) (r : Row) (b : List Rng) (w : World) (ht : Terms w vt r.terms) (hb : Rngs w vb b) :
    Calls Try.prog 4 #[.agg #[vt, .int .i64 r.bound], vb] w fun e w' => e = .returned (.bool true) ∧ Kp w w' := by
  obtain ⟨A, c, rfl, hc, hm⟩ := ht.form
  obtain ⟨A', c', rfl, hc', hm'⟩ := hb.form
  obtain ⟨ts, bd⟩ := r
  dsimp only at *
  go_enter Try.func4, Try.ntmps4
  have hk0 := (Kp.refl w).alloc (.cells #[.slice A ts.length c, .int .i64 bd] 41)
  have hg0 := alloc_cell w #[.slice A ts.length c, .int .i64 bd] 41 0 rfl
  have hg1 := alloc_cell w #[.slice A ts.length c, .int .i64 bd] 41 1 rfl
  go_wp2_with fail
  refine (awake_any _).mono ?_
  rintro e w1 ⟨rfl, hk1⟩
  have hbel1 := (hk0).trans hk1
  have c0 : w1.cell? ⟨w.heap.size, 0, none⟩ = some (.slice A ts.length c) := hk1.cellS hg0
  have c1 : w1.cell? ⟨w.heap.size, 1, none⟩ = some (.int .i64 bd) := hk1.cellS hg1
  clear hg0 hg1 hk1
  by_cases hbig : 130 < b.length
  · go_wp2
    go_ret
    exact ⟨rfl, hbel1⟩
  · go_wp2_with fail
    refine (Sum_any _ _ ⟨ts, bd⟩ b _ (ht.keep (pl_stable _) hbel1) (hb.keep (pl_stable _) hbel1)).mono ?_
    rintro e w2 ⟨rfl, hk2⟩
    have hbel2 := (hbel1).trans hk2
    have d0 := hk2.cellS c0
    have d1 := hk2.cellS c1
    clear c0 c1 hk2
    go_wp2_with fail
    refine (rSum_any _ _ ⟨ts, bd⟩ b _ (ht.keep (pl_stable _) hbel2) (hb.keep (pl_stable _) hbel2)).mono ?_
    rintro e w3 ⟨rfl, hk3⟩
    have hbel3 := (hbel2).trans hk3
    generalize (sumB ⟨ts, bd⟩ b).1 = x at *
    generalize (sumB ⟨ts, bd⟩ b).2 = y at *
    clear d0 d1 hk3
    go_wp2
    go_ret
    exact ⟨rfl, hbel3⟩

theorem own : ownKnob Try.prog.godebug = none := by kernel_rfl
theorem laidOut : laidOutB Try.prog = true := by kernel_rfl
set_option maxRecDepth 100000 in
theorem lifted (os : Os) (started : os.Started) (H : Type) (enc : TypeId × Value → H) :
    ReturnsInHanded {} Try.checked os 4 .any (Rows.intervalSumsSpec.pre6 enc Try.prog Try.f4 Rows.intervalSumsRow.domain false) (Rows.intervalSumsSpec.post enc Try.prog Try.f4 false true false false) := by
  refine returnsInHanded_of_change (C := Try.checked) own started (by kernel_rfl) Try.func4
    (ChangeSpec.witness6 (enc := enc) (C := Try.checked) false ⟨#[], #[.agg #[.slice none 0 0, .int .i64 0], .slice none 0 0], []⟩ 8 (by kernel_rfl) (by kernel_rfl) (by kernel_rfl) (by kernel_rfl)) ?_
  intro W base args ds gs before hval0 hW hcnd _
  have hval : ∀ (j : Nat) t v, Try.f4.params[j]? = some t → args[j]? = some v → Value.okWide Try.prog W .any base t v := hval0
  have hW' := hW
  obtain ⟨p, q, hA0, hV, rfl, hfz, hnd⟩ := hW
  have hA : DataW.TrodAll enc Try.prog W 0 (fun _ => true) true Try.f4.params.toList args.toList ds p := hA0
  rw [Try.params4] at hA hval
  obtain ⟨v0, vs0, d0, ds0, p0, q0, hargs, rfl, rfl, h0, r0⟩ := trodAll_cons hA
  obtain ⟨v1, vs1, d1, ds1, p1, q1, rfl, rfl, rfl, h1, r1⟩ := trodAll_cons r0
  obtain ⟨rfl, rfl, rfl⟩ := trodAll_nil r1
  obtain rfl : args = #[v0, v1] := by cases args; simp_all
  obtain ⟨rfl, rfl⟩ := trodVars_none hV
  have lt0 : ∀ x ∈ p0, x.block < W.heap.size := by obtain ⟨m, hm⟩ := h0; exact DataW.trod_lt m _ _ _ hm
  have lt1 : ∀ x ∈ p1, x.block < W.heap.size := by obtain ⟨m, hm⟩ := h1; exact DataW.trod_lt m _ _ _ hm
  obtain ⟨c0, c1, y0, y1, n0, rfl, -, -, hy0, hy1⟩ := Joins.open_agg2 Try.underlying41 (by kernel_rfl) (by kernel_rfl) (hval 0 41 v0 rfl rfl) h0
  obtain ⟨ts, ht⟩ := opTerms hy0
  obtain ⟨bd, rfl⟩ := opField_int Try.underlying3 hy1
  obtain ⟨a1, len1, cap1, rfl⟩ := okWide_slice Try.underlying22 (hval 1 22 v1 rfl rfl)
  obtain ⟨n1, hn1⟩ := trod_slice_value h1
  obtain ⟨b, hb⟩ := opRngs hn1
  clear hA0 hval0
  refine (walk c0 _ ⟨ts, bd⟩ b W ht hb).mono fun e W' ⟨he, bel⟩ => ?_
  subst he
  exact ⟨_, rfl, _, _, _, [], _, [], hW', trodAll_mk1 (shut_bool Try.underlying4 _), (trodAll_cons_mk (Below.trod laidOut (by kernel_rfl) (of_decide_eq_true (by kernel_rfl)) h0 bel lt0) (trodAll_cons_mk (Below.trod laidOut (by kernel_rfl) (of_decide_eq_true (by kernel_rfl)) h1 bel lt1) trodAll_mk0)), rfl, Below.frame bel _, fun h => by cases h⟩
theorem over : Rows.intervalSumsRow.holds Try.pinned (OpenSpec.ofChange Rows.intervalSumsSpec) :=
  OpenClaim.holds_of_wide 4 Try.f4 rfl rfl rfl rfl rfl rfl rfl ⟨rfl, rfl, rfl, rfl, rfl⟩ rfl rfl rfl rfl rfl (by kernel_rfl) Try.func4 (by kernel_rfl)
    (of_decide_eq_true (by kernel_rfl)) (by unfold Func.isWrapper; first | (rw [if_pos (by decide +kernel)]; kernel_rfl) | (rw [if_neg (by decide +kernel)]; exact ⟨rfl, rfl⟩))
    (fun os started H enc _ => lifted os started H enc)
theorem proved : Rows.IntervalSumsSaid := over
end Go.Proofs.Ytmecjjfpgjpeoaa.lawSums
