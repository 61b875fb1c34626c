
/-
IntervalTightens: for every row, box and cell the law returns true and leaves its arguments as they were.
-/
import Derived.Test.YtmecjjfpgjpeoaaAwake
import Derived.Test.YtmecjjfpgjpeoaaIntOpen
namespace Go.Proofs.Ytmecjjfpgjpeoaa.lawTightens
open Go.ChangeShapes Go.WideShapes Go.ChangeAt Go.RowKit

set_option maxHeartbeats 1000000 in
theorem walk (vt vb : Value) (r : Row) (b : List Rng) (cell : Int) (w : World) (ht : Terms w vt r.terms) (hb : Rngs w vb b) :
    Calls Try.prog 5 #[.agg #[vt, .int .i64 r.bound], vb, .int .i64 cell] w fun e w' => e = .returned (.bool true) ∧ Kp w w' := by
  obtain ⟨A, c, rfl, hc, hm⟩ := ht.form
  obtain ⟨A', c', rfl, hc', hm'⟩ := hb.form
  obtain ⟨ts, bd⟩ := r
  dsimp only at *
  go_enter Try.func5, Try.ntmps5
  have hk0 := (Kp.refl w).alloc (.cells #[.slice A ts.length c, .int .i64 bd] 41)
  have hg0 := alloc_cell w #[.slice A ts.length c, .int .i64 bd] 41 0 rfl
  have hg1 := alloc_cell w #[.slice A ts.length c, .int .i64 bd] 41 1 rfl
  go_wp2_with fail
  refine (awake_any _).mono ?_
  rintro e w1 ⟨rfl, hk1⟩
  have hbel1 := (hk0).trans hk1
  have c0 : w1.cell? ⟨w.heap.size, 0, none⟩ = some (.slice A ts.length c) := hk1.cellS hg0
  have c1 : w1.cell? ⟨w.heap.size, 1, none⟩ = some (.int .i64 bd) := hk1.cellS hg1
  have l1 : w.heap.size < w1.heap.size := by have := hk1.size; simp at this; omega
  have htS := ht.keep (pl_stable _) hbel1
  have hbS := hb.keep (pl_stable _) hbel1
  clear hg0 hg1 hk1 ht hb
  have heq := fun W a b c d => run_eql_rng W a b c d
  by_cases hbig : 130 < b.length
  · have d1 : decide ((b.length : Int) > 130) = true := by simp; omega
    have d2 : decide (130 < b.length) = true := by simpa using hbig
    go_wp2
    refine wp_region_kw (by kernel_rfl) (by kernel_rfl) ?_
    repeat (go_big_quiet_step ((fail)))
    refine wpQuiet_nil ?_
    intro _ hw'
    obtain ⟨u, hw''⟩ := hw'
    subst hw''
    go_wp2
    go_ret
    exact ⟨rfl, hbel1.trans (kw_kp _ _)⟩
  · have d1 : decide ((b.length : Int) > 130) = false := by simp; omega
    have d2 : decide (130 < b.length) = false := by simp; omega
    have HC1 := hid (fun u => Tighten_any _ _ ⟨ts, bd⟩ b cell (Kw w1 u) (htS.keep (pl_stable _) (kw_kp _ _)) (hbS.keep (pl_stable _) (kw_kp _ _)))
    have HC2 := hid (fun u => rTighten_any _ _ ⟨ts, bd⟩ b cell (Kw w1 u) (htS.keep (pl_stable _) (kw_kp _ _)) (hbS.keep (pl_stable _) (kw_kp _ _)))
    generalize tightenB ⟨ts, bd⟩ b cell = x at *
    obtain ⟨xl, xh⟩ := x
    dsimp only at HC1 HC2
    go_wp2
    refine wp_region_kw (by kernel_rfl) (by kernel_rfl) ?_
    repeat (go_big_quiet_step ((first | (go_at_call 29; exact quiet_kw (HC1.out _)) | (go_at_call 30; exact quiet_kw (HC2.out _)))))
    refine wpQuiet_nil ?_
    intro _ hw'
    obtain ⟨u, hw''⟩ := hw'
    subst hw''
    go_wp2
    go_ret
    exact ⟨rfl, hbel1.trans (kw_kp _ _)⟩

theorem own : ownKnob Try.prog.godebug = none := by kernel_rfl
theorem laidOut : laidOutB Try.prog = true := by kernel_rfl
set_option maxRecDepth 100000 in
theorem lifted (os : Os) (started : os.Started) (H : Type) (enc : TypeId × Value → H) :
    ReturnsInHanded {} Try.checked os 5 .any (Rows.intervalTightensSpec.pre6 enc Try.prog Try.f5 Rows.intervalTightensRow.domain false) (Rows.intervalTightensSpec.post enc Try.prog Try.f5 false true false false) := by
  refine returnsInHanded_of_change (C := Try.checked) own started (by kernel_rfl) Try.func5
    (ChangeSpec.witness6 (enc := enc) (C := Try.checked) false ⟨#[], #[.agg #[.slice none 0 0, .int .i64 0], .slice none 0 0, .int .i64 0], []⟩ 8 (by kernel_rfl) (by kernel_rfl) (by kernel_rfl) (by kernel_rfl)) ?_
  intro W base args ds gs before hval0 hW hcnd _
  have hval : ∀ (j : Nat) t v, Try.f5.params[j]? = some t → args[j]? = some v → Value.okWide Try.prog W .any base t v := hval0
  have hW' := hW
  obtain ⟨p, q, hA0, hV, rfl, hfz, hnd⟩ := hW
  have hA : DataW.TrodAll enc Try.prog W 0 (fun _ => true) true Try.f5.params.toList args.toList ds p := hA0
  rw [Try.params5] at hA hval
  obtain ⟨v0, vs0, d0, ds0, p0, q0, hargs, rfl, rfl, h0, r0⟩ := trodAll_cons hA
  obtain ⟨v1, vs1, d1, ds1, p1, q1, rfl, rfl, rfl, h1, r1⟩ := trodAll_cons r0
  obtain ⟨v2, vs2, d2, ds2, p2, q2, rfl, rfl, rfl, h2, r2⟩ := trodAll_cons r1
  obtain ⟨rfl, rfl, rfl⟩ := trodAll_nil r2
  obtain rfl : args = #[v0, v1, v2] := by cases args; simp_all
  obtain ⟨rfl, rfl⟩ := trodVars_none hV
  have lt0 : ∀ x ∈ p0, x.block < W.heap.size := by obtain ⟨m, hm⟩ := h0; exact DataW.trod_lt m _ _ _ hm
  have lt1 : ∀ x ∈ p1, x.block < W.heap.size := by obtain ⟨m, hm⟩ := h1; exact DataW.trod_lt m _ _ _ hm
  have lt2 : ∀ x ∈ p2, x.block < W.heap.size := by obtain ⟨m, hm⟩ := h2; exact DataW.trod_lt m _ _ _ hm
  obtain ⟨c0, e0, y0, z0, n0, rfl, -, -, hy0, hz0⟩ := Joins.open_agg2 Try.underlying41 (by kernel_rfl) (by kernel_rfl) (hval 0 41 v0 rfl rfl) h0
  obtain ⟨x0, hx0⟩ := opTerms hy0
  obtain ⟨bd0, rfl⟩ := opField_int Try.underlying3 hz0
  obtain ⟨a1, len1, cap1, rfl⟩ := okWide_slice Try.underlying22 (hval 1 22 v1 rfl rfl)
  obtain ⟨n1, hn1⟩ := trod_slice_value h1
  obtain ⟨x1, hx1⟩ := opRngs hn1
  obtain ⟨x2, rfl, -, -, wx2⟩ := open_int Try.underlying3 (hval 2 3 v2 rfl rfl) h2
  clear hA0 hval0
  refine (walk _ _ ⟨x0, bd0⟩ x1 x2 W hx0 hx1).mono fun e W' ⟨he, bel⟩ => ?_
  subst he
  exact ⟨_, rfl, _, _, _, [], _, [], hW', trodAll_mk1 (shut_bool Try.underlying4 _), (trodAll_cons_mk (Below.trod laidOut (by kernel_rfl) (of_decide_eq_true (by kernel_rfl)) h0 bel lt0) (trodAll_cons_mk (Below.trod laidOut (by kernel_rfl) (of_decide_eq_true (by kernel_rfl)) h1 bel lt1) (trodAll_cons_mk (Below.trod laidOut (by kernel_rfl) (of_decide_eq_true (by kernel_rfl)) h2 bel lt2) trodAll_mk0))), rfl, Below.frame bel _, fun h => by cases h⟩
theorem over : Rows.intervalTightensRow.holds Try.pinned (OpenSpec.ofChange Rows.intervalTightensSpec) :=
  OpenClaim.holds_of_wide 5 Try.f5 rfl rfl rfl rfl rfl rfl rfl ⟨rfl, rfl, rfl, rfl, rfl⟩ rfl rfl rfl rfl rfl (by kernel_rfl) Try.func5 (by kernel_rfl)
    (of_decide_eq_true (by kernel_rfl)) (by unfold Func.isWrapper; first | (rw [if_pos (by decide +kernel)]; kernel_rfl) | (rw [if_neg (by decide +kernel)]; exact ⟨rfl, rfl⟩))
    (fun os started H enc _ => lifted os started H enc)
theorem proved : Rows.IntervalTightensSaid := over
end Go.Proofs.Ytmecjjfpgjpeoaa.lawTightens
