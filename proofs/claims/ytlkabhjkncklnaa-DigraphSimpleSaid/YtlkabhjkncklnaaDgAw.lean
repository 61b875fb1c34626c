
/-
What the laws' own examples of chapter 19 return: true.
-/
import Derived.Test.YtlkabhjkncklnaaDgPd
import Derived.Test.YtlkabhjkncklnaaDgRp
import Derived.Test.YtlkabhjkncklnaaDgK
namespace Go.Proofs.Ytlkabhjkncklnaa
set_option linter.unusedSimpArgs false
set_option linter.unusedVariables false
open Go.RowKit

theorem litB {w : World} (t : TypeId) (l : List Bool) (cs : Array Value) (h : cs.toList = flat encBool l) (hl : l.length ≤ 1000) (n : Nat) (hn : n = l.length) : Bools (w.alloc (.cells cs t)) (.slice (some ⟨w.heap.size, 0, none⟩) n n) l := by
  subst hn
  have h1 := Own.lit encBool (e := t) (size := 1) w cs l (Nat.le_refl _) (by omega) (by have h2 := congrArg List.length h; rw [flat_length encBool_len] at h2; simpa using h2) h
  exact h1.sl encBool_len
def aw1 : List Bool := [false, true, false, true, false, true, false, false, false]
def aw2 : List Bool := [false, true, false, false, false, true, false, false, false]
theorem aw_order1 : orderPub 3 aw1 = ([], false) := by decide +kernel
theorem aw_order2 : orderPub 3 aw2 = ([0, 1, 2], true) := by decide +kernel
theorem aw_cyc : cycQ 3 aw1 = [[0, 1]] := by decide +kernel
theorem aw_acy1 : acyD 3 aw1 = false := by rw [acy_eq]; decide +kernel
theorem aw_acy2 : acyD 3 aw2 = true := by rw [acy_eq]; decide +kernel
theorem aw_path : pathPub 3 aw1 0 2 = [0, 1, 2] := by decide +kernel
theorem aw_forb : forbPub 3 aw2 (List.replicate 9 true) = [0, 3, 4, 6, 7, 8] := by decide +kernel
theorem aw_reach : (reachPub 3 aw1).length = 9 := by rw [reachPub_eq]; decide +kernel
set_option maxRecDepth 8000 in
set_option maxHeartbeats 8000000 in
theorem awake19_any (w : World) : Calls Try.prog 10 #[] w fun e w' => e = .returned (.bool true) ∧ Kp w w' := by
  have b1 := litB (w := w) 4 aw1 #[.bool false, .bool true, .bool false, .bool true, .bool false, .bool true, .bool false, .bool false, .bool false] rfl (by decide) 9 rfl
  have k1 := (Kp.refl w).alloc (.cells #[.bool false, .bool true, .bool false, .bool true, .bool false, .bool true, .bool false, .bool false, .bool false] 4)
  have b2 := litB (w := w.alloc (.cells #[.bool false, .bool true, .bool false, .bool true, .bool false, .bool true, .bool false, .bool false, .bool false] 4)) 4 aw2 #[.bool false, .bool true, .bool false, .bool false, .bool false, .bool true, .bool false, .bool false, .bool false] rfl (by decide) 9 rfl
  have k2 := (Kp.refl (w.alloc (.cells #[.bool false, .bool true, .bool false, .bool true, .bool false, .bool true, .bool false, .bool false, .bool false] 4))).alloc (.cells #[.bool false, .bool true, .bool false, .bool false, .bool false, .bool true, .bool false, .bool false, .bool false] 4)
  have b3 := litB (w := (w.alloc (.cells #[.bool false, .bool true, .bool false, .bool true, .bool false, .bool true, .bool false, .bool false, .bool false] 4)).alloc (.cells #[.bool false, .bool true, .bool false, .bool false, .bool false, .bool true, .bool false, .bool false, .bool false] 4)) 4 [true] #[.bool true] rfl (by decide) 1 rfl
  have k3 := (Kp.refl ((w.alloc (.cells #[.bool false, .bool true, .bool false, .bool true, .bool false, .bool true, .bool false, .bool false, .bool false] 4)).alloc (.cells #[.bool false, .bool true, .bool false, .bool false, .bool false, .bool true, .bool false, .bool false, .bool false] 4))).alloc (.cells #[.bool true] 4)
  have HB1 := hid (b1.keep (pl_stable _) (k2.trans k3))
  have HB2 := hid (b2.keep (pl_stable _) k3)
  have kk := (k1.trans k2).trans k3
  simp only [World.size_alloc] at HB1 HB2 b3
  clear b1 b2 k1 k2 k3
  go_enter Try.func10, Try.ntmps10
  go_wp2_with fail
  generalize ((w.alloc (.cells #[.bool false, .bool true, .bool false, .bool true, .bool false, .bool true, .bool false, .bool false, .bool false] 4)).alloc (.cells #[.bool false, .bool true, .bool false, .bool false, .bool false, .bool true, .bool false, .bool false, .bool false] 4)).alloc (.cells #[.bool true] 4) = w3 at *
  generalize hg : w.heap.size = g at *
  clear hg
  refine (RepeatB_any 9 1 _ w3 (.inr (.inr (.inl rfl))) b3).mono ?_
  rintro e w4 ⟨v4, rfl, own4, k4⟩
  have HB4 := hid (own4.sl encBool_len)
  obtain ⟨A4, c4, e4, -, -⟩ := own4.form
  rw [List.length_replicate] at e4
  subst e4
  clear own4 b3
  go_wp2_with fail
  refine (dOrder_any 3 _ aw1 w4 (HB1.out.keep (pl_stable _) k4)).mono ?_
  rw [aw_order1]
  rintro e w5 ⟨v5, rfl, -, k5⟩
  have k45 := k4.trans k5
  go_wp2_with fail
  refine (dOrder_any 3 _ aw2 w5 (HB2.out.keep (pl_stable _) k45)).mono ?_
  rw [aw_order2]
  rintro e w6 ⟨v6, rfl, h6, k6⟩
  have k46 := k45.trans k6
  obtain ⟨A6, c6, rfl, -, -⟩ := h6.form
  have H6 := hid h6
  clear h6
  go_wp2_with fail
  refine (dCycles_any 3 _ aw1 w6 (HB1.out.keep (pl_stable _) k46)).mono ?_
  rintro e w7 ⟨v7, css, L, rfl, hP, nl, k7⟩
  have hL := (cyc_eq hP).trans aw_cyc
  subst hL
  have hsl := nl.sl
  obtain ⟨A7, c7, rfl, -, -⟩ := nl.form
  obtain ⟨b7, o7, u7, hA7, hb7, i7, h7⟩ := hsl.rdL (k := 0) (by simp)
  subst hA7
  obtain ⟨A8, c8, rfl, -, -⟩ := h7.form
  have H7 := hid h7
  have k47 := k46.trans k7
  rw [Nat.add_zero] at i7
  clear hP nl hsl h7
  go_wp2_with fail
  refine (dAcyclic_any 3 _ aw1 w7 (HB1.out.keep (pl_stable _) k47)).mono ?_
  rw [aw_acy1]
  rintro e w8 ⟨rfl, k8⟩
  have k48 := k47.trans k8
  go_wp2_with fail
  refine (dAcyclic_any 3 _ aw2 w8 (HB2.out.keep (pl_stable _) k48)).mono ?_
  rw [aw_acy2]
  rintro e w9 ⟨rfl, k9⟩
  have k49 := k48.trans k9
  have i9 := (k8.trans k9).cellS i7
  have li9 := litI (w := w9) 3 [0, 1, 2] #[.int .i64 0, .int .i64 1, .int .i64 2] rfl (by simp) 3 rfl
  have ki9 := (Kp.refl w9).alloc (.cells #[.int .i64 0, .int .i64 1, .int .i64 2] 3)
  go_wp2_with fail
  refine (EqualI_any _ _ [0, 1, 2] [0, 1, 2] _ (H6.out.keep (pl_stable _) ((k7.trans (k8.trans k9)).trans ki9)) li9).mono ?_
  rintro e wa ⟨e1, k1⟩
  rw [decide_eq_true rfl] at e1
  subst e1
  have ka := ki9.trans k1
  have k4a := k49.trans ka
  clear li9 ki9 k1
  have ia := ka.cellS i9
  have lia := litI (w := wa) 3 [0, 1] #[.int .i64 0, .int .i64 1] rfl (by simp) 2 rfl
  have kia := (Kp.refl wa).alloc (.cells #[.int .i64 0, .int .i64 1] 3)
  go_wp2_with fail
  refine (EqualI_any _ _ [0, 1] [0, 1] _ (H7.out.keep (pl_stable _) (((k8.trans k9).trans ka).trans kia)) lia).mono ?_
  rintro e wb ⟨e1, k1⟩
  rw [decide_eq_true rfl] at e1
  subst e1
  have kb := kia.trans k1
  have k4b := k4a.trans kb
  clear lia kia k1
  go_wp2_with fail
  refine (dCycle_any 3 _ aw1 wb (HB1.out.keep (pl_stable _) k4b)).mono ?_
  rintro e wc ⟨vc, L, rfl, hP, hi, kc⟩
  have hL := (cyc_eq hP).trans aw_cyc
  subst hL
  obtain ⟨Ac, cc, rfl, -, -⟩ := hi.form
  have HC := hid hi
  have k4c := k4b.trans kc
  clear hP hi
  have lic := litI (w := wc) 3 [0, 1] #[.int .i64 0, .int .i64 1] rfl (by simp) 2 rfl
  have kic := (Kp.refl wc).alloc (.cells #[.int .i64 0, .int .i64 1] 3)
  go_wp2_with fail
  refine (EqualI_any _ _ [0, 1] [0, 1] _ (HC.out.keep (pl_stable _) ((Kp.refl _).trans kic)) lic).mono ?_
  rintro e wd ⟨e1, k1⟩
  rw [decide_eq_true rfl] at e1
  subst e1
  have kd := kic.trans k1
  have k4d := k4c.trans kd
  clear lic kic k1
  go_wp2_with fail
  refine (dPathP_any 3 _ aw1 0 2 wd (HB1.out.keep (pl_stable _) k4d)).mono ?_
  rw [aw_path]
  rintro e we ⟨ve, rfl, hi, ke⟩
  obtain ⟨Ae, ce, rfl, -, -⟩ := hi.form
  have HE := hid hi
  have k4e := k4d.trans ke
  clear hi
  have lie := litI (w := we) 3 [0, 1, 2] #[.int .i64 0, .int .i64 1, .int .i64 2] rfl (by simp) 3 rfl
  have kie := (Kp.refl we).alloc (.cells #[.int .i64 0, .int .i64 1, .int .i64 2] 3)
  go_wp2_with fail
  refine (EqualI_any _ _ [0, 1, 2] [0, 1, 2] _ (HE.out.keep (pl_stable _) ((Kp.refl _).trans kie)) lie).mono ?_
  rintro e wf ⟨e1, k1⟩
  rw [decide_eq_true rfl] at e1
  subst e1
  have kf := kie.trans k1
  have k4f := k4e.trans kf
  clear lie kie k1
  go_wp2_with fail
  refine (dForbid_any 3 _ _ aw2 (List.replicate 9 true) wf (HB2.out.keep (pl_stable _) k4f) (HB4.out.keep (pl_stable _) (k5.trans (k6.trans (k7.trans (k8.trans (k9.trans (ka.trans (kb.trans (kc.trans (kd.trans (ke.trans kf)))))))))))).mono ?_
  rw [aw_forb]
  rintro e wg ⟨vg, rfl, hi, kg⟩
  obtain ⟨Ag, cg, rfl, -, -⟩ := hi.form
  have HG := hid hi
  have k4g := k4f.trans kg
  clear hi
  have lig := litI (w := wg) 3 [0, 3, 4, 6, 7, 8] #[.int .i64 0, .int .i64 3, .int .i64 4, .int .i64 6, .int .i64 7, .int .i64 8] rfl (by simp) 6 rfl
  have kig := (Kp.refl wg).alloc (.cells #[.int .i64 0, .int .i64 3, .int .i64 4, .int .i64 6, .int .i64 7, .int .i64 8] 3)
  go_wp2_with fail
  refine (EqualI_any _ _ [0, 3, 4, 6, 7, 8] [0, 3, 4, 6, 7, 8] _ (HG.out.keep (pl_stable _) ((Kp.refl _).trans kig)) lig).mono ?_
  rintro e wh ⟨e1, k1⟩
  rw [decide_eq_true rfl] at e1
  subst e1
  have kh := kig.trans k1
  have k4h := k4g.trans kh
  clear lig kig k1
  go_wp2_with fail
  refine (dReach_any 3 _ aw1 wh (HB1.out.keep (pl_stable _) k4h)).mono ?_
  rintro e wj ⟨vj, rfl, hi, kj⟩
  obtain ⟨Aj, cj, rfl, -, -⟩ := hi.form
  rw [aw_reach]
  clear hi
  go_wp2
  go_ret
  exact ⟨rfl, kk.trans (k4h.trans kj)⟩
end Go.Proofs.Ytlkabhjkncklnaa
