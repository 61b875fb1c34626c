
/-
BrokerOrder: for all priorities the law returns true and leaves its arguments as they were.
-/
import Derived.Test.YtbcekihjcgnhkaaBkQ
import Derived.Test.YtbcekihjcgnhkaaBkOpen
namespace Go.Proofs.Ytbcekihjcgnhkaa.lawOrder41
set_option linter.unusedSimpArgs false
set_option linter.unusedVariables false
open Go.ChangeShapes Go.WideShapes Go.ChangeAt Go.RowKit

set_option maxRecDepth 8000 in
set_option maxHeartbeats 8000000 in
theorem walk (a b c : Pr) (w : World) : Calls Try.prog 3 #[prV a, prV b, prV c] w fun e w' => e = .returned (.bool true) ∧ Kp w w' := by
  obtain ⟨a1, a2, a3, a4⟩ := a
  obtain ⟨b1, b2, b3, b4⟩ := b
  obtain ⟨c1, c2, c3, c4⟩ := c
  have hA := ((Bx.new w #[.int .i64 a1, .int .i64 a2, .int .i64 a3, .int .i64 a4] 23).keep (heap_alloc_old _ (.cells #[.int .i64 b1, .int .i64 b2, .int .i64 b3, .int .i64 b4] 23) (by simp))).keep (heap_alloc_old _ (.cells #[.int .i64 c1, .int .i64 c2, .int .i64 c3, .int .i64 c4] 23) (by simp; omega))
  have hB := (Bx.new (w.alloc (.cells #[.int .i64 a1, .int .i64 a2, .int .i64 a3, .int .i64 a4] 23)) #[.int .i64 b1, .int .i64 b2, .int .i64 b3, .int .i64 b4] 23).keep (heap_alloc_old _ (.cells #[.int .i64 c1, .int .i64 c2, .int .i64 c3, .int .i64 c4] 23) (by simp))
  have hC := Bx.new ((w.alloc (.cells #[.int .i64 a1, .int .i64 a2, .int .i64 a3, .int .i64 a4] 23)).alloc (.cells #[.int .i64 b1, .int .i64 b2, .int .i64 b3, .int .i64 b4] 23)) #[.int .i64 c1, .int .i64 c2, .int .i64 c3, .int .i64 c4] 23
  simp only [World.size_alloc] at hA hB hC
  have kw := (((Kp.refl w).alloc (.cells #[.int .i64 a1, .int .i64 a2, .int .i64 a3, .int .i64 a4] 23)).alloc (.cells #[.int .i64 b1, .int .i64 b2, .int .i64 b3, .int .i64 b4] 23)).alloc (.cells #[.int .i64 c1, .int .i64 c2, .int .i64 c3, .int .i64 c4] 23)
  go_enter Try.func3, Try.ntmps3
  go_upto_region 1 with (fail)
  generalize ((w.alloc (.cells #[.int .i64 a1, .int .i64 a2, .int .i64 a3, .int .i64 a4] 23)).alloc (.cells #[.int .i64 b1, .int .i64 b2, .int .i64 b3, .int .i64 b4] 23)).alloc (.cells #[.int .i64 c1, .int .i64 c2, .int .i64 c3, .int .i64 c4] 23) = w1 at *
  generalize w.heap.size = k0 at *
  go_wp2_with fail
  refine (awake41_any w1).mono ?_
  rintro e w2 ⟨rfl, k2⟩
  have A0 := hA.cell (j := 0) rfl
  have A1 := hA.cell (j := 1) rfl
  have A2 := hA.cell (j := 2) rfl
  have A3 := hA.cell (j := 3) rfl
  have B0 := hB.cell (j := 0) rfl
  have B1 := hB.cell (j := 1) rfl
  have B2 := hB.cell (j := 2) rfl
  have B3 := hB.cell (j := 3) rfl
  have C0 := hC.cell (j := 0) rfl
  have C1 := hC.cell (j := 1) rfl
  have C2 := hC.cell (j := 2) rfl
  have C3 := hC.cell (j := 3) rfl
  replace hA := hA.keep ((k2).block (hA.lt (by simp)))
  replace hB := hB.keep ((k2).block (hB.lt (by simp)))
  replace hC := hC.keep ((k2).block (hC.lt (by simp)))
  replace kw := kw.trans k2
  clear A0 A1 A2 A3 B0 B1 B2 B3 C0 C1 C2 C3
  have A0 := hA.cell (j := 0) rfl
  have A1 := hA.cell (j := 1) rfl
  have A2 := hA.cell (j := 2) rfl
  have A3 := hA.cell (j := 3) rfl
  have B0 := hB.cell (j := 0) rfl
  have B1 := hB.cell (j := 1) rfl
  have B2 := hB.cell (j := 2) rfl
  have B3 := hB.cell (j := 3) rfl
  have C0 := hC.cell (j := 0) rfl
  have C1 := hC.cell (j := 1) rfl
  have C2 := hC.cell (j := 2) rfl
  have C3 := hC.cell (j := 3) rfl
  have heq := fun W => run_eql_pr W (a1, a2, a3, a4) (b1, b2, b3, b4)
  have HT := hid (fun h k => lessB_trans (a := (a1, a2, a3, a4)) (b := (b1, b2, b3, b4)) (c := (c1, c2, c3, c4)) h k)
  have HP : Hid (a1 ≠ 0 → b1 = 0 → lessB (a1, a2, a3, a4) (b1, b2, b3, b4) = true) := hid fun h1 h2 => decide_eq_true (.inl ⟨h1, h2⟩)
  have HS := hid (fun h => lessB_asymm (a := (a1, a2, a3, a4)) (b := (b1, b2, b3, b4)) h)
  have HE := hid (fun h k => lessB_total (a := (a1, a2, a3, a4)) (b := (b1, b2, b3, b4)) h k)
  by_cases hx : lessB (a1, a2, a3, a4) (b1, b2, b3, b4) = true
  · have hy := HS.out hx
    have hne : decide (((a1, a2, a3, a4) : Pr) = (b1, b2, b3, b4)) = false := decide_eq_false fun e => by rw [e, lessB_irrefl] at hx; cases hx
    rw [hne] at heq
    go_upto_region 3 with (fail)
    refine G2.wp_region_growT Kp [] 11 72 (G2.pvL [G2.eqv (.agg #[.int .i64 a1, .int .i64 a2, .int .i64 a3, .int .i64 a4]), G2.eqv (.agg #[.int .i64 b1, .int .i64 b2, .int .i64 b3, .int .i64 b4]), G2.eqv (.bool true), G2.eqv (.agg #[.int .i64 a1, .int .i64 a2, .int .i64 a3, .int .i64 a4]), G2.eqv (.agg #[.int .i64 b1, .int .i64 b2, .int .i64 b3, .int .i64 b4]), G2.eqv (.bool true), G2.eqv (.bool false), G2.eqv (.bool false), G2.eqv (.agg #[.int .i64 a1, .int .i64 a2, .int .i64 a3, .int .i64 a4]), G2.eqv (.agg #[.int .i64 a1, .int .i64 a2, .int .i64 a3, .int .i64 a4]), G2.eqv (.bool false)]) (by kernel_rfl) (by kernel_rfl) rfl (fun x => Kp.refl x) (fun _ _ _ h k => h.trans k) (Kp.refl _).drew (fun _ _ _ _ _ h => h) (G2.pvL_keep (G2.stabL_cons (G2.stab_eq _) (G2.stabL_cons (G2.stab_eq _) (G2.stabL_cons (G2.stab_eq _) (G2.stabL_cons (G2.stab_eq _) (G2.stabL_cons (G2.stab_eq _) (G2.stabL_cons (G2.stab_eq _) (G2.stabL_cons (G2.stab_eq _) (G2.stabL_cons (G2.stab_eq _) (G2.stabL_cons (G2.stab_eq _) (G2.stabL_cons (G2.stab_eq _) (G2.stabL_cons (G2.stab_eq _) (G2.stabL_nil))))))))))))) (G2.stepsT_cons 0 ?_ (G2.stepsT_cons 1 ?_ (G2.stepsT_cons 2 ?_ (G2.stepsT_cons 3 ?_ (G2.stepsT_cons 4 ?_ (G2.stepsT_cons 5 ?_ (G2.stepsT_cons 6 ?_ (G2.stepsT_cons 7 ?_ (G2.stepsT_cons 8 ?_ (G2.stepsT_cons 9 ?_ (G2.stepsT_cons 10 ?_ (G2.stepsT_nil _ _ _)))))))))))) ?_ ?_
    · intro a w' hk hF hD K hK
      have h3 : a.tmps[3]?.getD undef = .pointer (some ⟨k0, 0, none⟩) := hF 3 (by kernel_rfl)
      clear hF hD
      have z0 := hk.cellS A0
      have z1 := hk.cellS A1
      have z2 := hk.cellS A2
      have z3 := hk.cellS A3
      go_simp
      exact hK.out _ _ (Kp.refl _) rfl
    · intro a w' hk hF hD K hK
      have h4 : a.tmps[4]?.getD undef = .pointer (some ⟨k0 + 1, 0, none⟩) := hF 4 (by kernel_rfl)
      clear hF hD
      have z0 := hk.cellS B0
      have z1 := hk.cellS B1
      have z2 := hk.cellS B2
      have z3 := hk.cellS B3
      go_simp
      exact hK.out _ _ (Kp.refl _) rfl
    · intro a w' hk hF hD K hK
      have h9 : a.tmps[9]?.getD undef = .agg #[.int .i64 a1, .int .i64 a2, .int .i64 a3, .int .i64 a4] := hD 0 (by kernel_rfl)
      have h10 : a.tmps[10]?.getD undef = .agg #[.int .i64 b1, .int .i64 b2, .int .i64 b3, .int .i64 b4] := hD 1 (by kernel_rfl)
      clear hF hD
      go_simp
      refine (bLess_at (a1, a2, a3, a4) (b1, b2, b3, b4) _).mono ?_
      rintro e w9 ⟨rfl, hk9⟩
      rw [hx]
      exact hK.out _ _ hk9.kp rfl
    · intro a w' hk hF hD K hK
      have h3 : a.tmps[3]?.getD undef = .pointer (some ⟨k0, 0, none⟩) := hF 3 (by kernel_rfl)
      clear hF hD
      have z0 := hk.cellS A0
      have z1 := hk.cellS A1
      have z2 := hk.cellS A2
      have z3 := hk.cellS A3
      go_simp
      exact hK.out _ _ (Kp.refl _) rfl
    · intro a w' hk hF hD K hK
      have h4 : a.tmps[4]?.getD undef = .pointer (some ⟨k0 + 1, 0, none⟩) := hF 4 (by kernel_rfl)
      clear hF hD
      have z0 := hk.cellS B0
      have z1 := hk.cellS B1
      have z2 := hk.cellS B2
      have z3 := hk.cellS B3
      go_simp
      exact hK.out _ _ (Kp.refl _) rfl
    · intro a w' hk hF hD K hK
      have h12 : a.tmps[12]?.getD undef = .agg #[.int .i64 a1, .int .i64 a2, .int .i64 a3, .int .i64 a4] := hD 3 (by kernel_rfl)
      have h13 : a.tmps[13]?.getD undef = .agg #[.int .i64 b1, .int .i64 b2, .int .i64 b3, .int .i64 b4] := hD 4 (by kernel_rfl)
      clear hF hD
      go_simp
      refine (rLess_any (a1, a2, a3, a4) (b1, b2, b3, b4) _).mono ?_
      rintro e w9 ⟨rfl, hk9⟩
      rw [hx]
      exact hK.out _ _ hk9 rfl
    · intro a w' hk hF hD K hK
      have h11 : a.tmps[11]?.getD undef = .bool true := hD 2 (by kernel_rfl)
      have h14 : a.tmps[14]?.getD undef = .bool true := hD 5 (by kernel_rfl)
      clear hF hD
      go_simp
      exact hK.out _ _ (Kp.refl _) rfl
    · intro a w' hk hF hD K hK
      have h15 : a.tmps[15]?.getD undef = .bool false := hD 6 (by kernel_rfl)
      clear hF hD
      go_simp
      exact hK.out _ _ (Kp.refl _) rfl
    · intro a w' hk hF hD K hK
      have h3 : a.tmps[3]?.getD undef = .pointer (some ⟨k0, 0, none⟩) := hF 3 (by kernel_rfl)
      have h16 : a.tmps[16]?.getD undef = .bool false := hD 7 (by kernel_rfl)
      have g16 := guard_get h16
      clear hF hD
      have z0 := hk.cellS A0
      have z1 := hk.cellS A1
      have z2 := hk.cellS A2
      have z3 := hk.cellS A3
      go_simp
      exact hK.out _ _ (Kp.refl _) rfl
    · intro a w' hk hF hD K hK
      have h3 : a.tmps[3]?.getD undef = .pointer (some ⟨k0, 0, none⟩) := hF 3 (by kernel_rfl)
      have h16 : a.tmps[16]?.getD undef = .bool false := hD 7 (by kernel_rfl)
      have g16 := guard_get h16
      clear hF hD
      have z0 := hk.cellS A0
      have z1 := hk.cellS A1
      have z2 := hk.cellS A2
      have z3 := hk.cellS A3
      go_simp
      exact hK.out _ _ (Kp.refl _) rfl
    · intro a w' hk hF hD K hK
      have h17 : a.tmps[17]?.getD undef = .agg #[.int .i64 a1, .int .i64 a2, .int .i64 a3, .int .i64 a4] := hD 8 (by kernel_rfl)
      have h18 : a.tmps[18]?.getD undef = .agg #[.int .i64 a1, .int .i64 a2, .int .i64 a3, .int .i64 a4] := hD 9 (by kernel_rfl)
      have h16 : a.tmps[16]?.getD undef = .bool false := hD 7 (by kernel_rfl)
      have g16 := guard_get h16
      clear hF hD
      go_simp
      refine (bLess_at (a1, a2, a3, a4) (a1, a2, a3, a4) _).mono ?_
      rintro e w9 ⟨rfl, hk9⟩
      rw [lessB_irrefl]
      exact hK.out _ _ hk9.kp rfl
    · exact fun i0 hi0 => by simp at hi0
    intro v w9 k9 hv
    have v7 : v 7 = .bool false := hv 7 (by omega)
    have v10 : v 10 = .bool false := hv 10 (by omega)
    clear hv
    simp only [G2.growPut, G2.gSlot, List.getElem?_toArray, List.getElem?_cons_zero, List.getElem?_cons_succ, Option.bind_some, List.setIfInBounds_toArray, List.set_cons_zero, List.set_cons_succ, List.drop_succ_cons, List.drop_zero, v7, v10]
    obtain ⟨wq, hwq⟩ : ∃ wq, wq = w9 := ⟨_, rfl⟩
    subst hwq
    replace hA := hA.keep ((k9).block (hA.lt (by simp)))
    replace hB := hB.keep ((k9).block (hB.lt (by simp)))
    replace hC := hC.keep ((k9).block (hC.lt (by simp)))
    replace kw := kw.trans k9
    clear A0 A1 A2 A3 B0 B1 B2 B3 C0 C1 C2 C3
    have A0 := hA.cell (j := 0) rfl
    have A1 := hA.cell (j := 1) rfl
    have A2 := hA.cell (j := 2) rfl
    have A3 := hA.cell (j := 3) rfl
    have B0 := hB.cell (j := 0) rfl
    have B1 := hB.cell (j := 1) rfl
    have B2 := hB.cell (j := 2) rfl
    have B3 := hB.cell (j := 3) rfl
    have C0 := hC.cell (j := 0) rfl
    have C1 := hC.cell (j := 1) rfl
    have C2 := hC.cell (j := 2) rfl
    have C3 := hC.cell (j := 3) rfl
    clear k9
    go_upto_region 5 with (fail)
    refine G2.wp_region_growT Kp [] 21 72 (G2.pvL [G2.eqv (.agg #[.int .i64 a1, .int .i64 a2, .int .i64 a3, .int .i64 a4]), G2.eqv (.agg #[.int .i64 b1, .int .i64 b2, .int .i64 b3, .int .i64 b4]), G2.eqv (.bool false), G2.eqv (.agg #[.int .i64 a1, .int .i64 a2, .int .i64 a3, .int .i64 a4]), G2.eqv (.agg #[.int .i64 b1, .int .i64 b2, .int .i64 b3, .int .i64 b4]), G2.eqv (.bool true), G2.eqv (.bool true), G2.eqv (undef), G2.eqv (undef), G2.eqv (undef), G2.eqv (.bool true), G2.eqv (.bool false), G2.eqv (.bool false), G2.eqv (.agg #[.int .i64 a1, .int .i64 a2, .int .i64 a3, .int .i64 a4]), G2.eqv (.agg #[.int .i64 b1, .int .i64 b2, .int .i64 b3, .int .i64 b4]), G2.eqv (.bool true), G2.eqv (.bool true), G2.eqv (.agg #[.int .i64 b1, .int .i64 b2, .int .i64 b3, .int .i64 b4]), G2.eqv (.agg #[.int .i64 a1, .int .i64 a2, .int .i64 a3, .int .i64 a4]), G2.eqv (.bool false), G2.eqv (.bool false)]) (by kernel_rfl) (by kernel_rfl) rfl (fun x => Kp.refl x) (fun _ _ _ h k => h.trans k) (Kp.refl _).drew (fun _ _ _ _ _ h => h) (G2.pvL_keep (G2.stabL_cons (G2.stab_eq _) (G2.stabL_cons (G2.stab_eq _) (G2.stabL_cons (G2.stab_eq _) (G2.stabL_cons (G2.stab_eq _) (G2.stabL_cons (G2.stab_eq _) (G2.stabL_cons (G2.stab_eq _) (G2.stabL_cons (G2.stab_eq _) (G2.stabL_cons (G2.stab_eq _) (G2.stabL_cons (G2.stab_eq _) (G2.stabL_cons (G2.stab_eq _) (G2.stabL_cons (G2.stab_eq _) (G2.stabL_cons (G2.stab_eq _) (G2.stabL_cons (G2.stab_eq _) (G2.stabL_cons (G2.stab_eq _) (G2.stabL_cons (G2.stab_eq _) (G2.stabL_cons (G2.stab_eq _) (G2.stabL_cons (G2.stab_eq _) (G2.stabL_cons (G2.stab_eq _) (G2.stabL_cons (G2.stab_eq _) (G2.stabL_cons (G2.stab_eq _) (G2.stabL_cons (G2.stab_eq _) (G2.stabL_nil))))))))))))))))))))))) (G2.stepsT_cons 0 ?_ (G2.stepsT_cons 1 ?_ (G2.stepsT_cons 2 ?_ (G2.stepsT_cons 3 ?_ (G2.stepsT_cons 4 ?_ (G2.stepsT_cons 5 ?_ (G2.stepsT_cons 6 ?_ (G2.stepsT_cons 7 ?_ (G2.stepsT_cons 8 ?_ (G2.stepsT_cons 9 ?_ (G2.stepsT_cons 10 ?_ (G2.stepsT_cons 11 ?_ (G2.stepsT_cons 12 ?_ (G2.stepsT_cons 13 ?_ (G2.stepsT_cons 14 ?_ (G2.stepsT_cons 15 ?_ (G2.stepsT_cons 16 ?_ (G2.stepsT_cons 17 ?_ (G2.stepsT_cons 18 ?_ (G2.stepsT_cons 19 ?_ (G2.stepsT_cons 20 ?_ (G2.stepsT_nil _ _ _)))))))))))))))))))))) ?_ ?_
    · intro a w' hk hF hD K hK
      have h3 : a.tmps[3]?.getD undef = .pointer (some ⟨k0, 0, none⟩) := hF 3 (by kernel_rfl)
      clear hF hD
      have z0 := hk.cellS A0
      have z1 := hk.cellS A1
      have z2 := hk.cellS A2
      have z3 := hk.cellS A3
      go_simp
      exact hK.out _ _ (Kp.refl _) rfl
    · intro a w' hk hF hD K hK
      have h4 : a.tmps[4]?.getD undef = .pointer (some ⟨k0 + 1, 0, none⟩) := hF 4 (by kernel_rfl)
      clear hF hD
      have z0 := hk.cellS B0
      have z1 := hk.cellS B1
      have z2 := hk.cellS B2
      have z3 := hk.cellS B3
      go_simp
      exact hK.out _ _ (Kp.refl _) rfl
    · intro a w' hk hF hD K hK
      have h21 : a.tmps[21]?.getD undef = .agg #[.int .i64 a1, .int .i64 a2, .int .i64 a3, .int .i64 a4] := hD 0 (by kernel_rfl)
      have h22 : a.tmps[22]?.getD undef = .agg #[.int .i64 b1, .int .i64 b2, .int .i64 b3, .int .i64 b4] := hD 1 (by kernel_rfl)
      clear hF hD
      have z0 := heq w'
      go_simp
      exact hK.out _ _ (Kp.refl _) rfl
    · intro a w' hk hF hD K hK
      have h3 : a.tmps[3]?.getD undef = .pointer (some ⟨k0, 0, none⟩) := hF 3 (by kernel_rfl)
      clear hF hD
      have z0 := hk.cellS A0
      have z1 := hk.cellS A1
      have z2 := hk.cellS A2
      have z3 := hk.cellS A3
      go_simp
      exact hK.out _ _ (Kp.refl _) rfl
    · intro a w' hk hF hD K hK
      have h4 : a.tmps[4]?.getD undef = .pointer (some ⟨k0 + 1, 0, none⟩) := hF 4 (by kernel_rfl)
      clear hF hD
      have z0 := hk.cellS B0
      have z1 := hk.cellS B1
      have z2 := hk.cellS B2
      have z3 := hk.cellS B3
      go_simp
      exact hK.out _ _ (Kp.refl _) rfl
    · intro a w' hk hF hD K hK
      have h24 : a.tmps[24]?.getD undef = .agg #[.int .i64 a1, .int .i64 a2, .int .i64 a3, .int .i64 a4] := hD 3 (by kernel_rfl)
      have h25 : a.tmps[25]?.getD undef = .agg #[.int .i64 b1, .int .i64 b2, .int .i64 b3, .int .i64 b4] := hD 4 (by kernel_rfl)
      clear hF hD
      go_simp
      refine (bLess_at (a1, a2, a3, a4) (b1, b2, b3, b4) _).mono ?_
      rintro e w9 ⟨rfl, hk9⟩
      rw [hx]
      exact hK.out _ _ hk9.kp rfl
    · intro a w' hk hF hD K hK
      have h26 : a.tmps[26]?.getD undef = .bool true := hD 5 (by kernel_rfl)
      clear hF hD
      go_simp
      exact hK.out _ _ (Kp.refl _) rfl
    · intro a w' hk hF hD K hK
      have h4 : a.tmps[4]?.getD undef = .pointer (some ⟨k0 + 1, 0, none⟩) := hF 4 (by kernel_rfl)
      have h27 : a.tmps[27]?.getD undef = .bool true := hD 6 (by kernel_rfl)
      have g27 := guard_get h27
      clear hF hD
      go_simp
      exact hK.out _ _ (Kp.refl _) rfl
    · intro a w' hk hF hD K hK
      have h3 : a.tmps[3]?.getD undef = .pointer (some ⟨k0, 0, none⟩) := hF 3 (by kernel_rfl)
      have h27 : a.tmps[27]?.getD undef = .bool true := hD 6 (by kernel_rfl)
      have g27 := guard_get h27
      clear hF hD
      go_simp
      exact hK.out _ _ (Kp.refl _) rfl
    · intro a w' hk hF hD K hK
      have h28 : a.tmps[28]?.getD undef = undef := hD 7 (by kernel_rfl)
      have h29 : a.tmps[29]?.getD undef = undef := hD 8 (by kernel_rfl)
      have h27 : a.tmps[27]?.getD undef = .bool true := hD 6 (by kernel_rfl)
      have g27 := guard_get h27
      clear hF hD
      go_simp
      exact hK.out _ _ (Kp.refl _) rfl
    · intro a w' hk hF hD K hK
      have h27 : a.tmps[27]?.getD undef = .bool true := hD 6 (by kernel_rfl)
      have h30 : a.tmps[30]?.getD undef = undef := hD 9 (by kernel_rfl)
      clear hF hD
      go_simp
      exact hK.out _ _ (Kp.refl _) rfl
    · intro a w' hk hF hD K hK
      have h23 : a.tmps[23]?.getD undef = .bool false := hD 2 (by kernel_rfl)
      have h31 : a.tmps[31]?.getD undef = .bool true := hD 10 (by kernel_rfl)
      clear hF hD
      go_simp
      exact hK.out _ _ (Kp.refl _) rfl
    · intro a w' hk hF hD K hK
      have h32 : a.tmps[32]?.getD undef = .bool false := hD 11 (by kernel_rfl)
      clear hF hD
      go_simp
      exact hK.out _ _ (Kp.refl _) rfl
    · intro a w' hk hF hD K hK
      have h3 : a.tmps[3]?.getD undef = .pointer (some ⟨k0, 0, none⟩) := hF 3 (by kernel_rfl)
      have h33 : a.tmps[33]?.getD undef = .bool false := hD 12 (by kernel_rfl)
      have g33 := guard_get h33
      clear hF hD
      have z0 := hk.cellS A0
      have z1 := hk.cellS A1
      have z2 := hk.cellS A2
      have z3 := hk.cellS A3
      go_simp
      exact hK.out _ _ (Kp.refl _) rfl
    · intro a w' hk hF hD K hK
      have h4 : a.tmps[4]?.getD undef = .pointer (some ⟨k0 + 1, 0, none⟩) := hF 4 (by kernel_rfl)
      have h33 : a.tmps[33]?.getD undef = .bool false := hD 12 (by kernel_rfl)
      have g33 := guard_get h33
      clear hF hD
      have z0 := hk.cellS B0
      have z1 := hk.cellS B1
      have z2 := hk.cellS B2
      have z3 := hk.cellS B3
      go_simp
      exact hK.out _ _ (Kp.refl _) rfl
    · intro a w' hk hF hD K hK
      have h34 : a.tmps[34]?.getD undef = .agg #[.int .i64 a1, .int .i64 a2, .int .i64 a3, .int .i64 a4] := hD 13 (by kernel_rfl)
      have h35 : a.tmps[35]?.getD undef = .agg #[.int .i64 b1, .int .i64 b2, .int .i64 b3, .int .i64 b4] := hD 14 (by kernel_rfl)
      have h33 : a.tmps[33]?.getD undef = .bool false := hD 12 (by kernel_rfl)
      have g33 := guard_get h33
      clear hF hD
      go_simp
      refine (bLess_at (a1, a2, a3, a4) (b1, b2, b3, b4) _).mono ?_
      rintro e w9 ⟨rfl, hk9⟩
      rw [hx]
      exact hK.out _ _ hk9.kp rfl
    · intro a w' hk hF hD K hK
      have h36 : a.tmps[36]?.getD undef = .bool true := hD 15 (by kernel_rfl)
      have h33 : a.tmps[33]?.getD undef = .bool false := hD 12 (by kernel_rfl)
      have g33 := guard_get h33
      clear hF hD
      go_simp
      exact hK.out _ _ (Kp.refl _) rfl
    · intro a w' hk hF hD K hK
      have h4 : a.tmps[4]?.getD undef = .pointer (some ⟨k0 + 1, 0, none⟩) := hF 4 (by kernel_rfl)
      have h37 : a.tmps[37]?.getD undef = .bool true := hD 16 (by kernel_rfl)
      have g37 := guard_get h37
      clear hF hD
      have z0 := hk.cellS B0
      have z1 := hk.cellS B1
      have z2 := hk.cellS B2
      have z3 := hk.cellS B3
      go_simp
      exact hK.out _ _ (Kp.refl _) rfl
    · intro a w' hk hF hD K hK
      have h3 : a.tmps[3]?.getD undef = .pointer (some ⟨k0, 0, none⟩) := hF 3 (by kernel_rfl)
      have h37 : a.tmps[37]?.getD undef = .bool true := hD 16 (by kernel_rfl)
      have g37 := guard_get h37
      clear hF hD
      have z0 := hk.cellS A0
      have z1 := hk.cellS A1
      have z2 := hk.cellS A2
      have z3 := hk.cellS A3
      go_simp
      exact hK.out _ _ (Kp.refl _) rfl
    · intro a w' hk hF hD K hK
      have h38 : a.tmps[38]?.getD undef = .agg #[.int .i64 b1, .int .i64 b2, .int .i64 b3, .int .i64 b4] := hD 17 (by kernel_rfl)
      have h39 : a.tmps[39]?.getD undef = .agg #[.int .i64 a1, .int .i64 a2, .int .i64 a3, .int .i64 a4] := hD 18 (by kernel_rfl)
      have h37 : a.tmps[37]?.getD undef = .bool true := hD 16 (by kernel_rfl)
      have g37 := guard_get h37
      clear hF hD
      go_simp
      refine (bLess_at (b1, b2, b3, b4) (a1, a2, a3, a4) _).mono ?_
      rintro e w9 ⟨rfl, hk9⟩
      rw [hy]
      exact hK.out _ _ hk9.kp rfl
    · intro a w' hk hF hD K hK
      have h37 : a.tmps[37]?.getD undef = .bool true := hD 16 (by kernel_rfl)
      have h40 : a.tmps[40]?.getD undef = .bool false := hD 19 (by kernel_rfl)
      have h33 : a.tmps[33]?.getD undef = .bool false := hD 12 (by kernel_rfl)
      have g33 := guard_get h33
      clear hF hD
      go_simp
      exact hK.out _ _ (Kp.refl _) rfl
    · exact fun i0 hi0 => by simp at hi0
    intro v w9 k9 hv
    have v12 : v 12 = .bool false := hv 12 (by omega)
    have v20 : v 20 = .bool false := hv 20 (by omega)
    clear hv
    simp only [G2.growPut, G2.gSlot, List.getElem?_toArray, List.getElem?_cons_zero, List.getElem?_cons_succ, Option.bind_some, List.setIfInBounds_toArray, List.set_cons_zero, List.set_cons_succ, List.drop_succ_cons, List.drop_zero, v12, v20]
    obtain ⟨wq, hwq⟩ : ∃ wq, wq = w9 := ⟨_, rfl⟩
    subst hwq
    replace hA := hA.keep ((k9).block (hA.lt (by simp)))
    replace hB := hB.keep ((k9).block (hB.lt (by simp)))
    replace hC := hC.keep ((k9).block (hC.lt (by simp)))
    replace kw := kw.trans k9
    clear A0 A1 A2 A3 B0 B1 B2 B3 C0 C1 C2 C3
    have A0 := hA.cell (j := 0) rfl
    have A1 := hA.cell (j := 1) rfl
    have A2 := hA.cell (j := 2) rfl
    have A3 := hA.cell (j := 3) rfl
    have B0 := hB.cell (j := 0) rfl
    have B1 := hB.cell (j := 1) rfl
    have B2 := hB.cell (j := 2) rfl
    have B3 := hB.cell (j := 3) rfl
    have C0 := hC.cell (j := 0) rfl
    have C1 := hC.cell (j := 1) rfl
    have C2 := hC.cell (j := 2) rfl
    have C3 := hC.cell (j := 3) rfl
    clear k9
    by_cases ha : a1 = 0
    · have ea : (a1 != 0) = false := by simpa using ha
      replace ha := hid ha
      go_wp2_with fail
      refine (bLess_at (a1, a2, a3, a4) (b1, b2, b3, b4) _).mono ?_
      rintro e w9 ⟨rfl, k9'⟩
      rw [hx]
      have k9 := k9'.kp
      clear k9'
      obtain ⟨wq, hwq⟩ : ∃ wq, wq = w9 := ⟨_, rfl⟩
      subst hwq
      replace hA := hA.keep ((k9).block (hA.lt (by simp)))
      replace hB := hB.keep ((k9).block (hB.lt (by simp)))
      replace hC := hC.keep ((k9).block (hC.lt (by simp)))
      replace kw := kw.trans k9
      clear A0 A1 A2 A3 B0 B1 B2 B3 C0 C1 C2 C3
      have A0 := hA.cell (j := 0) rfl
      have A1 := hA.cell (j := 1) rfl
      have A2 := hA.cell (j := 2) rfl
      have A3 := hA.cell (j := 3) rfl
      have B0 := hB.cell (j := 0) rfl
      have B1 := hB.cell (j := 1) rfl
      have B2 := hB.cell (j := 2) rfl
      have B3 := hB.cell (j := 3) rfl
      have C0 := hC.cell (j := 0) rfl
      have C1 := hC.cell (j := 1) rfl
      have C2 := hC.cell (j := 2) rfl
      have C3 := hC.cell (j := 3) rfl
      clear k9
      go_wp2_with fail
      by_cases hbc : lessB (b1, b2, b3, b4) (c1, c2, c3, c4) = true
      · refine (bLess_at (b1, b2, b3, b4) (c1, c2, c3, c4) _).mono ?_
        rintro e w9 ⟨rfl, k9'⟩
        rw [hbc]
        have k9 := k9'.kp
        clear k9'
        obtain ⟨wq, hwq⟩ : ∃ wq, wq = w9 := ⟨_, rfl⟩
        subst hwq
        replace hA := hA.keep ((k9).block (hA.lt (by simp)))
        replace hB := hB.keep ((k9).block (hB.lt (by simp)))
        replace hC := hC.keep ((k9).block (hC.lt (by simp)))
        replace kw := kw.trans k9
        clear A0 A1 A2 A3 B0 B1 B2 B3 C0 C1 C2 C3
        have A0 := hA.cell (j := 0) rfl
        have A1 := hA.cell (j := 1) rfl
        have A2 := hA.cell (j := 2) rfl
        have A3 := hA.cell (j := 3) rfl
        have B0 := hB.cell (j := 0) rfl
        have B1 := hB.cell (j := 1) rfl
        have B2 := hB.cell (j := 2) rfl
        have B3 := hB.cell (j := 3) rfl
        have C0 := hC.cell (j := 0) rfl
        have C1 := hC.cell (j := 1) rfl
        have C2 := hC.cell (j := 2) rfl
        have C3 := hC.cell (j := 3) rfl
        clear k9
        have hac := HT.out hx hbc
        go_wp2_with fail
        refine (bLess_at (a1, a2, a3, a4) (c1, c2, c3, c4) _).mono ?_
        rintro e w9 ⟨rfl, k9'⟩
        rw [hac]
        have k9 := k9'.kp
        clear k9'
        obtain ⟨wq, hwq⟩ : ∃ wq, wq = w9 := ⟨_, rfl⟩
        subst hwq
        replace hA := hA.keep ((k9).block (hA.lt (by simp)))
        replace hB := hB.keep ((k9).block (hB.lt (by simp)))
        replace hC := hC.keep ((k9).block (hC.lt (by simp)))
        replace kw := kw.trans k9
        clear A0 A1 A2 A3 B0 B1 B2 B3 C0 C1 C2 C3
        have A0 := hA.cell (j := 0) rfl
        have A1 := hA.cell (j := 1) rfl
        have A2 := hA.cell (j := 2) rfl
        have A3 := hA.cell (j := 3) rfl
        have B0 := hB.cell (j := 0) rfl
        have B1 := hB.cell (j := 1) rfl
        have B2 := hB.cell (j := 2) rfl
        have B3 := hB.cell (j := 3) rfl
        have C0 := hC.cell (j := 0) rfl
        have C1 := hC.cell (j := 1) rfl
        have C2 := hC.cell (j := 2) rfl
        have C3 := hC.cell (j := 3) rfl
        clear k9
        go_wp2
        go_ret
        exact ⟨rfl, kw⟩
      · replace hbc := eq_false_of_ne_true hbc
        refine (bLess_at (b1, b2, b3, b4) (c1, c2, c3, c4) _).mono ?_
        rintro e w9 ⟨rfl, k9'⟩
        rw [hbc]
        have k9 := k9'.kp
        clear k9'
        obtain ⟨wq, hwq⟩ : ∃ wq, wq = w9 := ⟨_, rfl⟩
        subst hwq
        replace hA := hA.keep ((k9).block (hA.lt (by simp)))
        replace hB := hB.keep ((k9).block (hB.lt (by simp)))
        replace hC := hC.keep ((k9).block (hC.lt (by simp)))
        replace kw := kw.trans k9
        clear A0 A1 A2 A3 B0 B1 B2 B3 C0 C1 C2 C3
        have A0 := hA.cell (j := 0) rfl
        have A1 := hA.cell (j := 1) rfl
        have A2 := hA.cell (j := 2) rfl
        have A3 := hA.cell (j := 3) rfl
        have B0 := hB.cell (j := 0) rfl
        have B1 := hB.cell (j := 1) rfl
        have B2 := hB.cell (j := 2) rfl
        have B3 := hB.cell (j := 3) rfl
        have C0 := hC.cell (j := 0) rfl
        have C1 := hC.cell (j := 1) rfl
        have C2 := hC.cell (j := 2) rfl
        have C3 := hC.cell (j := 3) rfl
        clear k9
        go_wp2
        go_ret
        exact ⟨rfl, kw⟩
    · have ea : (a1 != 0) = true := by simpa using ha
      by_cases hb : b1 = 0
      · have eb : (b1 == 0) = true := by simpa using hb
        replace ha := hid ha
        replace hb := hid hb
        go_wp2_with fail
        refine (bLess_at (a1, a2, a3, a4) (b1, b2, b3, b4) _).mono ?_
        rintro e w9 ⟨rfl, k9'⟩
        rw [hx]
        have k9 := k9'.kp
        clear k9'
        obtain ⟨wq, hwq⟩ : ∃ wq, wq = w9 := ⟨_, rfl⟩
        subst hwq
        replace hA := hA.keep ((k9).block (hA.lt (by simp)))
        replace hB := hB.keep ((k9).block (hB.lt (by simp)))
        replace hC := hC.keep ((k9).block (hC.lt (by simp)))
        replace kw := kw.trans k9
        clear A0 A1 A2 A3 B0 B1 B2 B3 C0 C1 C2 C3
        have A0 := hA.cell (j := 0) rfl
        have A1 := hA.cell (j := 1) rfl
        have A2 := hA.cell (j := 2) rfl
        have A3 := hA.cell (j := 3) rfl
        have B0 := hB.cell (j := 0) rfl
        have B1 := hB.cell (j := 1) rfl
        have B2 := hB.cell (j := 2) rfl
        have B3 := hB.cell (j := 3) rfl
        have C0 := hC.cell (j := 0) rfl
        have C1 := hC.cell (j := 1) rfl
        have C2 := hC.cell (j := 2) rfl
        have C3 := hC.cell (j := 3) rfl
        clear k9
        go_wp2_with fail
        refine (bLess_at (a1, a2, a3, a4) (b1, b2, b3, b4) _).mono ?_
        rintro e w9 ⟨rfl, k9'⟩
        rw [hx]
        have k9 := k9'.kp
        clear k9'
        obtain ⟨wq, hwq⟩ : ∃ wq, wq = w9 := ⟨_, rfl⟩
        subst hwq
        replace hA := hA.keep ((k9).block (hA.lt (by simp)))
        replace hB := hB.keep ((k9).block (hB.lt (by simp)))
        replace hC := hC.keep ((k9).block (hC.lt (by simp)))
        replace kw := kw.trans k9
        clear A0 A1 A2 A3 B0 B1 B2 B3 C0 C1 C2 C3
        have A0 := hA.cell (j := 0) rfl
        have A1 := hA.cell (j := 1) rfl
        have A2 := hA.cell (j := 2) rfl
        have A3 := hA.cell (j := 3) rfl
        have B0 := hB.cell (j := 0) rfl
        have B1 := hB.cell (j := 1) rfl
        have B2 := hB.cell (j := 2) rfl
        have B3 := hB.cell (j := 3) rfl
        have C0 := hC.cell (j := 0) rfl
        have C1 := hC.cell (j := 1) rfl
        have C2 := hC.cell (j := 2) rfl
        have C3 := hC.cell (j := 3) rfl
        clear k9
        go_wp2_with fail
        by_cases hbc : lessB (b1, b2, b3, b4) (c1, c2, c3, c4) = true
        · refine (bLess_at (b1, b2, b3, b4) (c1, c2, c3, c4) _).mono ?_
          rintro e w9 ⟨rfl, k9'⟩
          rw [hbc]
          have k9 := k9'.kp
          clear k9'
          obtain ⟨wq, hwq⟩ : ∃ wq, wq = w9 := ⟨_, rfl⟩
          subst hwq
          replace hA := hA.keep ((k9).block (hA.lt (by simp)))
          replace hB := hB.keep ((k9).block (hB.lt (by simp)))
          replace hC := hC.keep ((k9).block (hC.lt (by simp)))
          replace kw := kw.trans k9
          clear A0 A1 A2 A3 B0 B1 B2 B3 C0 C1 C2 C3
          have A0 := hA.cell (j := 0) rfl
          have A1 := hA.cell (j := 1) rfl
          have A2 := hA.cell (j := 2) rfl
          have A3 := hA.cell (j := 3) rfl
          have B0 := hB.cell (j := 0) rfl
          have B1 := hB.cell (j := 1) rfl
          have B2 := hB.cell (j := 2) rfl
          have B3 := hB.cell (j := 3) rfl
          have C0 := hC.cell (j := 0) rfl
          have C1 := hC.cell (j := 1) rfl
          have C2 := hC.cell (j := 2) rfl
          have C3 := hC.cell (j := 3) rfl
          clear k9
          have hac := HT.out hx hbc
          go_wp2_with fail
          refine (bLess_at (a1, a2, a3, a4) (c1, c2, c3, c4) _).mono ?_
          rintro e w9 ⟨rfl, k9'⟩
          rw [hac]
          have k9 := k9'.kp
          clear k9'
          obtain ⟨wq, hwq⟩ : ∃ wq, wq = w9 := ⟨_, rfl⟩
          subst hwq
          replace hA := hA.keep ((k9).block (hA.lt (by simp)))
          replace hB := hB.keep ((k9).block (hB.lt (by simp)))
          replace hC := hC.keep ((k9).block (hC.lt (by simp)))
          replace kw := kw.trans k9
          clear A0 A1 A2 A3 B0 B1 B2 B3 C0 C1 C2 C3
          have A0 := hA.cell (j := 0) rfl
          have A1 := hA.cell (j := 1) rfl
          have A2 := hA.cell (j := 2) rfl
          have A3 := hA.cell (j := 3) rfl
          have B0 := hB.cell (j := 0) rfl
          have B1 := hB.cell (j := 1) rfl
          have B2 := hB.cell (j := 2) rfl
          have B3 := hB.cell (j := 3) rfl
          have C0 := hC.cell (j := 0) rfl
          have C1 := hC.cell (j := 1) rfl
          have C2 := hC.cell (j := 2) rfl
          have C3 := hC.cell (j := 3) rfl
          clear k9
          go_wp2
          go_ret
          exact ⟨rfl, kw⟩
        · replace hbc := eq_false_of_ne_true hbc
          refine (bLess_at (b1, b2, b3, b4) (c1, c2, c3, c4) _).mono ?_
          rintro e w9 ⟨rfl, k9'⟩
          rw [hbc]
          have k9 := k9'.kp
          clear k9'
          obtain ⟨wq, hwq⟩ : ∃ wq, wq = w9 := ⟨_, rfl⟩
          subst hwq
          replace hA := hA.keep ((k9).block (hA.lt (by simp)))
          replace hB := hB.keep ((k9).block (hB.lt (by simp)))
          replace hC := hC.keep ((k9).block (hC.lt (by simp)))
          replace kw := kw.trans k9
          clear A0 A1 A2 A3 B0 B1 B2 B3 C0 C1 C2 C3
          have A0 := hA.cell (j := 0) rfl
          have A1 := hA.cell (j := 1) rfl
          have A2 := hA.cell (j := 2) rfl
          have A3 := hA.cell (j := 3) rfl
          have B0 := hB.cell (j := 0) rfl
          have B1 := hB.cell (j := 1) rfl
          have B2 := hB.cell (j := 2) rfl
          have B3 := hB.cell (j := 3) rfl
          have C0 := hC.cell (j := 0) rfl
          have C1 := hC.cell (j := 1) rfl
          have C2 := hC.cell (j := 2) rfl
          have C3 := hC.cell (j := 3) rfl
          clear k9
          go_wp2
          go_ret
          exact ⟨rfl, kw⟩
      · have eb : (b1 == 0) = false := by simpa using hb
        replace ha := hid ha
        replace hb := hid hb
        go_wp2_with fail
        refine (bLess_at (a1, a2, a3, a4) (b1, b2, b3, b4) _).mono ?_
        rintro e w9 ⟨rfl, k9'⟩
        rw [hx]
        have k9 := k9'.kp
        clear k9'
        obtain ⟨wq, hwq⟩ : ∃ wq, wq = w9 := ⟨_, rfl⟩
        subst hwq
        replace hA := hA.keep ((k9).block (hA.lt (by simp)))
        replace hB := hB.keep ((k9).block (hB.lt (by simp)))
        replace hC := hC.keep ((k9).block (hC.lt (by simp)))
        replace kw := kw.trans k9
        clear A0 A1 A2 A3 B0 B1 B2 B3 C0 C1 C2 C3
        have A0 := hA.cell (j := 0) rfl
        have A1 := hA.cell (j := 1) rfl
        have A2 := hA.cell (j := 2) rfl
        have A3 := hA.cell (j := 3) rfl
        have B0 := hB.cell (j := 0) rfl
        have B1 := hB.cell (j := 1) rfl
        have B2 := hB.cell (j := 2) rfl
        have B3 := hB.cell (j := 3) rfl
        have C0 := hC.cell (j := 0) rfl
        have C1 := hC.cell (j := 1) rfl
        have C2 := hC.cell (j := 2) rfl
        have C3 := hC.cell (j := 3) rfl
        clear k9
        go_wp2_with fail
        by_cases hbc : lessB (b1, b2, b3, b4) (c1, c2, c3, c4) = true
        · refine (bLess_at (b1, b2, b3, b4) (c1, c2, c3, c4) _).mono ?_
          rintro e w9 ⟨rfl, k9'⟩
          rw [hbc]
          have k9 := k9'.kp
          clear k9'
          obtain ⟨wq, hwq⟩ : ∃ wq, wq = w9 := ⟨_, rfl⟩
          subst hwq
          replace hA := hA.keep ((k9).block (hA.lt (by simp)))
          replace hB := hB.keep ((k9).block (hB.lt (by simp)))
          replace hC := hC.keep ((k9).block (hC.lt (by simp)))
          replace kw := kw.trans k9
          clear A0 A1 A2 A3 B0 B1 B2 B3 C0 C1 C2 C3
          have A0 := hA.cell (j := 0) rfl
          have A1 := hA.cell (j := 1) rfl
          have A2 := hA.cell (j := 2) rfl
          have A3 := hA.cell (j := 3) rfl
          have B0 := hB.cell (j := 0) rfl
          have B1 := hB.cell (j := 1) rfl
          have B2 := hB.cell (j := 2) rfl
          have B3 := hB.cell (j := 3) rfl
          have C0 := hC.cell (j := 0) rfl
          have C1 := hC.cell (j := 1) rfl
          have C2 := hC.cell (j := 2) rfl
          have C3 := hC.cell (j := 3) rfl
          clear k9
          have hac := HT.out hx hbc
          go_wp2_with fail
          refine (bLess_at (a1, a2, a3, a4) (c1, c2, c3, c4) _).mono ?_
          rintro e w9 ⟨rfl, k9'⟩
          rw [hac]
          have k9 := k9'.kp
          clear k9'
          obtain ⟨wq, hwq⟩ : ∃ wq, wq = w9 := ⟨_, rfl⟩
          subst hwq
          replace hA := hA.keep ((k9).block (hA.lt (by simp)))
          replace hB := hB.keep ((k9).block (hB.lt (by simp)))
          replace hC := hC.keep ((k9).block (hC.lt (by simp)))
          replace kw := kw.trans k9
          clear A0 A1 A2 A3 B0 B1 B2 B3 C0 C1 C2 C3
          have A0 := hA.cell (j := 0) rfl
          have A1 := hA.cell (j := 1) rfl
          have A2 := hA.cell (j := 2) rfl
          have A3 := hA.cell (j := 3) rfl
          have B0 := hB.cell (j := 0) rfl
          have B1 := hB.cell (j := 1) rfl
          have B2 := hB.cell (j := 2) rfl
          have B3 := hB.cell (j := 3) rfl
          have C0 := hC.cell (j := 0) rfl
          have C1 := hC.cell (j := 1) rfl
          have C2 := hC.cell (j := 2) rfl
          have C3 := hC.cell (j := 3) rfl
          clear k9
          go_wp2
          go_ret
          exact ⟨rfl, kw⟩
        · replace hbc := eq_false_of_ne_true hbc
          refine (bLess_at (b1, b2, b3, b4) (c1, c2, c3, c4) _).mono ?_
          rintro e w9 ⟨rfl, k9'⟩
          rw [hbc]
          have k9 := k9'.kp
          clear k9'
          obtain ⟨wq, hwq⟩ : ∃ wq, wq = w9 := ⟨_, rfl⟩
          subst hwq
          replace hA := hA.keep ((k9).block (hA.lt (by simp)))
          replace hB := hB.keep ((k9).block (hB.lt (by simp)))
          replace hC := hC.keep ((k9).block (hC.lt (by simp)))
          replace kw := kw.trans k9
          clear A0 A1 A2 A3 B0 B1 B2 B3 C0 C1 C2 C3
          have A0 := hA.cell (j := 0) rfl
          have A1 := hA.cell (j := 1) rfl
          have A2 := hA.cell (j := 2) rfl
          have A3 := hA.cell (j := 3) rfl
          have B0 := hB.cell (j := 0) rfl
          have B1 := hB.cell (j := 1) rfl
          have B2 := hB.cell (j := 2) rfl
          have B3 := hB.cell (j := 3) rfl
          have C0 := hC.cell (j := 0) rfl
          have C1 := hC.cell (j := 1) rfl
          have C2 := hC.cell (j := 2) rfl
          have C3 := hC.cell (j := 3) rfl
          clear k9
          go_wp2
          go_ret
          exact ⟨rfl, kw⟩
  · replace hx := eq_false_of_ne_true hx
    by_cases hy : lessB (b1, b2, b3, b4) (a1, a2, a3, a4) = true
    · have hne : decide (((a1, a2, a3, a4) : Pr) = (b1, b2, b3, b4)) = false := decide_eq_false fun e => by rw [e, lessB_irrefl] at hy; cases hy
      rw [hne] at heq
      go_upto_region 3 with (fail)
      refine G2.wp_region_growT Kp [] 11 72 (G2.pvL [G2.eqv (.agg #[.int .i64 a1, .int .i64 a2, .int .i64 a3, .int .i64 a4]), G2.eqv (.agg #[.int .i64 b1, .int .i64 b2, .int .i64 b3, .int .i64 b4]), G2.eqv (.bool false), G2.eqv (.agg #[.int .i64 a1, .int .i64 a2, .int .i64 a3, .int .i64 a4]), G2.eqv (.agg #[.int .i64 b1, .int .i64 b2, .int .i64 b3, .int .i64 b4]), G2.eqv (.bool false), G2.eqv (.bool false), G2.eqv (.bool false), G2.eqv (.agg #[.int .i64 a1, .int .i64 a2, .int .i64 a3, .int .i64 a4]), G2.eqv (.agg #[.int .i64 a1, .int .i64 a2, .int .i64 a3, .int .i64 a4]), G2.eqv (.bool false)]) (by kernel_rfl) (by kernel_rfl) rfl (fun x => Kp.refl x) (fun _ _ _ h k => h.trans k) (Kp.refl _).drew (fun _ _ _ _ _ h => h) (G2.pvL_keep (G2.stabL_cons (G2.stab_eq _) (G2.stabL_cons (G2.stab_eq _) (G2.stabL_cons (G2.stab_eq _) (G2.stabL_cons (G2.stab_eq _) (G2.stabL_cons (G2.stab_eq _) (G2.stabL_cons (G2.stab_eq _) (G2.stabL_cons (G2.stab_eq _) (G2.stabL_cons (G2.stab_eq _) (G2.stabL_cons (G2.stab_eq _) (G2.stabL_cons (G2.stab_eq _) (G2.stabL_cons (G2.stab_eq _) (G2.stabL_nil))))))))))))) (G2.stepsT_cons 0 ?_ (G2.stepsT_cons 1 ?_ (G2.stepsT_cons 2 ?_ (G2.stepsT_cons 3 ?_ (G2.stepsT_cons 4 ?_ (G2.stepsT_cons 5 ?_ (G2.stepsT_cons 6 ?_ (G2.stepsT_cons 7 ?_ (G2.stepsT_cons 8 ?_ (G2.stepsT_cons 9 ?_ (G2.stepsT_cons 10 ?_ (G2.stepsT_nil _ _ _)))))))))))) ?_ ?_
      · intro a w' hk hF hD K hK
        have h3 : a.tmps[3]?.getD undef = .pointer (some ⟨k0, 0, none⟩) := hF 3 (by kernel_rfl)
        clear hF hD
        have z0 := hk.cellS A0
        have z1 := hk.cellS A1
        have z2 := hk.cellS A2
        have z3 := hk.cellS A3
        go_simp
        exact hK.out _ _ (Kp.refl _) rfl
      · intro a w' hk hF hD K hK
        have h4 : a.tmps[4]?.getD undef = .pointer (some ⟨k0 + 1, 0, none⟩) := hF 4 (by kernel_rfl)
        clear hF hD
        have z0 := hk.cellS B0
        have z1 := hk.cellS B1
        have z2 := hk.cellS B2
        have z3 := hk.cellS B3
        go_simp
        exact hK.out _ _ (Kp.refl _) rfl
      · intro a w' hk hF hD K hK
        have h9 : a.tmps[9]?.getD undef = .agg #[.int .i64 a1, .int .i64 a2, .int .i64 a3, .int .i64 a4] := hD 0 (by kernel_rfl)
        have h10 : a.tmps[10]?.getD undef = .agg #[.int .i64 b1, .int .i64 b2, .int .i64 b3, .int .i64 b4] := hD 1 (by kernel_rfl)
        clear hF hD
        go_simp
        refine (bLess_at (a1, a2, a3, a4) (b1, b2, b3, b4) _).mono ?_
        rintro e w9 ⟨rfl, hk9⟩
        rw [hx]
        exact hK.out _ _ hk9.kp rfl
      · intro a w' hk hF hD K hK
        have h3 : a.tmps[3]?.getD undef = .pointer (some ⟨k0, 0, none⟩) := hF 3 (by kernel_rfl)
        clear hF hD
        have z0 := hk.cellS A0
        have z1 := hk.cellS A1
        have z2 := hk.cellS A2
        have z3 := hk.cellS A3
        go_simp
        exact hK.out _ _ (Kp.refl _) rfl
      · intro a w' hk hF hD K hK
        have h4 : a.tmps[4]?.getD undef = .pointer (some ⟨k0 + 1, 0, none⟩) := hF 4 (by kernel_rfl)
        clear hF hD
        have z0 := hk.cellS B0
        have z1 := hk.cellS B1
        have z2 := hk.cellS B2
        have z3 := hk.cellS B3
        go_simp
        exact hK.out _ _ (Kp.refl _) rfl
      · intro a w' hk hF hD K hK
        have h12 : a.tmps[12]?.getD undef = .agg #[.int .i64 a1, .int .i64 a2, .int .i64 a3, .int .i64 a4] := hD 3 (by kernel_rfl)
        have h13 : a.tmps[13]?.getD undef = .agg #[.int .i64 b1, .int .i64 b2, .int .i64 b3, .int .i64 b4] := hD 4 (by kernel_rfl)
        clear hF hD
        go_simp
        refine (rLess_any (a1, a2, a3, a4) (b1, b2, b3, b4) _).mono ?_
        rintro e w9 ⟨rfl, hk9⟩
        rw [hx]
        exact hK.out _ _ hk9 rfl
      · intro a w' hk hF hD K hK
        have h11 : a.tmps[11]?.getD undef = .bool false := hD 2 (by kernel_rfl)
        have h14 : a.tmps[14]?.getD undef = .bool false := hD 5 (by kernel_rfl)
        clear hF hD
        go_simp
        exact hK.out _ _ (Kp.refl _) rfl
      · intro a w' hk hF hD K hK
        have h15 : a.tmps[15]?.getD undef = .bool false := hD 6 (by kernel_rfl)
        clear hF hD
        go_simp
        exact hK.out _ _ (Kp.refl _) rfl
      · intro a w' hk hF hD K hK
        have h3 : a.tmps[3]?.getD undef = .pointer (some ⟨k0, 0, none⟩) := hF 3 (by kernel_rfl)
        have h16 : a.tmps[16]?.getD undef = .bool false := hD 7 (by kernel_rfl)
        have g16 := guard_get h16
        clear hF hD
        have z0 := hk.cellS A0
        have z1 := hk.cellS A1
        have z2 := hk.cellS A2
        have z3 := hk.cellS A3
        go_simp
        exact hK.out _ _ (Kp.refl _) rfl
      · intro a w' hk hF hD K hK
        have h3 : a.tmps[3]?.getD undef = .pointer (some ⟨k0, 0, none⟩) := hF 3 (by kernel_rfl)
        have h16 : a.tmps[16]?.getD undef = .bool false := hD 7 (by kernel_rfl)
        have g16 := guard_get h16
        clear hF hD
        have z0 := hk.cellS A0
        have z1 := hk.cellS A1
        have z2 := hk.cellS A2
        have z3 := hk.cellS A3
        go_simp
        exact hK.out _ _ (Kp.refl _) rfl
      · intro a w' hk hF hD K hK
        have h17 : a.tmps[17]?.getD undef = .agg #[.int .i64 a1, .int .i64 a2, .int .i64 a3, .int .i64 a4] := hD 8 (by kernel_rfl)
        have h18 : a.tmps[18]?.getD undef = .agg #[.int .i64 a1, .int .i64 a2, .int .i64 a3, .int .i64 a4] := hD 9 (by kernel_rfl)
        have h16 : a.tmps[16]?.getD undef = .bool false := hD 7 (by kernel_rfl)
        have g16 := guard_get h16
        clear hF hD
        go_simp
        refine (bLess_at (a1, a2, a3, a4) (a1, a2, a3, a4) _).mono ?_
        rintro e w9 ⟨rfl, hk9⟩
        rw [lessB_irrefl]
        exact hK.out _ _ hk9.kp rfl
      · exact fun i0 hi0 => by simp at hi0
      intro v w9 k9 hv
      have v7 : v 7 = .bool false := hv 7 (by omega)
      have v10 : v 10 = .bool false := hv 10 (by omega)
      clear hv
      simp only [G2.growPut, G2.gSlot, List.getElem?_toArray, List.getElem?_cons_zero, List.getElem?_cons_succ, Option.bind_some, List.setIfInBounds_toArray, List.set_cons_zero, List.set_cons_succ, List.drop_succ_cons, List.drop_zero, v7, v10]
      obtain ⟨wq, hwq⟩ : ∃ wq, wq = w9 := ⟨_, rfl⟩
      subst hwq
      replace hA := hA.keep ((k9).block (hA.lt (by simp)))
      replace hB := hB.keep ((k9).block (hB.lt (by simp)))
      replace hC := hC.keep ((k9).block (hC.lt (by simp)))
      replace kw := kw.trans k9
      clear A0 A1 A2 A3 B0 B1 B2 B3 C0 C1 C2 C3
      have A0 := hA.cell (j := 0) rfl
      have A1 := hA.cell (j := 1) rfl
      have A2 := hA.cell (j := 2) rfl
      have A3 := hA.cell (j := 3) rfl
      have B0 := hB.cell (j := 0) rfl
      have B1 := hB.cell (j := 1) rfl
      have B2 := hB.cell (j := 2) rfl
      have B3 := hB.cell (j := 3) rfl
      have C0 := hC.cell (j := 0) rfl
      have C1 := hC.cell (j := 1) rfl
      have C2 := hC.cell (j := 2) rfl
      have C3 := hC.cell (j := 3) rfl
      clear k9
      go_upto_region 5 with (fail)
      refine G2.wp_region_growT Kp [] 21 72 (G2.pvL [G2.eqv (.agg #[.int .i64 a1, .int .i64 a2, .int .i64 a3, .int .i64 a4]), G2.eqv (.agg #[.int .i64 b1, .int .i64 b2, .int .i64 b3, .int .i64 b4]), G2.eqv (.bool false), G2.eqv (.agg #[.int .i64 a1, .int .i64 a2, .int .i64 a3, .int .i64 a4]), G2.eqv (.agg #[.int .i64 b1, .int .i64 b2, .int .i64 b3, .int .i64 b4]), G2.eqv (.bool false), G2.eqv (.bool false), G2.eqv (.agg #[.int .i64 b1, .int .i64 b2, .int .i64 b3, .int .i64 b4]), G2.eqv (.agg #[.int .i64 a1, .int .i64 a2, .int .i64 a3, .int .i64 a4]), G2.eqv (.bool true), G2.eqv (.bool true), G2.eqv (.bool false), G2.eqv (.bool false), G2.eqv (.agg #[.int .i64 a1, .int .i64 a2, .int .i64 a3, .int .i64 a4]), G2.eqv (.agg #[.int .i64 b1, .int .i64 b2, .int .i64 b3, .int .i64 b4]), G2.eqv (.bool false), G2.eqv (.bool false), G2.eqv (undef), G2.eqv (undef), G2.eqv (undef), G2.eqv (.bool false)]) (by kernel_rfl) (by kernel_rfl) rfl (fun x => Kp.refl x) (fun _ _ _ h k => h.trans k) (Kp.refl _).drew (fun _ _ _ _ _ h => h) (G2.pvL_keep (G2.stabL_cons (G2.stab_eq _) (G2.stabL_cons (G2.stab_eq _) (G2.stabL_cons (G2.stab_eq _) (G2.stabL_cons (G2.stab_eq _) (G2.stabL_cons (G2.stab_eq _) (G2.stabL_cons (G2.stab_eq _) (G2.stabL_cons (G2.stab_eq _) (G2.stabL_cons (G2.stab_eq _) (G2.stabL_cons (G2.stab_eq _) (G2.stabL_cons (G2.stab_eq _) (G2.stabL_cons (G2.stab_eq _) (G2.stabL_cons (G2.stab_eq _) (G2.stabL_cons (G2.stab_eq _) (G2.stabL_cons (G2.stab_eq _) (G2.stabL_cons (G2.stab_eq _) (G2.stabL_cons (G2.stab_eq _) (G2.stabL_cons (G2.stab_eq _) (G2.stabL_cons (G2.stab_eq _) (G2.stabL_cons (G2.stab_eq _) (G2.stabL_cons (G2.stab_eq _) (G2.stabL_cons (G2.stab_eq _) (G2.stabL_nil))))))))))))))))))))))) (G2.stepsT_cons 0 ?_ (G2.stepsT_cons 1 ?_ (G2.stepsT_cons 2 ?_ (G2.stepsT_cons 3 ?_ (G2.stepsT_cons 4 ?_ (G2.stepsT_cons 5 ?_ (G2.stepsT_cons 6 ?_ (G2.stepsT_cons 7 ?_ (G2.stepsT_cons 8 ?_ (G2.stepsT_cons 9 ?_ (G2.stepsT_cons 10 ?_ (G2.stepsT_cons 11 ?_ (G2.stepsT_cons 12 ?_ (G2.stepsT_cons 13 ?_ (G2.stepsT_cons 14 ?_ (G2.stepsT_cons 15 ?_ (G2.stepsT_cons 16 ?_ (G2.stepsT_cons 17 ?_ (G2.stepsT_cons 18 ?_ (G2.stepsT_cons 19 ?_ (G2.stepsT_cons 20 ?_ (G2.stepsT_nil _ _ _)))))))))))))))))))))) ?_ ?_
      · intro a w' hk hF hD K hK
        have h3 : a.tmps[3]?.getD undef = .pointer (some ⟨k0, 0, none⟩) := hF 3 (by kernel_rfl)
        clear hF hD
        have z0 := hk.cellS A0
        have z1 := hk.cellS A1
        have z2 := hk.cellS A2
        have z3 := hk.cellS A3
        go_simp
        exact hK.out _ _ (Kp.refl _) rfl
      · intro a w' hk hF hD K hK
        have h4 : a.tmps[4]?.getD undef = .pointer (some ⟨k0 + 1, 0, none⟩) := hF 4 (by kernel_rfl)
        clear hF hD
        have z0 := hk.cellS B0
        have z1 := hk.cellS B1
        have z2 := hk.cellS B2
        have z3 := hk.cellS B3
        go_simp
        exact hK.out _ _ (Kp.refl _) rfl
      · intro a w' hk hF hD K hK
        have h21 : a.tmps[21]?.getD undef = .agg #[.int .i64 a1, .int .i64 a2, .int .i64 a3, .int .i64 a4] := hD 0 (by kernel_rfl)
        have h22 : a.tmps[22]?.getD undef = .agg #[.int .i64 b1, .int .i64 b2, .int .i64 b3, .int .i64 b4] := hD 1 (by kernel_rfl)
        clear hF hD
        have z0 := heq w'
        go_simp
        exact hK.out _ _ (Kp.refl _) rfl
      · intro a w' hk hF hD K hK
        have h3 : a.tmps[3]?.getD undef = .pointer (some ⟨k0, 0, none⟩) := hF 3 (by kernel_rfl)
        clear hF hD
        have z0 := hk.cellS A0
        have z1 := hk.cellS A1
        have z2 := hk.cellS A2
        have z3 := hk.cellS A3
        go_simp
        exact hK.out _ _ (Kp.refl _) rfl
      · intro a w' hk hF hD K hK
        have h4 : a.tmps[4]?.getD undef = .pointer (some ⟨k0 + 1, 0, none⟩) := hF 4 (by kernel_rfl)
        clear hF hD
        have z0 := hk.cellS B0
        have z1 := hk.cellS B1
        have z2 := hk.cellS B2
        have z3 := hk.cellS B3
        go_simp
        exact hK.out _ _ (Kp.refl _) rfl
      · intro a w' hk hF hD K hK
        have h24 : a.tmps[24]?.getD undef = .agg #[.int .i64 a1, .int .i64 a2, .int .i64 a3, .int .i64 a4] := hD 3 (by kernel_rfl)
        have h25 : a.tmps[25]?.getD undef = .agg #[.int .i64 b1, .int .i64 b2, .int .i64 b3, .int .i64 b4] := hD 4 (by kernel_rfl)
        clear hF hD
        go_simp
        refine (bLess_at (a1, a2, a3, a4) (b1, b2, b3, b4) _).mono ?_
        rintro e w9 ⟨rfl, hk9⟩
        rw [hx]
        exact hK.out _ _ hk9.kp rfl
      · intro a w' hk hF hD K hK
        have h26 : a.tmps[26]?.getD undef = .bool false := hD 5 (by kernel_rfl)
        clear hF hD
        go_simp
        exact hK.out _ _ (Kp.refl _) rfl
      · intro a w' hk hF hD K hK
        have h4 : a.tmps[4]?.getD undef = .pointer (some ⟨k0 + 1, 0, none⟩) := hF 4 (by kernel_rfl)
        have h27 : a.tmps[27]?.getD undef = .bool false := hD 6 (by kernel_rfl)
        have g27 := guard_get h27
        clear hF hD
        have z0 := hk.cellS B0
        have z1 := hk.cellS B1
        have z2 := hk.cellS B2
        have z3 := hk.cellS B3
        go_simp
        exact hK.out _ _ (Kp.refl _) rfl
      · intro a w' hk hF hD K hK
        have h3 : a.tmps[3]?.getD undef = .pointer (some ⟨k0, 0, none⟩) := hF 3 (by kernel_rfl)
        have h27 : a.tmps[27]?.getD undef = .bool false := hD 6 (by kernel_rfl)
        have g27 := guard_get h27
        clear hF hD
        have z0 := hk.cellS A0
        have z1 := hk.cellS A1
        have z2 := hk.cellS A2
        have z3 := hk.cellS A3
        go_simp
        exact hK.out _ _ (Kp.refl _) rfl
      · intro a w' hk hF hD K hK
        have h28 : a.tmps[28]?.getD undef = .agg #[.int .i64 b1, .int .i64 b2, .int .i64 b3, .int .i64 b4] := hD 7 (by kernel_rfl)
        have h29 : a.tmps[29]?.getD undef = .agg #[.int .i64 a1, .int .i64 a2, .int .i64 a3, .int .i64 a4] := hD 8 (by kernel_rfl)
        have h27 : a.tmps[27]?.getD undef = .bool false := hD 6 (by kernel_rfl)
        have g27 := guard_get h27
        clear hF hD
        go_simp
        refine (bLess_at (b1, b2, b3, b4) (a1, a2, a3, a4) _).mono ?_
        rintro e w9 ⟨rfl, hk9⟩
        rw [hy]
        exact hK.out _ _ hk9.kp rfl
      · intro a w' hk hF hD K hK
        have h27 : a.tmps[27]?.getD undef = .bool false := hD 6 (by kernel_rfl)
        have h30 : a.tmps[30]?.getD undef = .bool true := hD 9 (by kernel_rfl)
        clear hF hD
        go_simp
        exact hK.out _ _ (Kp.refl _) rfl
      · intro a w' hk hF hD K hK
        have h23 : a.tmps[23]?.getD undef = .bool false := hD 2 (by kernel_rfl)
        have h31 : a.tmps[31]?.getD undef = .bool true := hD 10 (by kernel_rfl)
        clear hF hD
        go_simp
        exact hK.out _ _ (Kp.refl _) rfl
      · intro a w' hk hF hD K hK
        have h32 : a.tmps[32]?.getD undef = .bool false := hD 11 (by kernel_rfl)
        clear hF hD
        go_simp
        exact hK.out _ _ (Kp.refl _) rfl
      · intro a w' hk hF hD K hK
        have h3 : a.tmps[3]?.getD undef = .pointer (some ⟨k0, 0, none⟩) := hF 3 (by kernel_rfl)
        have h33 : a.tmps[33]?.getD undef = .bool false := hD 12 (by kernel_rfl)
        have g33 := guard_get h33
        clear hF hD
        have z0 := hk.cellS A0
        have z1 := hk.cellS A1
        have z2 := hk.cellS A2
        have z3 := hk.cellS A3
        go_simp
        exact hK.out _ _ (Kp.refl _) rfl
      · intro a w' hk hF hD K hK
        have h4 : a.tmps[4]?.getD undef = .pointer (some ⟨k0 + 1, 0, none⟩) := hF 4 (by kernel_rfl)
        have h33 : a.tmps[33]?.getD undef = .bool false := hD 12 (by kernel_rfl)
        have g33 := guard_get h33
        clear hF hD
        have z0 := hk.cellS B0
        have z1 := hk.cellS B1
        have z2 := hk.cellS B2
        have z3 := hk.cellS B3
        go_simp
        exact hK.out _ _ (Kp.refl _) rfl
      · intro a w' hk hF hD K hK
        have h34 : a.tmps[34]?.getD undef = .agg #[.int .i64 a1, .int .i64 a2, .int .i64 a3, .int .i64 a4] := hD 13 (by kernel_rfl)
        have h35 : a.tmps[35]?.getD undef = .agg #[.int .i64 b1, .int .i64 b2, .int .i64 b3, .int .i64 b4] := hD 14 (by kernel_rfl)
        have h33 : a.tmps[33]?.getD undef = .bool false := hD 12 (by kernel_rfl)
        have g33 := guard_get h33
        clear hF hD
        go_simp
        refine (bLess_at (a1, a2, a3, a4) (b1, b2, b3, b4) _).mono ?_
        rintro e w9 ⟨rfl, hk9⟩
        rw [hx]
        exact hK.out _ _ hk9.kp rfl
      · intro a w' hk hF hD K hK
        have h36 : a.tmps[36]?.getD undef = .bool false := hD 15 (by kernel_rfl)
        have h33 : a.tmps[33]?.getD undef = .bool false := hD 12 (by kernel_rfl)
        have g33 := guard_get h33
        clear hF hD
        go_simp
        exact hK.out _ _ (Kp.refl _) rfl
      · intro a w' hk hF hD K hK
        have h4 : a.tmps[4]?.getD undef = .pointer (some ⟨k0 + 1, 0, none⟩) := hF 4 (by kernel_rfl)
        have h37 : a.tmps[37]?.getD undef = .bool false := hD 16 (by kernel_rfl)
        have g37 := guard_get h37
        clear hF hD
        go_simp
        exact hK.out _ _ (Kp.refl _) rfl
      · intro a w' hk hF hD K hK
        have h3 : a.tmps[3]?.getD undef = .pointer (some ⟨k0, 0, none⟩) := hF 3 (by kernel_rfl)
        have h37 : a.tmps[37]?.getD undef = .bool false := hD 16 (by kernel_rfl)
        have g37 := guard_get h37
        clear hF hD
        go_simp
        exact hK.out _ _ (Kp.refl _) rfl
      · intro a w' hk hF hD K hK
        have h38 : a.tmps[38]?.getD undef = undef := hD 17 (by kernel_rfl)
        have h39 : a.tmps[39]?.getD undef = undef := hD 18 (by kernel_rfl)
        have h37 : a.tmps[37]?.getD undef = .bool false := hD 16 (by kernel_rfl)
        have g37 := guard_get h37
        clear hF hD
        go_simp
        exact hK.out _ _ (Kp.refl _) rfl
      · intro a w' hk hF hD K hK
        have h37 : a.tmps[37]?.getD undef = .bool false := hD 16 (by kernel_rfl)
        have h40 : a.tmps[40]?.getD undef = undef := hD 19 (by kernel_rfl)
        have h33 : a.tmps[33]?.getD undef = .bool false := hD 12 (by kernel_rfl)
        have g33 := guard_get h33
        clear hF hD
        go_simp
        exact hK.out _ _ (Kp.refl _) rfl
      · exact fun i0 hi0 => by simp at hi0
      intro v w9 k9 hv
      have v12 : v 12 = .bool false := hv 12 (by omega)
      have v20 : v 20 = .bool false := hv 20 (by omega)
      clear hv
      simp only [G2.growPut, G2.gSlot, List.getElem?_toArray, List.getElem?_cons_zero, List.getElem?_cons_succ, Option.bind_some, List.setIfInBounds_toArray, List.set_cons_zero, List.set_cons_succ, List.drop_succ_cons, List.drop_zero, v12, v20]
      obtain ⟨wq, hwq⟩ : ∃ wq, wq = w9 := ⟨_, rfl⟩
      subst hwq
      replace hA := hA.keep ((k9).block (hA.lt (by simp)))
      replace hB := hB.keep ((k9).block (hB.lt (by simp)))
      replace hC := hC.keep ((k9).block (hC.lt (by simp)))
      replace kw := kw.trans k9
      clear A0 A1 A2 A3 B0 B1 B2 B3 C0 C1 C2 C3
      have A0 := hA.cell (j := 0) rfl
      have A1 := hA.cell (j := 1) rfl
      have A2 := hA.cell (j := 2) rfl
      have A3 := hA.cell (j := 3) rfl
      have B0 := hB.cell (j := 0) rfl
      have B1 := hB.cell (j := 1) rfl
      have B2 := hB.cell (j := 2) rfl
      have B3 := hB.cell (j := 3) rfl
      have C0 := hC.cell (j := 0) rfl
      have C1 := hC.cell (j := 1) rfl
      have C2 := hC.cell (j := 2) rfl
      have C3 := hC.cell (j := 3) rfl
      clear k9
      by_cases ha : a1 = 0
      · have ea : (a1 != 0) = false := by simpa using ha
        replace ha := hid ha
        go_wp2_with fail
        refine (bLess_at (a1, a2, a3, a4) (b1, b2, b3, b4) _).mono ?_
        rintro e w9 ⟨rfl, k9'⟩
        rw [hx]
        have k9 := k9'.kp
        clear k9'
        obtain ⟨wq, hwq⟩ : ∃ wq, wq = w9 := ⟨_, rfl⟩
        subst hwq
        replace hA := hA.keep ((k9).block (hA.lt (by simp)))
        replace hB := hB.keep ((k9).block (hB.lt (by simp)))
        replace hC := hC.keep ((k9).block (hC.lt (by simp)))
        replace kw := kw.trans k9
        clear A0 A1 A2 A3 B0 B1 B2 B3 C0 C1 C2 C3
        have A0 := hA.cell (j := 0) rfl
        have A1 := hA.cell (j := 1) rfl
        have A2 := hA.cell (j := 2) rfl
        have A3 := hA.cell (j := 3) rfl
        have B0 := hB.cell (j := 0) rfl
        have B1 := hB.cell (j := 1) rfl
        have B2 := hB.cell (j := 2) rfl
        have B3 := hB.cell (j := 3) rfl
        have C0 := hC.cell (j := 0) rfl
        have C1 := hC.cell (j := 1) rfl
        have C2 := hC.cell (j := 2) rfl
        have C3 := hC.cell (j := 3) rfl
        clear k9
        go_wp2
        go_ret
        exact ⟨rfl, kw⟩
      · have ea : (a1 != 0) = true := by simpa using ha
        by_cases hb : b1 = 0
        · have eb : (b1 == 0) = true := by simpa using hb
          have hxx := HP.out ha hb
          replace ha := hid ha
          replace hb := hid hb
          rw [hx] at hxx
          cases hxx
        · have eb : (b1 == 0) = false := by simpa using hb
          replace ha := hid ha
          replace hb := hid hb
          go_wp2_with fail
          refine (bLess_at (a1, a2, a3, a4) (b1, b2, b3, b4) _).mono ?_
          rintro e w9 ⟨rfl, k9'⟩
          rw [hx]
          have k9 := k9'.kp
          clear k9'
          obtain ⟨wq, hwq⟩ : ∃ wq, wq = w9 := ⟨_, rfl⟩
          subst hwq
          replace hA := hA.keep ((k9).block (hA.lt (by simp)))
          replace hB := hB.keep ((k9).block (hB.lt (by simp)))
          replace hC := hC.keep ((k9).block (hC.lt (by simp)))
          replace kw := kw.trans k9
          clear A0 A1 A2 A3 B0 B1 B2 B3 C0 C1 C2 C3
          have A0 := hA.cell (j := 0) rfl
          have A1 := hA.cell (j := 1) rfl
          have A2 := hA.cell (j := 2) rfl
          have A3 := hA.cell (j := 3) rfl
          have B0 := hB.cell (j := 0) rfl
          have B1 := hB.cell (j := 1) rfl
          have B2 := hB.cell (j := 2) rfl
          have B3 := hB.cell (j := 3) rfl
          have C0 := hC.cell (j := 0) rfl
          have C1 := hC.cell (j := 1) rfl
          have C2 := hC.cell (j := 2) rfl
          have C3 := hC.cell (j := 3) rfl
          clear k9
          go_wp2
          go_ret
          exact ⟨rfl, kw⟩
    · replace hy := eq_false_of_ne_true hy
      have hne : decide (((a1, a2, a3, a4) : Pr) = (b1, b2, b3, b4)) = true := decide_eq_true (HE.out hx hy)
      rw [hne] at heq
      go_upto_region 3 with (fail)
      refine G2.wp_region_growT Kp [] 11 72 (G2.pvL [G2.eqv (.agg #[.int .i64 a1, .int .i64 a2, .int .i64 a3, .int .i64 a4]), G2.eqv (.agg #[.int .i64 b1, .int .i64 b2, .int .i64 b3, .int .i64 b4]), G2.eqv (.bool false), G2.eqv (.agg #[.int .i64 a1, .int .i64 a2, .int .i64 a3, .int .i64 a4]), G2.eqv (.agg #[.int .i64 b1, .int .i64 b2, .int .i64 b3, .int .i64 b4]), G2.eqv (.bool false), G2.eqv (.bool false), G2.eqv (.bool false), G2.eqv (.agg #[.int .i64 a1, .int .i64 a2, .int .i64 a3, .int .i64 a4]), G2.eqv (.agg #[.int .i64 a1, .int .i64 a2, .int .i64 a3, .int .i64 a4]), G2.eqv (.bool false)]) (by kernel_rfl) (by kernel_rfl) rfl (fun x => Kp.refl x) (fun _ _ _ h k => h.trans k) (Kp.refl _).drew (fun _ _ _ _ _ h => h) (G2.pvL_keep (G2.stabL_cons (G2.stab_eq _) (G2.stabL_cons (G2.stab_eq _) (G2.stabL_cons (G2.stab_eq _) (G2.stabL_cons (G2.stab_eq _) (G2.stabL_cons (G2.stab_eq _) (G2.stabL_cons (G2.stab_eq _) (G2.stabL_cons (G2.stab_eq _) (G2.stabL_cons (G2.stab_eq _) (G2.stabL_cons (G2.stab_eq _) (G2.stabL_cons (G2.stab_eq _) (G2.stabL_cons (G2.stab_eq _) (G2.stabL_nil))))))))))))) (G2.stepsT_cons 0 ?_ (G2.stepsT_cons 1 ?_ (G2.stepsT_cons 2 ?_ (G2.stepsT_cons 3 ?_ (G2.stepsT_cons 4 ?_ (G2.stepsT_cons 5 ?_ (G2.stepsT_cons 6 ?_ (G2.stepsT_cons 7 ?_ (G2.stepsT_cons 8 ?_ (G2.stepsT_cons 9 ?_ (G2.stepsT_cons 10 ?_ (G2.stepsT_nil _ _ _)))))))))))) ?_ ?_
      · intro a w' hk hF hD K hK
        have h3 : a.tmps[3]?.getD undef = .pointer (some ⟨k0, 0, none⟩) := hF 3 (by kernel_rfl)
        clear hF hD
        have z0 := hk.cellS A0
        have z1 := hk.cellS A1
        have z2 := hk.cellS A2
        have z3 := hk.cellS A3
        go_simp
        exact hK.out _ _ (Kp.refl _) rfl
      · intro a w' hk hF hD K hK
        have h4 : a.tmps[4]?.getD undef = .pointer (some ⟨k0 + 1, 0, none⟩) := hF 4 (by kernel_rfl)
        clear hF hD
        have z0 := hk.cellS B0
        have z1 := hk.cellS B1
        have z2 := hk.cellS B2
        have z3 := hk.cellS B3
        go_simp
        exact hK.out _ _ (Kp.refl _) rfl
      · intro a w' hk hF hD K hK
        have h9 : a.tmps[9]?.getD undef = .agg #[.int .i64 a1, .int .i64 a2, .int .i64 a3, .int .i64 a4] := hD 0 (by kernel_rfl)
        have h10 : a.tmps[10]?.getD undef = .agg #[.int .i64 b1, .int .i64 b2, .int .i64 b3, .int .i64 b4] := hD 1 (by kernel_rfl)
        clear hF hD
        go_simp
        refine (bLess_at (a1, a2, a3, a4) (b1, b2, b3, b4) _).mono ?_
        rintro e w9 ⟨rfl, hk9⟩
        rw [hx]
        exact hK.out _ _ hk9.kp rfl
      · intro a w' hk hF hD K hK
        have h3 : a.tmps[3]?.getD undef = .pointer (some ⟨k0, 0, none⟩) := hF 3 (by kernel_rfl)
        clear hF hD
        have z0 := hk.cellS A0
        have z1 := hk.cellS A1
        have z2 := hk.cellS A2
        have z3 := hk.cellS A3
        go_simp
        exact hK.out _ _ (Kp.refl _) rfl
      · intro a w' hk hF hD K hK
        have h4 : a.tmps[4]?.getD undef = .pointer (some ⟨k0 + 1, 0, none⟩) := hF 4 (by kernel_rfl)
        clear hF hD
        have z0 := hk.cellS B0
        have z1 := hk.cellS B1
        have z2 := hk.cellS B2
        have z3 := hk.cellS B3
        go_simp
        exact hK.out _ _ (Kp.refl _) rfl
      · intro a w' hk hF hD K hK
        have h12 : a.tmps[12]?.getD undef = .agg #[.int .i64 a1, .int .i64 a2, .int .i64 a3, .int .i64 a4] := hD 3 (by kernel_rfl)
        have h13 : a.tmps[13]?.getD undef = .agg #[.int .i64 b1, .int .i64 b2, .int .i64 b3, .int .i64 b4] := hD 4 (by kernel_rfl)
        clear hF hD
        go_simp
        refine (rLess_any (a1, a2, a3, a4) (b1, b2, b3, b4) _).mono ?_
        rintro e w9 ⟨rfl, hk9⟩
        rw [hx]
        exact hK.out _ _ hk9 rfl
      · intro a w' hk hF hD K hK
        have h11 : a.tmps[11]?.getD undef = .bool false := hD 2 (by kernel_rfl)
        have h14 : a.tmps[14]?.getD undef = .bool false := hD 5 (by kernel_rfl)
        clear hF hD
        go_simp
        exact hK.out _ _ (Kp.refl _) rfl
      · intro a w' hk hF hD K hK
        have h15 : a.tmps[15]?.getD undef = .bool false := hD 6 (by kernel_rfl)
        clear hF hD
        go_simp
        exact hK.out _ _ (Kp.refl _) rfl
      · intro a w' hk hF hD K hK
        have h3 : a.tmps[3]?.getD undef = .pointer (some ⟨k0, 0, none⟩) := hF 3 (by kernel_rfl)
        have h16 : a.tmps[16]?.getD undef = .bool false := hD 7 (by kernel_rfl)
        have g16 := guard_get h16
        clear hF hD
        have z0 := hk.cellS A0
        have z1 := hk.cellS A1
        have z2 := hk.cellS A2
        have z3 := hk.cellS A3
        go_simp
        exact hK.out _ _ (Kp.refl _) rfl
      · intro a w' hk hF hD K hK
        have h3 : a.tmps[3]?.getD undef = .pointer (some ⟨k0, 0, none⟩) := hF 3 (by kernel_rfl)
        have h16 : a.tmps[16]?.getD undef = .bool false := hD 7 (by kernel_rfl)
        have g16 := guard_get h16
        clear hF hD
        have z0 := hk.cellS A0
        have z1 := hk.cellS A1
        have z2 := hk.cellS A2
        have z3 := hk.cellS A3
        go_simp
        exact hK.out _ _ (Kp.refl _) rfl
      · intro a w' hk hF hD K hK
        have h17 : a.tmps[17]?.getD undef = .agg #[.int .i64 a1, .int .i64 a2, .int .i64 a3, .int .i64 a4] := hD 8 (by kernel_rfl)
        have h18 : a.tmps[18]?.getD undef = .agg #[.int .i64 a1, .int .i64 a2, .int .i64 a3, .int .i64 a4] := hD 9 (by kernel_rfl)
        have h16 : a.tmps[16]?.getD undef = .bool false := hD 7 (by kernel_rfl)
        have g16 := guard_get h16
        clear hF hD
        go_simp
        refine (bLess_at (a1, a2, a3, a4) (a1, a2, a3, a4) _).mono ?_
        rintro e w9 ⟨rfl, hk9⟩
        rw [lessB_irrefl]
        exact hK.out _ _ hk9.kp rfl
      · exact fun i0 hi0 => by simp at hi0
      intro v w9 k9 hv
      have v7 : v 7 = .bool false := hv 7 (by omega)
      have v10 : v 10 = .bool false := hv 10 (by omega)
      clear hv
      simp only [G2.growPut, G2.gSlot, List.getElem?_toArray, List.getElem?_cons_zero, List.getElem?_cons_succ, Option.bind_some, List.setIfInBounds_toArray, List.set_cons_zero, List.set_cons_succ, List.drop_succ_cons, List.drop_zero, v7, v10]
      obtain ⟨wq, hwq⟩ : ∃ wq, wq = w9 := ⟨_, rfl⟩
      subst hwq
      replace hA := hA.keep ((k9).block (hA.lt (by simp)))
      replace hB := hB.keep ((k9).block (hB.lt (by simp)))
      replace hC := hC.keep ((k9).block (hC.lt (by simp)))
      replace kw := kw.trans k9
      clear A0 A1 A2 A3 B0 B1 B2 B3 C0 C1 C2 C3
      have A0 := hA.cell (j := 0) rfl
      have A1 := hA.cell (j := 1) rfl
      have A2 := hA.cell (j := 2) rfl
      have A3 := hA.cell (j := 3) rfl
      have B0 := hB.cell (j := 0) rfl
      have B1 := hB.cell (j := 1) rfl
      have B2 := hB.cell (j := 2) rfl
      have B3 := hB.cell (j := 3) rfl
      have C0 := hC.cell (j := 0) rfl
      have C1 := hC.cell (j := 1) rfl
      have C2 := hC.cell (j := 2) rfl
      have C3 := hC.cell (j := 3) rfl
      clear k9
      go_upto_region 5 with (fail)
      refine G2.wp_region_growT Kp [] 21 72 (G2.pvL [G2.eqv (.agg #[.int .i64 a1, .int .i64 a2, .int .i64 a3, .int .i64 a4]), G2.eqv (.agg #[.int .i64 b1, .int .i64 b2, .int .i64 b3, .int .i64 b4]), G2.eqv (.bool true), G2.eqv (.agg #[.int .i64 a1, .int .i64 a2, .int .i64 a3, .int .i64 a4]), G2.eqv (.agg #[.int .i64 b1, .int .i64 b2, .int .i64 b3, .int .i64 b4]), G2.eqv (.bool false), G2.eqv (.bool false), G2.eqv (.agg #[.int .i64 b1, .int .i64 b2, .int .i64 b3, .int .i64 b4]), G2.eqv (.agg #[.int .i64 a1, .int .i64 a2, .int .i64 a3, .int .i64 a4]), G2.eqv (.bool false), G2.eqv (.bool false), G2.eqv (.bool false), G2.eqv (.bool false), G2.eqv (.agg #[.int .i64 a1, .int .i64 a2, .int .i64 a3, .int .i64 a4]), G2.eqv (.agg #[.int .i64 b1, .int .i64 b2, .int .i64 b3, .int .i64 b4]), G2.eqv (.bool false), G2.eqv (.bool false), G2.eqv (undef), G2.eqv (undef), G2.eqv (undef), G2.eqv (.bool false)]) (by kernel_rfl) (by kernel_rfl) rfl (fun x => Kp.refl x) (fun _ _ _ h k => h.trans k) (Kp.refl _).drew (fun _ _ _ _ _ h => h) (G2.pvL_keep (G2.stabL_cons (G2.stab_eq _) (G2.stabL_cons (G2.stab_eq _) (G2.stabL_cons (G2.stab_eq _) (G2.stabL_cons (G2.stab_eq _) (G2.stabL_cons (G2.stab_eq _) (G2.stabL_cons (G2.stab_eq _) (G2.stabL_cons (G2.stab_eq _) (G2.stabL_cons (G2.stab_eq _) (G2.stabL_cons (G2.stab_eq _) (G2.stabL_cons (G2.stab_eq _) (G2.stabL_cons (G2.stab_eq _) (G2.stabL_cons (G2.stab_eq _) (G2.stabL_cons (G2.stab_eq _) (G2.stabL_cons (G2.stab_eq _) (G2.stabL_cons (G2.stab_eq _) (G2.stabL_cons (G2.stab_eq _) (G2.stabL_cons (G2.stab_eq _) (G2.stabL_cons (G2.stab_eq _) (G2.stabL_cons (G2.stab_eq _) (G2.stabL_cons (G2.stab_eq _) (G2.stabL_cons (G2.stab_eq _) (G2.stabL_nil))))))))))))))))))))))) (G2.stepsT_cons 0 ?_ (G2.stepsT_cons 1 ?_ (G2.stepsT_cons 2 ?_ (G2.stepsT_cons 3 ?_ (G2.stepsT_cons 4 ?_ (G2.stepsT_cons 5 ?_ (G2.stepsT_cons 6 ?_ (G2.stepsT_cons 7 ?_ (G2.stepsT_cons 8 ?_ (G2.stepsT_cons 9 ?_ (G2.stepsT_cons 10 ?_ (G2.stepsT_cons 11 ?_ (G2.stepsT_cons 12 ?_ (G2.stepsT_cons 13 ?_ (G2.stepsT_cons 14 ?_ (G2.stepsT_cons 15 ?_ (G2.stepsT_cons 16 ?_ (G2.stepsT_cons 17 ?_ (G2.stepsT_cons 18 ?_ (G2.stepsT_cons 19 ?_ (G2.stepsT_cons 20 ?_ (G2.stepsT_nil _ _ _)))))))))))))))))))))) ?_ ?_
      · intro a w' hk hF hD K hK
        have h3 : a.tmps[3]?.getD undef = .pointer (some ⟨k0, 0, none⟩) := hF 3 (by kernel_rfl)
        clear hF hD
        have z0 := hk.cellS A0
        have z1 := hk.cellS A1
        have z2 := hk.cellS A2
        have z3 := hk.cellS A3
        go_simp
        exact hK.out _ _ (Kp.refl _) rfl
      · intro a w' hk hF hD K hK
        have h4 : a.tmps[4]?.getD undef = .pointer (some ⟨k0 + 1, 0, none⟩) := hF 4 (by kernel_rfl)
        clear hF hD
        have z0 := hk.cellS B0
        have z1 := hk.cellS B1
        have z2 := hk.cellS B2
        have z3 := hk.cellS B3
        go_simp
        exact hK.out _ _ (Kp.refl _) rfl
      · intro a w' hk hF hD K hK
        have h21 : a.tmps[21]?.getD undef = .agg #[.int .i64 a1, .int .i64 a2, .int .i64 a3, .int .i64 a4] := hD 0 (by kernel_rfl)
        have h22 : a.tmps[22]?.getD undef = .agg #[.int .i64 b1, .int .i64 b2, .int .i64 b3, .int .i64 b4] := hD 1 (by kernel_rfl)
        clear hF hD
        have z0 := heq w'
        go_simp
        exact hK.out _ _ (Kp.refl _) rfl
      · intro a w' hk hF hD K hK
        have h3 : a.tmps[3]?.getD undef = .pointer (some ⟨k0, 0, none⟩) := hF 3 (by kernel_rfl)
        clear hF hD
        have z0 := hk.cellS A0
        have z1 := hk.cellS A1
        have z2 := hk.cellS A2
        have z3 := hk.cellS A3
        go_simp
        exact hK.out _ _ (Kp.refl _) rfl
      · intro a w' hk hF hD K hK
        have h4 : a.tmps[4]?.getD undef = .pointer (some ⟨k0 + 1, 0, none⟩) := hF 4 (by kernel_rfl)
        clear hF hD
        have z0 := hk.cellS B0
        have z1 := hk.cellS B1
        have z2 := hk.cellS B2
        have z3 := hk.cellS B3
        go_simp
        exact hK.out _ _ (Kp.refl _) rfl
      · intro a w' hk hF hD K hK
        have h24 : a.tmps[24]?.getD undef = .agg #[.int .i64 a1, .int .i64 a2, .int .i64 a3, .int .i64 a4] := hD 3 (by kernel_rfl)
        have h25 : a.tmps[25]?.getD undef = .agg #[.int .i64 b1, .int .i64 b2, .int .i64 b3, .int .i64 b4] := hD 4 (by kernel_rfl)
        clear hF hD
        go_simp
        refine (bLess_at (a1, a2, a3, a4) (b1, b2, b3, b4) _).mono ?_
        rintro e w9 ⟨rfl, hk9⟩
        rw [hx]
        exact hK.out _ _ hk9.kp rfl
      · intro a w' hk hF hD K hK
        have h26 : a.tmps[26]?.getD undef = .bool false := hD 5 (by kernel_rfl)
        clear hF hD
        go_simp
        exact hK.out _ _ (Kp.refl _) rfl
      · intro a w' hk hF hD K hK
        have h4 : a.tmps[4]?.getD undef = .pointer (some ⟨k0 + 1, 0, none⟩) := hF 4 (by kernel_rfl)
        have h27 : a.tmps[27]?.getD undef = .bool false := hD 6 (by kernel_rfl)
        have g27 := guard_get h27
        clear hF hD
        have z0 := hk.cellS B0
        have z1 := hk.cellS B1
        have z2 := hk.cellS B2
        have z3 := hk.cellS B3
        go_simp
        exact hK.out _ _ (Kp.refl _) rfl
      · intro a w' hk hF hD K hK
        have h3 : a.tmps[3]?.getD undef = .pointer (some ⟨k0, 0, none⟩) := hF 3 (by kernel_rfl)
        have h27 : a.tmps[27]?.getD undef = .bool false := hD 6 (by kernel_rfl)
        have g27 := guard_get h27
        clear hF hD
        have z0 := hk.cellS A0
        have z1 := hk.cellS A1
        have z2 := hk.cellS A2
        have z3 := hk.cellS A3
        go_simp
        exact hK.out _ _ (Kp.refl _) rfl
      · intro a w' hk hF hD K hK
        have h28 : a.tmps[28]?.getD undef = .agg #[.int .i64 b1, .int .i64 b2, .int .i64 b3, .int .i64 b4] := hD 7 (by kernel_rfl)
        have h29 : a.tmps[29]?.getD undef = .agg #[.int .i64 a1, .int .i64 a2, .int .i64 a3, .int .i64 a4] := hD 8 (by kernel_rfl)
        have h27 : a.tmps[27]?.getD undef = .bool false := hD 6 (by kernel_rfl)
        have g27 := guard_get h27
        clear hF hD
        go_simp
        refine (bLess_at (b1, b2, b3, b4) (a1, a2, a3, a4) _).mono ?_
        rintro e w9 ⟨rfl, hk9⟩
        rw [hy]
        exact hK.out _ _ hk9.kp rfl
      · intro a w' hk hF hD K hK
        have h27 : a.tmps[27]?.getD undef = .bool false := hD 6 (by kernel_rfl)
        have h30 : a.tmps[30]?.getD undef = .bool false := hD 9 (by kernel_rfl)
        clear hF hD
        go_simp
        exact hK.out _ _ (Kp.refl _) rfl
      · intro a w' hk hF hD K hK
        have h23 : a.tmps[23]?.getD undef = .bool true := hD 2 (by kernel_rfl)
        have h31 : a.tmps[31]?.getD undef = .bool false := hD 10 (by kernel_rfl)
        clear hF hD
        go_simp
        exact hK.out _ _ (Kp.refl _) rfl
      · intro a w' hk hF hD K hK
        have h32 : a.tmps[32]?.getD undef = .bool false := hD 11 (by kernel_rfl)
        clear hF hD
        go_simp
        exact hK.out _ _ (Kp.refl _) rfl
      · intro a w' hk hF hD K hK
        have h3 : a.tmps[3]?.getD undef = .pointer (some ⟨k0, 0, none⟩) := hF 3 (by kernel_rfl)
        have h33 : a.tmps[33]?.getD undef = .bool false := hD 12 (by kernel_rfl)
        have g33 := guard_get h33
        clear hF hD
        have z0 := hk.cellS A0
        have z1 := hk.cellS A1
        have z2 := hk.cellS A2
        have z3 := hk.cellS A3
        go_simp
        exact hK.out _ _ (Kp.refl _) rfl
      · intro a w' hk hF hD K hK
        have h4 : a.tmps[4]?.getD undef = .pointer (some ⟨k0 + 1, 0, none⟩) := hF 4 (by kernel_rfl)
        have h33 : a.tmps[33]?.getD undef = .bool false := hD 12 (by kernel_rfl)
        have g33 := guard_get h33
        clear hF hD
        have z0 := hk.cellS B0
        have z1 := hk.cellS B1
        have z2 := hk.cellS B2
        have z3 := hk.cellS B3
        go_simp
        exact hK.out _ _ (Kp.refl _) rfl
      · intro a w' hk hF hD K hK
        have h34 : a.tmps[34]?.getD undef = .agg #[.int .i64 a1, .int .i64 a2, .int .i64 a3, .int .i64 a4] := hD 13 (by kernel_rfl)
        have h35 : a.tmps[35]?.getD undef = .agg #[.int .i64 b1, .int .i64 b2, .int .i64 b3, .int .i64 b4] := hD 14 (by kernel_rfl)
        have h33 : a.tmps[33]?.getD undef = .bool false := hD 12 (by kernel_rfl)
        have g33 := guard_get h33
        clear hF hD
        go_simp
        refine (bLess_at (a1, a2, a3, a4) (b1, b2, b3, b4) _).mono ?_
        rintro e w9 ⟨rfl, hk9⟩
        rw [hx]
        exact hK.out _ _ hk9.kp rfl
      · intro a w' hk hF hD K hK
        have h36 : a.tmps[36]?.getD undef = .bool false := hD 15 (by kernel_rfl)
        have h33 : a.tmps[33]?.getD undef = .bool false := hD 12 (by kernel_rfl)
        have g33 := guard_get h33
        clear hF hD
        go_simp
        exact hK.out _ _ (Kp.refl _) rfl
      · intro a w' hk hF hD K hK
        have h4 : a.tmps[4]?.getD undef = .pointer (some ⟨k0 + 1, 0, none⟩) := hF 4 (by kernel_rfl)
        have h37 : a.tmps[37]?.getD undef = .bool false := hD 16 (by kernel_rfl)
        have g37 := guard_get h37
        clear hF hD
        go_simp
        exact hK.out _ _ (Kp.refl _) rfl
      · intro a w' hk hF hD K hK
        have h3 : a.tmps[3]?.getD undef = .pointer (some ⟨k0, 0, none⟩) := hF 3 (by kernel_rfl)
        have h37 : a.tmps[37]?.getD undef = .bool false := hD 16 (by kernel_rfl)
        have g37 := guard_get h37
        clear hF hD
        go_simp
        exact hK.out _ _ (Kp.refl _) rfl
      · intro a w' hk hF hD K hK
        have h38 : a.tmps[38]?.getD undef = undef := hD 17 (by kernel_rfl)
        have h39 : a.tmps[39]?.getD undef = undef := hD 18 (by kernel_rfl)
        have h37 : a.tmps[37]?.getD undef = .bool false := hD 16 (by kernel_rfl)
        have g37 := guard_get h37
        clear hF hD
        go_simp
        exact hK.out _ _ (Kp.refl _) rfl
      · intro a w' hk hF hD K hK
        have h37 : a.tmps[37]?.getD undef = .bool false := hD 16 (by kernel_rfl)
        have h40 : a.tmps[40]?.getD undef = undef := hD 19 (by kernel_rfl)
        have h33 : a.tmps[33]?.getD undef = .bool false := hD 12 (by kernel_rfl)
        have g33 := guard_get h33
        clear hF hD
        go_simp
        exact hK.out _ _ (Kp.refl _) rfl
      · exact fun i0 hi0 => by simp at hi0
      intro v w9 k9 hv
      have v12 : v 12 = .bool false := hv 12 (by omega)
      have v20 : v 20 = .bool false := hv 20 (by omega)
      clear hv
      simp only [G2.growPut, G2.gSlot, List.getElem?_toArray, List.getElem?_cons_zero, List.getElem?_cons_succ, Option.bind_some, List.setIfInBounds_toArray, List.set_cons_zero, List.set_cons_succ, List.drop_succ_cons, List.drop_zero, v12, v20]
      obtain ⟨wq, hwq⟩ : ∃ wq, wq = w9 := ⟨_, rfl⟩
      subst hwq
      replace hA := hA.keep ((k9).block (hA.lt (by simp)))
      replace hB := hB.keep ((k9).block (hB.lt (by simp)))
      replace hC := hC.keep ((k9).block (hC.lt (by simp)))
      replace kw := kw.trans k9
      clear A0 A1 A2 A3 B0 B1 B2 B3 C0 C1 C2 C3
      have A0 := hA.cell (j := 0) rfl
      have A1 := hA.cell (j := 1) rfl
      have A2 := hA.cell (j := 2) rfl
      have A3 := hA.cell (j := 3) rfl
      have B0 := hB.cell (j := 0) rfl
      have B1 := hB.cell (j := 1) rfl
      have B2 := hB.cell (j := 2) rfl
      have B3 := hB.cell (j := 3) rfl
      have C0 := hC.cell (j := 0) rfl
      have C1 := hC.cell (j := 1) rfl
      have C2 := hC.cell (j := 2) rfl
      have C3 := hC.cell (j := 3) rfl
      clear k9
      by_cases ha : a1 = 0
      · have ea : (a1 != 0) = false := by simpa using ha
        replace ha := hid ha
        go_wp2_with fail
        refine (bLess_at (a1, a2, a3, a4) (b1, b2, b3, b4) _).mono ?_
        rintro e w9 ⟨rfl, k9'⟩
        rw [hx]
        have k9 := k9'.kp
        clear k9'
        obtain ⟨wq, hwq⟩ : ∃ wq, wq = w9 := ⟨_, rfl⟩
        subst hwq
        replace hA := hA.keep ((k9).block (hA.lt (by simp)))
        replace hB := hB.keep ((k9).block (hB.lt (by simp)))
        replace hC := hC.keep ((k9).block (hC.lt (by simp)))
        replace kw := kw.trans k9
        clear A0 A1 A2 A3 B0 B1 B2 B3 C0 C1 C2 C3
        have A0 := hA.cell (j := 0) rfl
        have A1 := hA.cell (j := 1) rfl
        have A2 := hA.cell (j := 2) rfl
        have A3 := hA.cell (j := 3) rfl
        have B0 := hB.cell (j := 0) rfl
        have B1 := hB.cell (j := 1) rfl
        have B2 := hB.cell (j := 2) rfl
        have B3 := hB.cell (j := 3) rfl
        have C0 := hC.cell (j := 0) rfl
        have C1 := hC.cell (j := 1) rfl
        have C2 := hC.cell (j := 2) rfl
        have C3 := hC.cell (j := 3) rfl
        clear k9
        go_wp2
        go_ret
        exact ⟨rfl, kw⟩
      · have ea : (a1 != 0) = true := by simpa using ha
        by_cases hb : b1 = 0
        · have eb : (b1 == 0) = true := by simpa using hb
          have hxx := HP.out ha hb
          replace ha := hid ha
          replace hb := hid hb
          rw [hx] at hxx
          cases hxx
        · have eb : (b1 == 0) = false := by simpa using hb
          replace ha := hid ha
          replace hb := hid hb
          go_wp2_with fail
          refine (bLess_at (a1, a2, a3, a4) (b1, b2, b3, b4) _).mono ?_
          rintro e w9 ⟨rfl, k9'⟩
          rw [hx]
          have k9 := k9'.kp
          clear k9'
          obtain ⟨wq, hwq⟩ : ∃ wq, wq = w9 := ⟨_, rfl⟩
          subst hwq
          replace hA := hA.keep ((k9).block (hA.lt (by simp)))
          replace hB := hB.keep ((k9).block (hB.lt (by simp)))
          replace hC := hC.keep ((k9).block (hC.lt (by simp)))
          replace kw := kw.trans k9
          clear A0 A1 A2 A3 B0 B1 B2 B3 C0 C1 C2 C3
          have A0 := hA.cell (j := 0) rfl
          have A1 := hA.cell (j := 1) rfl
          have A2 := hA.cell (j := 2) rfl
          have A3 := hA.cell (j := 3) rfl
          have B0 := hB.cell (j := 0) rfl
          have B1 := hB.cell (j := 1) rfl
          have B2 := hB.cell (j := 2) rfl
          have B3 := hB.cell (j := 3) rfl
          have C0 := hC.cell (j := 0) rfl
          have C1 := hC.cell (j := 1) rfl
          have C2 := hC.cell (j := 2) rfl
          have C3 := hC.cell (j := 3) rfl
          clear k9
          go_wp2
          go_ret
          exact ⟨rfl, kw⟩
theorem own : ownKnob Try.prog.godebug = none := by kernel_rfl
theorem laidOut : laidOutB Try.prog = true := by kernel_rfl
set_option maxRecDepth 100000 in
theorem lifted (os : Os) (started : os.Started) (H : Type) (enc : TypeId × Value → H) :
    ReturnsInHanded {} Try.checked os 3 .any (Rows.brokerOrderSpec.pre6 enc Try.prog Try.f3 Rows.brokerOrderRow.domain false) (Rows.brokerOrderSpec.post enc Try.prog Try.f3 false true false false) := by
  refine returnsInHanded_of_change (C := Try.checked) own started (by kernel_rfl) Try.func3
    (ChangeSpec.witness6 (enc := enc) (C := Try.checked) false ⟨#[], #[.agg #[.int .i64 0, .int .i64 0, .int .i64 0, .int .i64 0], .agg #[.int .i64 0, .int .i64 0, .int .i64 0, .int .i64 0], .agg #[.int .i64 0, .int .i64 0, .int .i64 0, .int .i64 0]], []⟩ 8 (by kernel_rfl) (by kernel_rfl) (by kernel_rfl) (by kernel_rfl)) ?_
  intro W base args ds gs before hval0 hW hcnd _
  have hval : ∀ (j : Nat) t v, Try.f3.params[j]? = some t → args[j]? = some v → Value.okWide Try.prog W .any base t v := hval0
  have hW' := hW
  obtain ⟨p, q, hA0, hV, rfl, hfz, hnd⟩ := hW
  have hA : DataW.TrodAll enc Try.prog W 0 (fun _ => true) true Try.f3.params.toList args.toList ds p := hA0
  rw [Try.params3] at hA hval
  obtain ⟨v0, vs0, d0, ds0, p0, q0, hargs, rfl, rfl, h0, r0⟩ := trodAll_cons hA
  obtain ⟨v1, vs1, d1, ds1, p1, q1, rfl, rfl, rfl, h1, r1⟩ := trodAll_cons r0
  obtain ⟨v2, vs2, d2, ds2, p2, q2, rfl, rfl, rfl, h2, r2⟩ := trodAll_cons r1
  obtain ⟨rfl, rfl, rfl⟩ := trodAll_nil r2
  obtain rfl : args = #[v0, v1, v2] := by cases args; simp_all
  obtain ⟨rfl, rfl⟩ := trodVars_none hV
  have lt0 : ∀ x ∈ p0, x.block < W.heap.size := by obtain ⟨m, hm⟩ := h0; exact DataW.trod_lt m _ _ _ hm
  have lt1 : ∀ x ∈ p1, x.block < W.heap.size := by obtain ⟨m, hm⟩ := h1; exact DataW.trod_lt m _ _ _ hm
  have lt2 : ∀ x ∈ p2, x.block < W.heap.size := by obtain ⟨m, hm⟩ := h2; exact DataW.trod_lt m _ _ _ hm
  obtain ⟨cs0, rfl, hsz0⟩ := okWide_struct Try.underlying23 (hval 0 23 v0 rfl rfl)
  obtain ⟨n0, hn0⟩ := id h0
  obtain ⟨x0, hx0⟩ := opPr n0 cs0.toList _ hn0
  obtain rfl : cs0 = #[.int .i64 x0.1, .int .i64 x0.2.1, .int .i64 x0.2.2.1, .int .i64 x0.2.2.2] := by rw [← Array.toList_inj]; exact hx0
  obtain ⟨cs1, rfl, hsz1⟩ := okWide_struct Try.underlying23 (hval 1 23 v1 rfl rfl)
  obtain ⟨n1, hn1⟩ := id h1
  obtain ⟨x1, hx1⟩ := opPr n1 cs1.toList _ hn1
  obtain rfl : cs1 = #[.int .i64 x1.1, .int .i64 x1.2.1, .int .i64 x1.2.2.1, .int .i64 x1.2.2.2] := by rw [← Array.toList_inj]; exact hx1
  obtain ⟨cs2, rfl, hsz2⟩ := okWide_struct Try.underlying23 (hval 2 23 v2 rfl rfl)
  obtain ⟨n2, hn2⟩ := id h2
  obtain ⟨x2, hx2⟩ := opPr n2 cs2.toList _ hn2
  obtain rfl : cs2 = #[.int .i64 x2.1, .int .i64 x2.2.1, .int .i64 x2.2.2.1, .int .i64 x2.2.2.2] := by rw [← Array.toList_inj]; exact hx2
  clear hA0 hval0
  refine (walk x0 x1 x2 W).mono fun e W' ⟨he, bel⟩ => ?_
  subst he
  exact ⟨_, rfl, _, _, _, [], _, [], hW', trodAll_mk1 (shut_bool Try.underlying4 _), (trodAll_cons_mk (Below.trod laidOut (by kernel_rfl) (of_decide_eq_true (by kernel_rfl)) h0 bel lt0) (trodAll_cons_mk (Below.trod laidOut (by kernel_rfl) (of_decide_eq_true (by kernel_rfl)) h1 bel lt1) (trodAll_cons_mk (Below.trod laidOut (by kernel_rfl) (of_decide_eq_true (by kernel_rfl)) h2 bel lt2) trodAll_mk0))), rfl, Below.frame bel _, fun h => by cases h⟩
theorem over : Rows.brokerOrderRow.holds Try.pinned (OpenSpec.ofChange Rows.brokerOrderSpec) :=
  OpenClaim.holds_of_wide 3 Try.f3 rfl rfl rfl rfl rfl rfl rfl ⟨rfl, rfl, rfl, rfl, rfl⟩ rfl rfl rfl rfl rfl (by kernel_rfl) Try.func3 (by kernel_rfl)
    (of_decide_eq_true (by kernel_rfl)) (by unfold Func.isWrapper; first | (rw [if_pos (by decide +kernel)]; kernel_rfl) | (rw [if_neg (by decide +kernel)]; exact ⟨rfl, rfl⟩))
    (fun os started H enc _ => lifted os started H enc)
theorem proved : Rows.BrokerOrderSaid := over
end Go.Proofs.Ytbcekihjcgnhkaa.lawOrder41
