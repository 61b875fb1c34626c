
/-
The reference of the broker: equal needs, requests and lists of them: what is the same is found to be.
-/
import Derived.Test.YtbcekihjcgnhkaaBrA
namespace Go.Proofs.Ytbcekihjcgnhkaa
set_option linter.unusedSimpArgs false
set_option linter.unusedVariables false
open Go.RowKit

theorem eqNdO (w : World) (x : Nd) : Sem.run Try.prog (Op.equal 41 (ndV x) (ndV x)) w = .ok true w := by
  have h := eqNd4 w 9997 x.1.1 x.1.2.1 x.1.2.2 x.2 x.1.1 x.1.2.1 x.1.2.2 x.2
  simp only [beq_self_eq_true, Bool.and_self] at h
  exact h
theorem run_neq_nd (w : World) (x : Nd) : (binOp .neq 41 (ndV x) (ndV x)).run Try.prog w = .ok (.bool false) w := by
  simp only [binOp, Sem.run_bind, eqNdO, Result.andThen_ok, Sem.run_pure]
  rfl
set_option maxHeartbeats 4000000 in
theorem rSameNeeds_refl (va vb : Value) (l : List Nd) (w : World) (ha : Nds w va l) (hb : Nds w vb l) : Calls Try.prog 51 #[va, vb] w fun e w' => e = .returned (.bool true) ∧ Kp w w' := by
  obtain ⟨A, c, rfl, hc, hm⟩ := ha.form
  obtain ⟨B, d, rfl, hd, hn⟩ := hb.form
  have e0 : ((l.length : Int) != (l.length : Int)) = false := by simp
  go_enter Try.func51, Try.ntmps51
  go_wp2
  go_loopw [5] (fun i wr => ∃ k : Nat, k ≤ l.length ∧ i = .int .i64 (k : Int) ∧ Kp w wr) (fun i _ => l.length - (intOf i).toNat)
  case atStart => exact ⟨0, Nat.zero_le _, rfl, Kp.refl _⟩
  case round =>
    obtain ⟨k, hk, rfl, kr⟩ := hrel
    by_cases hlt : k < l.length
    · have hkl : (k : Int) < (l.length : Int) := by omega
      have hk0 : (0 : Int) ≤ (k : Int) := by omega
      obtain ⟨g, o, rfl, hg, i0, i1, i2, i3⟩ := (ha.keep (pl_stable _) kr).nd hlt
      obtain ⟨g', o', rfl, hg', j0, j1, j2, j3⟩ := (hb.keep (pl_stable _) kr).nd hlt
      generalize l[k] = x at *
      obtain ⟨⟨x1, x2, x3⟩, x4⟩ := x
      try dsimp only at i0 i1 i2 i3 j0 j1 j2 j3
      have hq := fun W => run_neq_nd W ((x1, x2, x3), x4)
      try dsimp only at hq
      go_upto_region 6 with (fail)
      refine G2.wp_region_growT Kp [] 8 26 (G2.pvL [G2.eqv (.slice (some ⟨g, o, none⟩) l.length c), G2.eqv (.int .i64 (k : Int)), G2.eqv (.pointer (some ⟨g, o + k * 4, none⟩)), G2.eqv (.agg #[.int .i64 x1, .int .i64 x2, .int .i64 x3, .int .i64 x4]), G2.eqv (.slice (some ⟨g', o', none⟩) l.length d), G2.eqv (.int .i64 (k : Int)), G2.eqv (.pointer (some ⟨g', o' + k * 4, none⟩)), G2.eqv (.agg #[.int .i64 x1, .int .i64 x2, .int .i64 x3, .int .i64 x4])]) (by kernel_rfl) (by kernel_rfl) rfl (fun x => Kp.refl x) (fun _ _ _ h k => h.trans k) (Kp.refl _).drew (fun _ _ _ _ _ h => h) (G2.pvL_keep (G2.stabL_cons (G2.stab_eq _) (G2.stabL_cons (G2.stab_eq _) (G2.stabL_cons (G2.stab_eq _) (G2.stabL_cons (G2.stab_eq _) (G2.stabL_cons (G2.stab_eq _) (G2.stabL_cons (G2.stab_eq _) (G2.stabL_cons (G2.stab_eq _) (G2.stabL_cons (G2.stab_eq _) (G2.stabL_nil)))))))))) (G2.stepsT_cons 0 ?_ (G2.stepsT_cons 1 ?_ (G2.stepsT_cons 2 ?_ (G2.stepsT_cons 3 ?_ (G2.stepsT_cons 4 ?_ (G2.stepsT_cons 5 ?_ (G2.stepsT_cons 6 ?_ (G2.stepsT_cons 7 ?_ (G2.stepsT_nil _ _ _))))))))) ?_ ?_
      · intro a w' hk hF hD K hK
        have h0 : a.tmps[0]?.getD undef = .slice (some ⟨g, o, none⟩) l.length c := hF 0 (by kernel_rfl)
        clear hF hD
        go_simp
        exact hK.out _ _ (Kp.refl _) rfl
      · intro a w' hk hF hD K hK
        have h5 : a.tmps[5]?.getD undef = .int .i64 (k : Int) := hF 5 (by kernel_rfl)
        clear hF hD
        go_simp
        exact hK.out _ _ (Kp.refl _) rfl
      · intro a w' hk hF hD K hK
        have h17 : a.tmps[17]?.getD undef = .slice (some ⟨g, o, none⟩) l.length c := hD 0 (by kernel_rfl)
        have h18 : a.tmps[18]?.getD undef = .int .i64 (k : Int) := hD 1 (by kernel_rfl)
        clear hF hD
        go_simp
        exact hK.out _ _ (Kp.refl _) rfl
      · intro a w' hk hF hD K hK
        have h19 : a.tmps[19]?.getD undef = .pointer (some ⟨g, o + k * 4, none⟩) := hD 2 (by kernel_rfl)
        clear hF hD
        have z0 := hk.cellS i0
        have z1 := hk.cellS i1
        have z2 := hk.cellS i2
        have z3 := hk.cellS i3
        go_simp
        exact hK.out _ _ (Kp.refl _) rfl
      · intro a w' hk hF hD K hK
        have h1 : a.tmps[1]?.getD undef = .slice (some ⟨g', o', none⟩) l.length d := hF 1 (by kernel_rfl)
        clear hF hD
        go_simp
        exact hK.out _ _ (Kp.refl _) rfl
      · intro a w' hk hF hD K hK
        have h5 : a.tmps[5]?.getD undef = .int .i64 (k : Int) := hF 5 (by kernel_rfl)
        clear hF hD
        go_simp
        exact hK.out _ _ (Kp.refl _) rfl
      · intro a w' hk hF hD K hK
        have h21 : a.tmps[21]?.getD undef = .slice (some ⟨g', o', none⟩) l.length d := hD 4 (by kernel_rfl)
        have h22 : a.tmps[22]?.getD undef = .int .i64 (k : Int) := hD 5 (by kernel_rfl)
        clear hF hD
        go_simp
        exact hK.out _ _ (Kp.refl _) rfl
      · intro a w' hk hF hD K hK
        have h23 : a.tmps[23]?.getD undef = .pointer (some ⟨g', o' + k * 4, none⟩) := hD 6 (by kernel_rfl)
        clear hF hD
        have z0 := hk.cellS j0
        have z1 := hk.cellS j1
        have z2 := hk.cellS j2
        have z3 := hk.cellS j3
        go_simp
        exact hK.out _ _ (Kp.refl _) rfl
      · exact fun i0 hi0 => by simp at hi0
      intro v w9 k9 hv
      have v3 : v 3 = .agg #[.int .i64 x1, .int .i64 x2, .int .i64 x3, .int .i64 x4] := hv 3 (by omega)
      have v7 : v 7 = .agg #[.int .i64 x1, .int .i64 x2, .int .i64 x3, .int .i64 x4] := hv 7 (by omega)
      clear hv
      simp only [G2.growPut, G2.gSlot, List.getElem?_toArray, List.getElem?_cons_zero, List.getElem?_cons_succ, Option.bind_some, List.setIfInBounds_toArray, List.set_cons_zero, List.set_cons_succ, List.drop_succ_cons, List.drop_zero, v3, v7]
      have kr9 := kr.trans k9
      clear i0 i1 i2 i3 j0 j1 j2 j3
      go_wp2_with fail
      go_roundw
      case rel => exact ⟨k + 1, hlt, by go_num, kr9⟩
      case measure => exact br_meas hlt
    · have hkl : ¬ (k : Int) < (l.length : Int) := by omega
      go_wp2
      go_ret
      exact ⟨rfl, kr⟩
set_option maxHeartbeats 4000000 in
theorem rSame41_refl (va vb : Value) (a : Ak) (w : World) (ha : Nds w va a.needs) (hb : Nds w vb a.needs) : Calls Try.prog 26 #[askV a va, askV a vb] w fun e w' => e = .returned (.bool true) ∧ Kp w w' := by
  obtain ⟨num, ⟨p1, p2, p3, p4⟩, l⟩ := a
  dsimp only at ha hb ⊢
  obtain ⟨A, c, rfl, hc, hm⟩ := ha.form
  obtain ⟨B, d, rfl, hd, hn⟩ := hb.form
  have hq := fun W => run_eql_pr W (p1, p2, p3, p4) (p1, p2, p3, p4)
  rw [decide_eq_true rfl] at hq
  try dsimp only at hq
  have e0 : (num == num) = true := by simp
  have k2 := ((Kp.refl w).alloc (.cells #[.int .i64 num, .int .i64 p1, .int .i64 p2, .int .i64 p3, .int .i64 p4, .slice A l.length c] 29)).alloc (.cells #[.int .i64 num, .int .i64 p1, .int .i64 p2, .int .i64 p3, .int .i64 p4, .slice B l.length d] 29)
  have hS := hid (rSameNeeds_refl _ _ l _ (ha.keep (pl_stable _) k2) (hb.keep (pl_stable _) k2))
  go_enter Try.func26, Try.ntmps26
  go_wp2_with fail
  refine hS.out.mono ?_
  rintro e w3 ⟨rfl, k3⟩
  go_wp2
  go_ret
  exact ⟨rfl, k2.trans k3⟩
set_option maxHeartbeats 4000000 in
theorem rSameAll_refl (va vb : Value) (l : List Ak) (w : World) (ha : Aks w va l) (hb : Aks w vb l) : Calls Try.prog 27 #[va, vb] w fun e w' => e = .returned (.bool true) ∧ Kp w w' := by
  obtain ⟨A, c, rfl, hc, hm⟩ := ha.form
  obtain ⟨B, d, rfl, hd, hn⟩ := hb.form
  have e0 : ((l.length : Int) != (l.length : Int)) = false := by simp
  go_enter Try.func27, Try.ntmps27
  go_wp2
  go_loopw [5] (fun i wr => ∃ k : Nat, k ≤ l.length ∧ i = .int .i64 (k : Int) ∧ Kp w wr) (fun i _ => l.length - (intOf i).toNat)
  case atStart => exact ⟨0, Nat.zero_le _, rfl, Kp.refl _⟩
  case round =>
    obtain ⟨k, hk, rfl, kr⟩ := hrel
    by_cases hlt : k < l.length
    · have hkl : (k : Int) < (l.length : Int) := by omega
      have hk0 : (0 : Int) ≤ (k : Int) := by omega
      obtain ⟨g, o, A1, c1, rfl, hg, i0, i1, i2, i3, i4, i5, hna⟩ := askA_cells (ha.keep rdAk_stable kr) hlt
      obtain ⟨g', o', B1, d1, rfl, hg', j0, j1, j2, j3, j4, j5, hnb⟩ := askA_cells (hb.keep rdAk_stable kr) hlt
      generalize l[k] = x at *
      obtain ⟨num, ⟨p1, p2, p3, p4⟩, ns⟩ := x
      try dsimp only at i0 i1 i2 i3 i4 i5 j0 j1 j2 j3 j4 j5 hna hnb
      have HS := hid (fun W (h : Kp wr W) => rSame41_refl (.slice A1 ns.length c1) (.slice B1 ns.length d1) ⟨num, (p1, p2, p3, p4), ns⟩ W (hna.keep (pl_stable _) h) (hnb.keep (pl_stable _) h))
      go_upto_region 6 with (fail)
      refine G2.wp_region_growT Kp [] 9 27 (G2.pvL [G2.eqv (.slice (some ⟨g, o, none⟩) l.length c), G2.eqv (.int .i64 (k : Int)), G2.eqv (.pointer (some ⟨g, o + k * 6, none⟩)), G2.eqv (.agg #[.int .i64 num, .int .i64 p1, .int .i64 p2, .int .i64 p3, .int .i64 p4, .slice A1 ns.length c1]), G2.eqv (.slice (some ⟨g', o', none⟩) l.length d), G2.eqv (.int .i64 (k : Int)), G2.eqv (.pointer (some ⟨g', o' + k * 6, none⟩)), G2.eqv (.agg #[.int .i64 num, .int .i64 p1, .int .i64 p2, .int .i64 p3, .int .i64 p4, .slice B1 ns.length d1]), G2.eqv (.bool true)]) (by kernel_rfl) (by kernel_rfl) rfl (fun x => Kp.refl x) (fun _ _ _ h k => h.trans k) (Kp.refl _).drew (fun _ _ _ _ _ h => h) (G2.pvL_keep (G2.stabL_cons (G2.stab_eq _) (G2.stabL_cons (G2.stab_eq _) (G2.stabL_cons (G2.stab_eq _) (G2.stabL_cons (G2.stab_eq _) (G2.stabL_cons (G2.stab_eq _) (G2.stabL_cons (G2.stab_eq _) (G2.stabL_cons (G2.stab_eq _) (G2.stabL_cons (G2.stab_eq _) (G2.stabL_cons (G2.stab_eq _) (G2.stabL_nil))))))))))) (G2.stepsT_cons 0 ?_ (G2.stepsT_cons 1 ?_ (G2.stepsT_cons 2 ?_ (G2.stepsT_cons 3 ?_ (G2.stepsT_cons 4 ?_ (G2.stepsT_cons 5 ?_ (G2.stepsT_cons 6 ?_ (G2.stepsT_cons 7 ?_ (G2.stepsT_cons 8 ?_ (G2.stepsT_nil _ _ _)))))))))) ?_ ?_
      · intro a w' hk hF hD K hK
        have h0 : a.tmps[0]?.getD undef = .slice (some ⟨g, o, none⟩) l.length c := hF 0 (by kernel_rfl)
        clear hF hD
        go_simp
        exact hK.out _ _ (Kp.refl _) rfl
      · intro a w' hk hF hD K hK
        have h5 : a.tmps[5]?.getD undef = .int .i64 (k : Int) := hF 5 (by kernel_rfl)
        clear hF hD
        go_simp
        exact hK.out _ _ (Kp.refl _) rfl
      · intro a w' hk hF hD K hK
        have h17 : a.tmps[17]?.getD undef = .slice (some ⟨g, o, none⟩) l.length c := hD 0 (by kernel_rfl)
        have h18 : a.tmps[18]?.getD undef = .int .i64 (k : Int) := hD 1 (by kernel_rfl)
        clear hF hD
        go_simp
        exact hK.out _ _ (Kp.refl _) rfl
      · intro a w' hk hF hD K hK
        have h19 : a.tmps[19]?.getD undef = .pointer (some ⟨g, o + k * 6, none⟩) := hD 2 (by kernel_rfl)
        clear hF hD
        have z0 := hk.cellS i0
        have z1 := hk.cellS i1
        have z2 := hk.cellS i2
        have z3 := hk.cellS i3
        have z4 := hk.cellS i4
        have z5 := hk.cellS i5
        go_simp
        exact hK.out _ _ (Kp.refl _) rfl
      · intro a w' hk hF hD K hK
        have h1 : a.tmps[1]?.getD undef = .slice (some ⟨g', o', none⟩) l.length d := hF 1 (by kernel_rfl)
        clear hF hD
        go_simp
        exact hK.out _ _ (Kp.refl _) rfl
      · intro a w' hk hF hD K hK
        have h5 : a.tmps[5]?.getD undef = .int .i64 (k : Int) := hF 5 (by kernel_rfl)
        clear hF hD
        go_simp
        exact hK.out _ _ (Kp.refl _) rfl
      · intro a w' hk hF hD K hK
        have h21 : a.tmps[21]?.getD undef = .slice (some ⟨g', o', none⟩) l.length d := hD 4 (by kernel_rfl)
        have h22 : a.tmps[22]?.getD undef = .int .i64 (k : Int) := hD 5 (by kernel_rfl)
        clear hF hD
        go_simp
        exact hK.out _ _ (Kp.refl _) rfl
      · intro a w' hk hF hD K hK
        have h23 : a.tmps[23]?.getD undef = .pointer (some ⟨g', o' + k * 6, none⟩) := hD 6 (by kernel_rfl)
        clear hF hD
        have z0 := hk.cellS j0
        have z1 := hk.cellS j1
        have z2 := hk.cellS j2
        have z3 := hk.cellS j3
        have z4 := hk.cellS j4
        have z5 := hk.cellS j5
        go_simp
        exact hK.out _ _ (Kp.refl _) rfl
      · intro a w' hk hF hD K hK
        have h20 : a.tmps[20]?.getD undef = .agg #[.int .i64 num, .int .i64 p1, .int .i64 p2, .int .i64 p3, .int .i64 p4, .slice A1 ns.length c1] := hD 3 (by kernel_rfl)
        have h24 : a.tmps[24]?.getD undef = .agg #[.int .i64 num, .int .i64 p1, .int .i64 p2, .int .i64 p3, .int .i64 p4, .slice B1 ns.length d1] := hD 7 (by kernel_rfl)
        clear hF hD
        go_simp
        refine (HS.out _ hk).mono ?_
        rintro e w9 ⟨rfl, hk9⟩
        exact hK.out _ _ hk9 rfl
      · exact fun i0 hi0 => by simp at hi0
      intro v w9 k9 hv
      have v8 : v 8 = .bool true := hv 8 (by omega)
      clear hv
      simp only [G2.growPut, G2.gSlot, List.getElem?_toArray, List.getElem?_cons_zero, List.getElem?_cons_succ, Option.bind_some, List.setIfInBounds_toArray, List.set_cons_zero, List.set_cons_succ, List.drop_succ_cons, List.drop_zero, v8]
      have kr9 := kr.trans k9
      clear i0 i1 i2 i3 i4 i5 j0 j1 j2 j3 j4 j5
      go_wp2_with fail
      go_roundw
      case rel => exact ⟨k + 1, hlt, by go_num, kr9⟩
      case measure => exact br_meas hlt
    · have hkl : ¬ (k : Int) < (l.length : Int) := by omega
      go_wp2
      go_ret
      exact ⟨rfl, kr⟩
end Go.Proofs.Ytbcekihjcgnhkaa
