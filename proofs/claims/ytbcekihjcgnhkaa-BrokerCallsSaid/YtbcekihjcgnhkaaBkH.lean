
/-
What is kept for the own request: the walk.
-/
import Derived.Test.YtbcekihjcgnhkaaBkG
namespace Go.Proofs.Ytbcekihjcgnhkaa
set_option linter.unusedSimpArgs false
set_option linter.unusedVariables false
open Go.RowKit

set_option maxRecDepth 8000 in
set_option maxHeartbeats 8000000 in
theorem bKeeps_any {S : Nat → Prop} {b mb : Nat} {s : Bk} {w : World} (x : Rt) (p : Pr) (h : BrW S w b mb s) :
    Calls Try.prog 46 #[.pointer (some ⟨b, 0, none⟩), rtV x, prV p] w fun e w' => e = .returned (.int .i64 (keeps s.own x p)) ∧ Kp w w' := by
  obtain ⟨x1, x2, x3⟩ := x
  obtain ⟨p1, p2, p3, p4⟩ := p
  obtain ⟨ov, hb, ho⟩ := h.box
  have hlt := h.lt
  have k1 := ((Kp.refl w).alloc (.cells #[.int .i64 x1, .int .i64 x2, .int .i64 x3] 39)).alloc (.cells #[.int .i64 p1, .int .i64 p2, .int .i64 p3, .int .i64 p4] 23)
  have hX := (Bx.new w #[.int .i64 x1, .int .i64 x2, .int .i64 x3] 39).keep (heap_alloc_old _ (.cells #[.int .i64 p1, .int .i64 p2, .int .i64 p3, .int .i64 p4] 23) (by simp))
  have hP := Bx.new (w.alloc (.cells #[.int .i64 x1, .int .i64 x2, .int .i64 x3] 39)) #[.int .i64 p1, .int .i64 p2, .int .i64 p3, .int .i64 p4] 23
  rw [World.size_alloc] at hP
  have hb1 := hb.kp k1 hlt
  have ho1 := ho.step k1.size fun k _ hk => k1.block hk
  clear h hb ho
  generalize hr : keeps s.own (x1, x2, x3) (p1, p2, p3, p4) = r
  have HR := hid hr
  clear hr
  go_enter Try.func46, Try.ntmps46
  go_upto_region 1 with (fail)
  generalize (w.alloc (.cells #[.int .i64 x1, .int .i64 x2, .int .i64 x3] 39)).alloc (.cells #[.int .i64 p1, .int .i64 p2, .int .i64 p3, .int .i64 p4] 23) = w1 at *
  have hxb := hX.lt (by simp)
  have hpb := hP.lt (by simp)
  generalize w.heap.size = rb at *
  cases hown : s.own with
  | none =>
    rw [hown] at ho1 HR
    obtain rfl : ov = .pointer none := ho1
    obtain rfl : r = 0 := HR.out.symm
    have c3 := hb1.cell (j := 3) rfl
    replace hown := hid hown
    refine G2.wp_region_growT Kp [] 16 45 (G2.pvL [G2.eqv (.pointer (some ⟨b, 0, none⟩)), G2.eqv (.pointer (some ⟨b, 0, none⟩)), G2.eqv (.pointer (some ⟨b, 3, none⟩)), G2.eqv (.pointer none), G2.eqv (.bool true), G2.eqv (.bool true), G2.eqv (undef), G2.eqv (undef), G2.eqv (undef), G2.eqv (undef), G2.eqv (undef), G2.eqv (undef), G2.eqv (undef), G2.eqv (undef), G2.eqv (undef), G2.eqv (undef)]) (by kernel_rfl) (by kernel_rfl) rfl (fun x => Kp.refl x) (fun _ _ _ h k => h.trans k) (Kp.refl _).drew (fun _ _ _ _ _ h => h) (G2.pvL_keep (G2.stabL_cons (G2.stab_eq _) (G2.stabL_cons (G2.stab_eq _) (G2.stabL_cons (G2.stab_eq _) (G2.stabL_cons (G2.stab_eq _) (G2.stabL_cons (G2.stab_eq _) (G2.stabL_cons (G2.stab_eq _) (G2.stabL_cons (G2.stab_eq _) (G2.stabL_cons (G2.stab_eq _) (G2.stabL_cons (G2.stab_eq _) (G2.stabL_cons (G2.stab_eq _) (G2.stabL_cons (G2.stab_eq _) (G2.stabL_cons (G2.stab_eq _) (G2.stabL_cons (G2.stab_eq _) (G2.stabL_cons (G2.stab_eq _) (G2.stabL_cons (G2.stab_eq _) (G2.stabL_cons (G2.stab_eq _) (G2.stabL_nil)))))))))))))))))) (G2.stepsT_cons 0 ?_ (G2.stepsT_cons 1 ?_ (G2.stepsT_cons 2 ?_ (G2.stepsT_cons 3 ?_ (G2.stepsT_cons 4 ?_ (G2.stepsT_cons 5 ?_ (G2.stepsT_cons 6 ?_ (G2.stepsT_cons 7 ?_ (G2.stepsT_cons 8 ?_ (G2.stepsT_cons 9 ?_ (G2.stepsT_cons 10 ?_ (G2.stepsT_cons 11 ?_ (G2.stepsT_cons 12 ?_ (G2.stepsT_cons 13 ?_ (G2.stepsT_cons 14 ?_ (G2.stepsT_cons 15 ?_ (G2.stepsT_nil _ _ _))))))))))))))))) ?_ ?_
    · intro a w' hk hF hD K hK
      have h0 : a.tmps[0]?.getD undef = .pointer (some ⟨b, 0, none⟩) := hF 0 (by kernel_rfl)
      clear hF hD
      go_simp
      exact hK.out _ _ (Kp.refl _) rfl
    · intro a w' hk hF hD K hK
      have h9 : a.tmps[9]?.getD undef = .pointer (some ⟨b, 0, none⟩) := hD 0 (by kernel_rfl)
      clear hF hD
      go_simp
      exact hK.out _ _ (Kp.refl _) rfl
    · intro a w' hk hF hD K hK
      have h10 : a.tmps[10]?.getD undef = .pointer (some ⟨b, 0, none⟩) := hD 1 (by kernel_rfl)
      clear hF hD
      go_simp
      exact hK.out _ _ (Kp.refl _) rfl
    · intro a w' hk hF hD K hK
      have h11 : a.tmps[11]?.getD undef = .pointer (some ⟨b, 3, none⟩) := hD 2 (by kernel_rfl)
      clear hF hD
      have z0 := hk.cellS c3
      go_simp
      exact hK.out _ _ (Kp.refl _) rfl
    · intro a w' hk hF hD K hK
      have h12 : a.tmps[12]?.getD undef = .pointer none := hD 3 (by kernel_rfl)
      clear hF hD
      go_simp
      exact hK.out _ _ (Kp.refl _) rfl
    · intro a w' hk hF hD K hK
      have h13 : a.tmps[13]?.getD undef = .bool true := hD 4 (by kernel_rfl)
      clear hF hD
      go_simp
      exact hK.out _ _ (Kp.refl _) rfl
    · intro a w' hk hF hD K hK
      have h0 : a.tmps[0]?.getD undef = .pointer (some ⟨b, 0, none⟩) := hF 0 (by kernel_rfl)
      have h14 : a.tmps[14]?.getD undef = .bool true := hD 5 (by kernel_rfl)
      have g14 := guard_get h14
      clear hF hD
      go_simp
      exact hK.out _ _ (Kp.refl _) rfl
    · intro a w' hk hF hD K hK
      have h15 : a.tmps[15]?.getD undef = undef := hD 6 (by kernel_rfl)
      have h14 : a.tmps[14]?.getD undef = .bool true := hD 5 (by kernel_rfl)
      have g14 := guard_get h14
      clear hF hD
      go_simp
      exact hK.out _ _ (Kp.refl _) rfl
    · intro a w' hk hF hD K hK
      have h16 : a.tmps[16]?.getD undef = undef := hD 7 (by kernel_rfl)
      have h14 : a.tmps[14]?.getD undef = .bool true := hD 5 (by kernel_rfl)
      have g14 := guard_get h14
      clear hF hD
      go_simp
      exact hK.out _ _ (Kp.refl _) rfl
    · intro a w' hk hF hD K hK
      have h17 : a.tmps[17]?.getD undef = undef := hD 8 (by kernel_rfl)
      have h14 : a.tmps[14]?.getD undef = .bool true := hD 5 (by kernel_rfl)
      have g14 := guard_get h14
      clear hF hD
      go_simp
      exact hK.out _ _ (Kp.refl _) rfl
    · intro a w' hk hF hD K hK
      have h18 : a.tmps[18]?.getD undef = undef := hD 9 (by kernel_rfl)
      have h14 : a.tmps[14]?.getD undef = .bool true := hD 5 (by kernel_rfl)
      have g14 := guard_get h14
      clear hF hD
      go_simp
      exact hK.out _ _ (Kp.refl _) rfl
    · intro a w' hk hF hD K hK
      have h19 : a.tmps[19]?.getD undef = undef := hD 10 (by kernel_rfl)
      have h14 : a.tmps[14]?.getD undef = .bool true := hD 5 (by kernel_rfl)
      have g14 := guard_get h14
      clear hF hD
      go_simp
      exact hK.out _ _ (Kp.refl _) rfl
    · intro a w' hk hF hD K hK
      have h20 : a.tmps[20]?.getD undef = undef := hD 11 (by kernel_rfl)
      have h14 : a.tmps[14]?.getD undef = .bool true := hD 5 (by kernel_rfl)
      have g14 := guard_get h14
      clear hF hD
      go_simp
      exact hK.out _ _ (Kp.refl _) rfl
    · intro a w' hk hF hD K hK
      have h5 : a.tmps[5]?.getD undef = .pointer (some ⟨rb + 1, 0, none⟩) := hF 5 (by kernel_rfl)
      have h14 : a.tmps[14]?.getD undef = .bool true := hD 5 (by kernel_rfl)
      have g14 := guard_get h14
      clear hF hD
      go_simp
      exact hK.out _ _ (Kp.refl _) rfl
    · intro a w' hk hF hD K hK
      have h21 : a.tmps[21]?.getD undef = undef := hD 12 (by kernel_rfl)
      have h22 : a.tmps[22]?.getD undef = undef := hD 13 (by kernel_rfl)
      have h14 : a.tmps[14]?.getD undef = .bool true := hD 5 (by kernel_rfl)
      have g14 := guard_get h14
      clear hF hD
      go_simp
      exact hK.out _ _ (Kp.refl _) rfl
    · intro a w' hk hF hD K hK
      have h23 : a.tmps[23]?.getD undef = undef := hD 14 (by kernel_rfl)
      have h14 : a.tmps[14]?.getD undef = .bool true := hD 5 (by kernel_rfl)
      have g14 := guard_get h14
      clear hF hD
      go_simp
      exact hK.out _ _ (Kp.refl _) rfl
    · exact fun i0 hi0 => by simp at hi0
    intro v w9 k9 hv
    have v5 : v 5 = .bool true := hv 5 (by omega)
    have v15 : v 15 = undef := hv 15 (by omega)
    clear hv
    simp only [G2.growPut, G2.gSlot, List.getElem?_toArray, List.getElem?_cons_zero, List.getElem?_cons_succ, Option.bind_some, List.setIfInBounds_toArray, List.set_cons_zero, List.set_cons_succ, List.drop_succ_cons, List.drop_zero, v5, v15]
    go_wp2
    go_ret
    exact ⟨rfl, k1.trans k9⟩
  | some q =>
    obtain ⟨⟨o1, o2, o3, o4⟩, l⟩ := q
    rw [hown] at ho1 HR
    obtain ⟨ob, v, rfl, hsob, hob, hv⟩ := ho1
    obtain ⟨A, c, rfl, hc, hm⟩ := hv.here.form
    have HK : Hid (r = if lessB (o1, o2, o3, o4) (p1, p2, p3, p4) then amt l (x1, x2, x3) else 0) := hid HR.out.symm
    clear HR
    have c3 := hb1.cell (j := 3) rfl
    have d0 := hob.cell (j := 0) rfl
    have d1 := hob.cell (j := 1) rfl
    have d2 := hob.cell (j := 2) rfl
    have d3 := hob.cell (j := 3) rfl
    have r0 := hP.cell (j := 0) rfl
    have r1 := hP.cell (j := 1) rfl
    have r2 := hP.cell (j := 2) rfl
    have r3 := hP.cell (j := 3) rfl
    replace hown := hid hown
    by_cases h1 : lessB (o1, o2, o3, o4) (p1, p2, p3, p4) = true
    · have HR : Hid (r = amt (l.drop 0) (x1, x2, x3)) := hid (by rw [HK.out, if_pos h1]; rfl)
      refine G2.wp_region_growT Kp [] 16 45 (G2.pvL [G2.eqv (.pointer (some ⟨b, 0, none⟩)), G2.eqv (.pointer (some ⟨b, 0, none⟩)), G2.eqv (.pointer (some ⟨b, 3, none⟩)), G2.eqv (.pointer (some ⟨ob, 0, none⟩)), G2.eqv (.bool false), G2.eqv (.bool false), G2.eqv (.pointer (some ⟨b, 0, none⟩)), G2.eqv (.pointer (some ⟨b, 0, none⟩)), G2.eqv (.pointer (some ⟨b, 3, none⟩)), G2.eqv (.pointer (some ⟨ob, 0, none⟩)), G2.eqv (.pointer (some ⟨ob, 0, none⟩)), G2.eqv (.pointer (some ⟨ob, 0, none⟩)), G2.eqv (.agg #[.int .i64 o1, .int .i64 o2, .int .i64 o3, .int .i64 o4]), G2.eqv (.agg #[.int .i64 p1, .int .i64 p2, .int .i64 p3, .int .i64 p4]), G2.eqv (.bool true), G2.eqv (.bool false)]) (by kernel_rfl) (by kernel_rfl) rfl (fun x => Kp.refl x) (fun _ _ _ h k => h.trans k) (Kp.refl _).drew (fun _ _ _ _ _ h => h) (G2.pvL_keep (G2.stabL_cons (G2.stab_eq _) (G2.stabL_cons (G2.stab_eq _) (G2.stabL_cons (G2.stab_eq _) (G2.stabL_cons (G2.stab_eq _) (G2.stabL_cons (G2.stab_eq _) (G2.stabL_cons (G2.stab_eq _) (G2.stabL_cons (G2.stab_eq _) (G2.stabL_cons (G2.stab_eq _) (G2.stabL_cons (G2.stab_eq _) (G2.stabL_cons (G2.stab_eq _) (G2.stabL_cons (G2.stab_eq _) (G2.stabL_cons (G2.stab_eq _) (G2.stabL_cons (G2.stab_eq _) (G2.stabL_cons (G2.stab_eq _) (G2.stabL_cons (G2.stab_eq _) (G2.stabL_cons (G2.stab_eq _) (G2.stabL_nil)))))))))))))))))) (G2.stepsT_cons 0 ?_ (G2.stepsT_cons 1 ?_ (G2.stepsT_cons 2 ?_ (G2.stepsT_cons 3 ?_ (G2.stepsT_cons 4 ?_ (G2.stepsT_cons 5 ?_ (G2.stepsT_cons 6 ?_ (G2.stepsT_cons 7 ?_ (G2.stepsT_cons 8 ?_ (G2.stepsT_cons 9 ?_ (G2.stepsT_cons 10 ?_ (G2.stepsT_cons 11 ?_ (G2.stepsT_cons 12 ?_ (G2.stepsT_cons 13 ?_ (G2.stepsT_cons 14 ?_ (G2.stepsT_cons 15 ?_ (G2.stepsT_nil _ _ _))))))))))))))))) ?_ ?_
      · intro a w' hk hF hD K hK
        have h0 : a.tmps[0]?.getD undef = .pointer (some ⟨b, 0, none⟩) := hF 0 (by kernel_rfl)
        clear hF hD
        go_simp
        exact hK.out _ _ (Kp.refl _) rfl
      · intro a w' hk hF hD K hK
        have h9 : a.tmps[9]?.getD undef = .pointer (some ⟨b, 0, none⟩) := hD 0 (by kernel_rfl)
        clear hF hD
        go_simp
        exact hK.out _ _ (Kp.refl _) rfl
      · intro a w' hk hF hD K hK
        have h10 : a.tmps[10]?.getD undef = .pointer (some ⟨b, 0, none⟩) := hD 1 (by kernel_rfl)
        clear hF hD
        go_simp
        exact hK.out _ _ (Kp.refl _) rfl
      · intro a w' hk hF hD K hK
        have h11 : a.tmps[11]?.getD undef = .pointer (some ⟨b, 3, none⟩) := hD 2 (by kernel_rfl)
        clear hF hD
        have z0 := hk.cellS c3
        go_simp
        exact hK.out _ _ (Kp.refl _) rfl
      · intro a w' hk hF hD K hK
        have h12 : a.tmps[12]?.getD undef = .pointer (some ⟨ob, 0, none⟩) := hD 3 (by kernel_rfl)
        clear hF hD
        go_simp
        exact hK.out _ _ (Kp.refl _) rfl
      · intro a w' hk hF hD K hK
        have h13 : a.tmps[13]?.getD undef = .bool false := hD 4 (by kernel_rfl)
        clear hF hD
        go_simp
        exact hK.out _ _ (Kp.refl _) rfl
      · intro a w' hk hF hD K hK
        have h0 : a.tmps[0]?.getD undef = .pointer (some ⟨b, 0, none⟩) := hF 0 (by kernel_rfl)
        have h14 : a.tmps[14]?.getD undef = .bool false := hD 5 (by kernel_rfl)
        have g14 := guard_get h14
        clear hF hD
        go_simp
        exact hK.out _ _ (Kp.refl _) rfl
      · intro a w' hk hF hD K hK
        have h15 : a.tmps[15]?.getD undef = .pointer (some ⟨b, 0, none⟩) := hD 6 (by kernel_rfl)
        have h14 : a.tmps[14]?.getD undef = .bool false := hD 5 (by kernel_rfl)
        have g14 := guard_get h14
        clear hF hD
        go_simp
        exact hK.out _ _ (Kp.refl _) rfl
      · intro a w' hk hF hD K hK
        have h16 : a.tmps[16]?.getD undef = .pointer (some ⟨b, 0, none⟩) := hD 7 (by kernel_rfl)
        have h14 : a.tmps[14]?.getD undef = .bool false := hD 5 (by kernel_rfl)
        have g14 := guard_get h14
        clear hF hD
        go_simp
        exact hK.out _ _ (Kp.refl _) rfl
      · intro a w' hk hF hD K hK
        have h17 : a.tmps[17]?.getD undef = .pointer (some ⟨b, 3, none⟩) := hD 8 (by kernel_rfl)
        have h14 : a.tmps[14]?.getD undef = .bool false := hD 5 (by kernel_rfl)
        have g14 := guard_get h14
        clear hF hD
        have z0 := hk.cellS c3
        go_simp
        exact hK.out _ _ (Kp.refl _) rfl
      · intro a w' hk hF hD K hK
        have h18 : a.tmps[18]?.getD undef = .pointer (some ⟨ob, 0, none⟩) := hD 9 (by kernel_rfl)
        have h14 : a.tmps[14]?.getD undef = .bool false := hD 5 (by kernel_rfl)
        have g14 := guard_get h14
        clear hF hD
        go_simp
        exact hK.out _ _ (Kp.refl _) rfl
      · intro a w' hk hF hD K hK
        have h19 : a.tmps[19]?.getD undef = .pointer (some ⟨ob, 0, none⟩) := hD 10 (by kernel_rfl)
        have h14 : a.tmps[14]?.getD undef = .bool false := hD 5 (by kernel_rfl)
        have g14 := guard_get h14
        clear hF hD
        go_simp
        exact hK.out _ _ (Kp.refl _) rfl
      · intro a w' hk hF hD K hK
        have h20 : a.tmps[20]?.getD undef = .pointer (some ⟨ob, 0, none⟩) := hD 11 (by kernel_rfl)
        have h14 : a.tmps[14]?.getD undef = .bool false := hD 5 (by kernel_rfl)
        have g14 := guard_get h14
        clear hF hD
        have z0 := hk.cellS d0
        have z1 := hk.cellS d1
        have z2 := hk.cellS d2
        have z3 := hk.cellS d3
        go_simp
        exact hK.out _ _ (Kp.refl _) rfl
      · intro a w' hk hF hD K hK
        have h5 : a.tmps[5]?.getD undef = .pointer (some ⟨rb + 1, 0, none⟩) := hF 5 (by kernel_rfl)
        have h14 : a.tmps[14]?.getD undef = .bool false := hD 5 (by kernel_rfl)
        have g14 := guard_get h14
        clear hF hD
        have z0 := hk.cellS r0
        have z1 := hk.cellS r1
        have z2 := hk.cellS r2
        have z3 := hk.cellS r3
        go_simp
        exact hK.out _ _ (Kp.refl _) rfl
      · intro a w' hk hF hD K hK
        have h21 : a.tmps[21]?.getD undef = .agg #[.int .i64 o1, .int .i64 o2, .int .i64 o3, .int .i64 o4] := hD 12 (by kernel_rfl)
        have h22 : a.tmps[22]?.getD undef = .agg #[.int .i64 p1, .int .i64 p2, .int .i64 p3, .int .i64 p4] := hD 13 (by kernel_rfl)
        have h14 : a.tmps[14]?.getD undef = .bool false := hD 5 (by kernel_rfl)
        have g14 := guard_get h14
        clear hF hD
        go_simp
        refine (bLess_at (o1, o2, o3, o4) (p1, p2, p3, p4) _).mono ?_
        rintro e w9 ⟨rfl, hk9⟩
        rw [h1]
        exact hK.out _ _ hk9.kp rfl
      · intro a w' hk hF hD K hK
        have h23 : a.tmps[23]?.getD undef = .bool true := hD 14 (by kernel_rfl)
        have h14 : a.tmps[14]?.getD undef = .bool false := hD 5 (by kernel_rfl)
        have g14 := guard_get h14
        clear hF hD
        go_simp
        exact hK.out _ _ (Kp.refl _) rfl
      · exact fun i0 hi0 => by simp at hi0
      intro v w9 k9 hv
      have v5 : v 5 = .bool false := hv 5 (by omega)
      have v15 : v 15 = .bool false := hv 15 (by omega)
      clear hv
      simp only [G2.growPut, G2.gSlot, List.getElem?_toArray, List.getElem?_cons_zero, List.getElem?_cons_succ, Option.bind_some, List.setIfInBounds_toArray, List.set_cons_zero, List.set_cons_succ, List.drop_succ_cons, List.drop_zero, v5, v15]
      have hX9 := hX.keep (k9.block hxb)
      have hb9 := hb1.keep (k9.block (by omega))
      have hob9 := hob.keep (k9.block (hob.lt (by simp)))
      have hv9 : Nds w9 (.slice A l.length c) l := hv.here.keep (pl_stable _) k9
      have hxb9 := Nat.lt_of_lt_of_le hxb k9.size
      have k19 := k1.trans k9
      clear hX hb1 hob hv hP c3 d0 d1 d2 d3 r0 r1 r2 r3 h1 HK
      have c3 := hb9.cell (j := 3) rfl
      have d4 := hob9.cell (j := 4) rfl
      have heq := fun W y1 y2 y3 => run_eql_rt W (y1, y2, y3) (x1, x2, x3)
      go_wp2_with fail
      go_loopw [34] (fun i wr => ∃ k : Nat, k ≤ l.length ∧ i = .int .i64 k ∧ Hid (r = amt (l.drop k) (x1, x2, x3)) ∧ Kp w9 wr) (fun i _ => l.length - (intOf i).toNat)
      case atStart => exact ⟨0, Nat.zero_le _, rfl, HR, Kp.refl _⟩
      case round =>
        obtain ⟨k, hk, rfl, HD, kr⟩ := hrel
        by_cases hlt : k < l.length
        · have hkl : (k : Int) < (l.length : Int) := by omega
          obtain ⟨g, o, rfl, hg, i0, i1, i2, i3⟩ := (hv9.keep (pl_stable _) kr).nd hlt
          have HX := hid (List.drop_eq_getElem_cons hlt)
          generalize l[k] = y at *
          obtain ⟨⟨y1, y2, y3⟩, y4⟩ := y
          dsimp only at i0 i1 i2 i3
          have e0 := kr.cellS (hX9.cell (j := 0) rfl)
          have e1 := kr.cellS (hX9.cell (j := 1) rfl)
          have e2 := kr.cellS (hX9.cell (j := 2) rfl)
          have hxr := Nat.lt_of_lt_of_le hxb9 kr.size
          by_cases hy : (y1, y2, y3) = (x1, x2, x3)
          · have heq1 := fun W => heq W y1 y2 y3
            rw [decide_eq_true hy] at heq1
            clear heq
            have HF : Hid (r = y4) := hid (by rw [HD.out, HX.out, amt, if_pos hy])
            replace hy := hid hy
            go_wp2
            go_ret
            exact ⟨ret_int HF.out.symm, (k19.trans kr).alloc _⟩
          · have heq1 := fun W => heq W y1 y2 y3
            rw [decide_eq_false hy] at heq1
            clear heq
            have HF : Hid (r = amt (l.drop (k + 1)) (x1, x2, x3)) := hid (by rw [HD.out, HX.out, amt, if_neg hy])
            replace hy := hid hy
            go_wp2
            go_roundw
            case rel => exact ⟨k + 1, by omega, by go_num, HF, kr.alloc _⟩
            case measure => simp [intOf]; omega
        · have hkl : ¬ (k : Int) < (l.length : Int) := by omega
          have HF : Hid (r = 0) := hid (by rw [HD.out, List.drop_of_length_le (by omega)]; rfl)
          go_wp2
          go_ret
          exact ⟨ret_int HF.out.symm, k19.trans kr⟩
    · replace h1 := eq_false_of_ne_true h1
      obtain rfl : r = 0 := by rw [HK.out, h1]; rfl
      refine G2.wp_region_growT Kp [] 16 45 (G2.pvL [G2.eqv (.pointer (some ⟨b, 0, none⟩)), G2.eqv (.pointer (some ⟨b, 0, none⟩)), G2.eqv (.pointer (some ⟨b, 3, none⟩)), G2.eqv (.pointer (some ⟨ob, 0, none⟩)), G2.eqv (.bool false), G2.eqv (.bool false), G2.eqv (.pointer (some ⟨b, 0, none⟩)), G2.eqv (.pointer (some ⟨b, 0, none⟩)), G2.eqv (.pointer (some ⟨b, 3, none⟩)), G2.eqv (.pointer (some ⟨ob, 0, none⟩)), G2.eqv (.pointer (some ⟨ob, 0, none⟩)), G2.eqv (.pointer (some ⟨ob, 0, none⟩)), G2.eqv (.agg #[.int .i64 o1, .int .i64 o2, .int .i64 o3, .int .i64 o4]), G2.eqv (.agg #[.int .i64 p1, .int .i64 p2, .int .i64 p3, .int .i64 p4]), G2.eqv (.bool false), G2.eqv (.bool true)]) (by kernel_rfl) (by kernel_rfl) rfl (fun x => Kp.refl x) (fun _ _ _ h k => h.trans k) (Kp.refl _).drew (fun _ _ _ _ _ h => h) (G2.pvL_keep (G2.stabL_cons (G2.stab_eq _) (G2.stabL_cons (G2.stab_eq _) (G2.stabL_cons (G2.stab_eq _) (G2.stabL_cons (G2.stab_eq _) (G2.stabL_cons (G2.stab_eq _) (G2.stabL_cons (G2.stab_eq _) (G2.stabL_cons (G2.stab_eq _) (G2.stabL_cons (G2.stab_eq _) (G2.stabL_cons (G2.stab_eq _) (G2.stabL_cons (G2.stab_eq _) (G2.stabL_cons (G2.stab_eq _) (G2.stabL_cons (G2.stab_eq _) (G2.stabL_cons (G2.stab_eq _) (G2.stabL_cons (G2.stab_eq _) (G2.stabL_cons (G2.stab_eq _) (G2.stabL_cons (G2.stab_eq _) (G2.stabL_nil)))))))))))))))))) (G2.stepsT_cons 0 ?_ (G2.stepsT_cons 1 ?_ (G2.stepsT_cons 2 ?_ (G2.stepsT_cons 3 ?_ (G2.stepsT_cons 4 ?_ (G2.stepsT_cons 5 ?_ (G2.stepsT_cons 6 ?_ (G2.stepsT_cons 7 ?_ (G2.stepsT_cons 8 ?_ (G2.stepsT_cons 9 ?_ (G2.stepsT_cons 10 ?_ (G2.stepsT_cons 11 ?_ (G2.stepsT_cons 12 ?_ (G2.stepsT_cons 13 ?_ (G2.stepsT_cons 14 ?_ (G2.stepsT_cons 15 ?_ (G2.stepsT_nil _ _ _))))))))))))))))) ?_ ?_
      · intro a w' hk hF hD K hK
        have h0 : a.tmps[0]?.getD undef = .pointer (some ⟨b, 0, none⟩) := hF 0 (by kernel_rfl)
        clear hF hD
        go_simp
        exact hK.out _ _ (Kp.refl _) rfl
      · intro a w' hk hF hD K hK
        have h9 : a.tmps[9]?.getD undef = .pointer (some ⟨b, 0, none⟩) := hD 0 (by kernel_rfl)
        clear hF hD
        go_simp
        exact hK.out _ _ (Kp.refl _) rfl
      · intro a w' hk hF hD K hK
        have h10 : a.tmps[10]?.getD undef = .pointer (some ⟨b, 0, none⟩) := hD 1 (by kernel_rfl)
        clear hF hD
        go_simp
        exact hK.out _ _ (Kp.refl _) rfl
      · intro a w' hk hF hD K hK
        have h11 : a.tmps[11]?.getD undef = .pointer (some ⟨b, 3, none⟩) := hD 2 (by kernel_rfl)
        clear hF hD
        have z0 := hk.cellS c3
        go_simp
        exact hK.out _ _ (Kp.refl _) rfl
      · intro a w' hk hF hD K hK
        have h12 : a.tmps[12]?.getD undef = .pointer (some ⟨ob, 0, none⟩) := hD 3 (by kernel_rfl)
        clear hF hD
        go_simp
        exact hK.out _ _ (Kp.refl _) rfl
      · intro a w' hk hF hD K hK
        have h13 : a.tmps[13]?.getD undef = .bool false := hD 4 (by kernel_rfl)
        clear hF hD
        go_simp
        exact hK.out _ _ (Kp.refl _) rfl
      · intro a w' hk hF hD K hK
        have h0 : a.tmps[0]?.getD undef = .pointer (some ⟨b, 0, none⟩) := hF 0 (by kernel_rfl)
        have h14 : a.tmps[14]?.getD undef = .bool false := hD 5 (by kernel_rfl)
        have g14 := guard_get h14
        clear hF hD
        go_simp
        exact hK.out _ _ (Kp.refl _) rfl
      · intro a w' hk hF hD K hK
        have h15 : a.tmps[15]?.getD undef = .pointer (some ⟨b, 0, none⟩) := hD 6 (by kernel_rfl)
        have h14 : a.tmps[14]?.getD undef = .bool false := hD 5 (by kernel_rfl)
        have g14 := guard_get h14
        clear hF hD
        go_simp
        exact hK.out _ _ (Kp.refl _) rfl
      · intro a w' hk hF hD K hK
        have h16 : a.tmps[16]?.getD undef = .pointer (some ⟨b, 0, none⟩) := hD 7 (by kernel_rfl)
        have h14 : a.tmps[14]?.getD undef = .bool false := hD 5 (by kernel_rfl)
        have g14 := guard_get h14
        clear hF hD
        go_simp
        exact hK.out _ _ (Kp.refl _) rfl
      · intro a w' hk hF hD K hK
        have h17 : a.tmps[17]?.getD undef = .pointer (some ⟨b, 3, none⟩) := hD 8 (by kernel_rfl)
        have h14 : a.tmps[14]?.getD undef = .bool false := hD 5 (by kernel_rfl)
        have g14 := guard_get h14
        clear hF hD
        have z0 := hk.cellS c3
        go_simp
        exact hK.out _ _ (Kp.refl _) rfl
      · intro a w' hk hF hD K hK
        have h18 : a.tmps[18]?.getD undef = .pointer (some ⟨ob, 0, none⟩) := hD 9 (by kernel_rfl)
        have h14 : a.tmps[14]?.getD undef = .bool false := hD 5 (by kernel_rfl)
        have g14 := guard_get h14
        clear hF hD
        go_simp
        exact hK.out _ _ (Kp.refl _) rfl
      · intro a w' hk hF hD K hK
        have h19 : a.tmps[19]?.getD undef = .pointer (some ⟨ob, 0, none⟩) := hD 10 (by kernel_rfl)
        have h14 : a.tmps[14]?.getD undef = .bool false := hD 5 (by kernel_rfl)
        have g14 := guard_get h14
        clear hF hD
        go_simp
        exact hK.out _ _ (Kp.refl _) rfl
      · intro a w' hk hF hD K hK
        have h20 : a.tmps[20]?.getD undef = .pointer (some ⟨ob, 0, none⟩) := hD 11 (by kernel_rfl)
        have h14 : a.tmps[14]?.getD undef = .bool false := hD 5 (by kernel_rfl)
        have g14 := guard_get h14
        clear hF hD
        have z0 := hk.cellS d0
        have z1 := hk.cellS d1
        have z2 := hk.cellS d2
        have z3 := hk.cellS d3
        go_simp
        exact hK.out _ _ (Kp.refl _) rfl
      · intro a w' hk hF hD K hK
        have h5 : a.tmps[5]?.getD undef = .pointer (some ⟨rb + 1, 0, none⟩) := hF 5 (by kernel_rfl)
        have h14 : a.tmps[14]?.getD undef = .bool false := hD 5 (by kernel_rfl)
        have g14 := guard_get h14
        clear hF hD
        have z0 := hk.cellS r0
        have z1 := hk.cellS r1
        have z2 := hk.cellS r2
        have z3 := hk.cellS r3
        go_simp
        exact hK.out _ _ (Kp.refl _) rfl
      · intro a w' hk hF hD K hK
        have h21 : a.tmps[21]?.getD undef = .agg #[.int .i64 o1, .int .i64 o2, .int .i64 o3, .int .i64 o4] := hD 12 (by kernel_rfl)
        have h22 : a.tmps[22]?.getD undef = .agg #[.int .i64 p1, .int .i64 p2, .int .i64 p3, .int .i64 p4] := hD 13 (by kernel_rfl)
        have h14 : a.tmps[14]?.getD undef = .bool false := hD 5 (by kernel_rfl)
        have g14 := guard_get h14
        clear hF hD
        go_simp
        refine (bLess_at (o1, o2, o3, o4) (p1, p2, p3, p4) _).mono ?_
        rintro e w9 ⟨rfl, hk9⟩
        rw [h1]
        exact hK.out _ _ hk9.kp rfl
      · intro a w' hk hF hD K hK
        have h23 : a.tmps[23]?.getD undef = .bool false := hD 14 (by kernel_rfl)
        have h14 : a.tmps[14]?.getD undef = .bool false := hD 5 (by kernel_rfl)
        have g14 := guard_get h14
        clear hF hD
        go_simp
        exact hK.out _ _ (Kp.refl _) rfl
      · exact fun i0 hi0 => by simp at hi0
      intro v w9 k9 hv
      have v5 : v 5 = .bool false := hv 5 (by omega)
      have v15 : v 15 = .bool true := hv 15 (by omega)
      clear hv
      simp only [G2.growPut, G2.gSlot, List.getElem?_toArray, List.getElem?_cons_zero, List.getElem?_cons_succ, Option.bind_some, List.setIfInBounds_toArray, List.set_cons_zero, List.set_cons_succ, List.drop_succ_cons, List.drop_zero, v5, v15]
      go_wp2
      go_ret
      exact ⟨rfl, k1.trans k9⟩
end Go.Proofs.Ytbcekihjcgnhkaa
