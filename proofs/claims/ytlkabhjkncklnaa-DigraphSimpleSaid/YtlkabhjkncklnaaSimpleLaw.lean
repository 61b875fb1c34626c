
/-
DigraphSimple: for every size, all edges and every edge the law returns true and leaves its arguments as they were.
-/
import Derived.Test.YtlkabhjkncklnaaDgOpen
import Derived.Test.YtlkabhjkncklnaaDgCs
import Derived.Test.YtlkabhjkncklnaaDgFl
import Derived.Deep.CutRange
namespace Go.Proofs.Ytlkabhjkncklnaa.lawSimple
set_option linter.unusedSimpArgs false
set_option linter.unusedVariables false
open Go.ChangeShapes Go.WideShapes Go.ChangeAt Go.RowKit

theorem simUse_real : Real Try.prog 41 := ⟨_, Try.func41, by kernel_rfl, by kernel_rfl⟩
set_option maxRecDepth 8000 in
set_option maxHeartbeats 8000000 in
theorem walk (s ed : Int) (va : Value) (es : List Bool) (w : World) (ha : Bools w va es) : Calls Try.prog 9 #[.int .i64 s, va, .int .i64 ed] w fun e w' => e = .returned (.bool true) ∧ Kp w w' := by
  obtain ⟨A, c, rfl, hc, hm⟩ := ha.form
  have HA := hid ha
  clear ha
  have kb := ((Kp.refl w).alloc (.cells #[.int .i64 s] 3)).alloc (.cells #[.int .i64 ed] 3)
  have c0 := ((Own.lit (base := 0) (size := 1) encInt (e := 3) w #[.int .i64 s] [s] (Nat.zero_le _) (by simp) rfl rfl).alloc (.cells #[.int .i64 ed] 3)).intCell rfl (k := 0) (by simp)
  have c1 := (Own.lit (base := 0) (size := 1) encInt (e := 3) (w.alloc (.cells #[.int .i64 s] 3)) #[.int .i64 ed] [ed] (Nat.zero_le _) (by simp) rfl rfl).intCell rfl (k := 0) (by simp)
  simp only [World.size_alloc, List.getElem_cons_zero] at c0 c1
  go_enter Try.func9, Try.ntmps9
  go_wp2_with fail
  generalize (w.alloc (.cells #[.int .i64 s] 3)).alloc (.cells #[.int .i64 ed] 3) = wb at *
  generalize w.heap.size = b0 at *
  refine (awake19_any wb).mono ?_
  rintro e w1 ⟨rfl, k1⟩
  have kb1 := kb.trans k1
  have c0 := k1.cellS c0
  have c1 := k1.cellS c1
  go_wp2_with fail
  refine (qValid_any s A es.length c w1 (by omega)).mono ?_
  rintro e w2 ⟨rfl, rfl⟩
  cases ho : openB s es.length with
  | false =>
    replace ho := hid ho
    go_wp2
    go_ret
    exact ⟨rfl, kb1⟩
  | true =>
    obtain ⟨n, rfl, h1, h6, hl⟩ := openB_iff ho
    have HL := hid hl
    have hl36 : es.length ≤ 36 := by rw [hl]; exact Nat.mul_le_mul h6 h6
    replace ho := hid ho
    clear hl
    by_cases h5 : n = 6
    · have h5i : (5 : Int) < (n : Int) := by omega
      replace h5 := hid h5
      go_wp2
      go_ret
      exact ⟨rfl, kb1⟩
    · have h5i : ¬ (5 : Int) < (n : Int) := by omega
      replace h5 := hid h5
      go_wp2_with fail
      refine (dCycles_any n _ es w2 (HA.out.keep (pl_stable _) kb1)).mono ?_
      rintro e w3 ⟨v3, css, L, rfl, hP, nl3, k3⟩
      have HLB : Hid (L.length ≤ 1000000) := hid (by
        have h := ((hP.2 ho.out).1).length_eq
        have h2 := allC_len h6 es
        rw [show ((n : Int)).toNat = n from rfl] at h
        omega)
      obtain rfl := cyc_eq hP
      have k13 := kb1.trans k3
      have c0 := k3.cellS c0
      have c1 := k3.cellS c1
      have HSP := hid (cycQ_spec (es := es) ho.out)
      have HUN := hid (fun k => cyc_unset (k := k) ho.out)
      clear hP
      generalize cycQ (n : Int) es = L at *
      have hsl := nl3.sl
      obtain ⟨A3, c3, rfl, hc3, hm3⟩ := nl3.form
      have HSL := hid hsl
      have HNL := hid nl3
      have W3C := hid (And.intro c0 c1)
      clear hsl nl3
      go_wp2_with fail
      go_loopw [27] (fun iv wr => ∃ i : Nat, i ≤ L.length ∧ iv = .int .i64 (i : Int) ∧ Kp w3 wr) (fun iv _ => L.length - (intOf iv).toNat)
      case atStart => exact ⟨0, Nat.zero_le _, rfl, Kp.refl _⟩
      case round =>
        obtain ⟨i, hi, rfl, kr⟩ := hrel
        have c0 := kr.cellS c0
        by_cases hil : i < L.length
        · have hii : (i : Int) < (L.length : Int) := by omega
          have hcy := (HSP.out.1 _).1 (List.getElem_mem hil)
          obtain ⟨bx, ox0, ux, hAx, hbx, ix, hx⟩ := (HNL.out.kp kr).sl.rdL hil
          subst hAx
          have HPRV : Hid (∀ j (hj : j + 1 = i), slt (L[j]'(by omega)) L[i]) := hid fun j hj => List.pairwise_iff_getElem.1 HSP.out.2 j i (by omega) hil (by omega)
          have HMEM := hid hcy
          generalize L[i] = x at *
          obtain ⟨Ax, cx, rfl, hcx, hmx⟩ := hx.form
          have hne := HMEM.out.1.ne
          obtain ⟨m, hm1⟩ : ∃ m, x.length = m + 1 := ⟨x.length - 1, by have := List.length_pos_iff.2 hne; omega⟩
          have h00 : 0 < x.length := by omega
          have hml : m < x.length := by omega
          have hx6 : x.length ≤ n := nodup_len n x HMEM.out.1.nd HMEM.out.1.lt
          have hlt0 := HMEM.out.1.lt _ (List.getElem_mem h00)
          have hltm := HMEM.out.1.lt _ (List.getElem_mem hml)
          have hcl := HMEM.out.2
          rw [getLastD_eq hne, headD_eq hne] at hcl
          have em : x[x.length - 1]'(by omega) = x[m]'hml := by congr 1; omega
          rw [em] at hcl
          have hmn := HMEM.out.1.hd
          rw [headD_eq hne] at hmn
          have hie : x[m]'hml * n + x[0]'h00 < es.length := by rw [HL.out]; exact idx_lt hltm hlt0
          rw [hasE_get hie] at hcl
          obtain ⟨ge, oe, hA, hge, ie⟩ := (HA.out.keep (pl_stable _) (k13.trans kr)).bools hie
          subst hA
          rw [hcl] at ie
          obtain ⟨gx, ox, hA2, hgx, j0⟩ := hx.ints (k := 0) (by rw [castL_len]; exact h00)
          obtain ⟨gx', ox', hA3, -, jm⟩ := hx.ints (k := m) (by rw [castL_len]; exact hml)
          subst hA2
          injection hA3 with hA3
          injection hA3 with a1 a2
          subst a1 a2
          rw [castL_get x 0 h00, Nat.add_zero] at j0
          rw [castL_get x m hml] at jm
          have hmin : ∀ k (hk : k < (castL x).length), (castL x)[0]'(by rw [castL_len]; exact h00) ≤ (castL x)[k] := fun k hk => by
            rw [castL_len] at hk
            rw [castL_get x 0 h00, castL_get x k hk]
            have := hmn _ (List.getElem_mem hk)
            omega
          have HMIN := hid (fun W hW => MinI_any (.slice (some ⟨gx, ox, none⟩) (m + 1) cx) (castL x) W hW (by rw [castL_len]; exact h00) hmin)
          rw [castL_get x 0 h00] at HMIN
          rw [castL_len, hm1] at hx hcx ix
          have HX := hid hx
          have HWK := hid (cycL_wk HMEM.out)
          rw [hm1] at hx6
          have hm0 : (m : Int) + 1 ≤ 6 := by omega
          have HM1 := hid hm1
          have hn6 : (n : Int) ≤ 6 := by omega
          have hmxx : ((m + 1 : Nat) : Int) = (m : Int) + 1 := by push_cast; rfl
          clear hcl hmn hmin em hne hcy hx hm1
          generalize x[m]'hml = y at *
          generalize x[0]'h00 = z at *
          have hp := mul_cast y n
          generalize y * n = yn at *
          have hj1 : (yn : Int) + (z : Int) < (es.length : Int) := by omega
          have hz0 : (0 : Int) < (m : Int) + 1 := by omega
          have hmm : (m : Int) < (m : Int) + 1 := by omega
          have he1 : ((m : Int) + 1 == 0) = false := beq_false_of_ne (by omega)
          go_upto_region 9 with (fail)
          refine G2.wp_region_growT Kp [] 35 125 (G2.pvL [G2.eqv (.slice (some ⟨gx, ox, none⟩) (m + 1) cx), G2.eqv (.int .i64 ((m : Int) + 1)), G2.eqv (.bool false), G2.eqv (.bool false), G2.eqv (.int .i64 (n : Int)), G2.eqv (.slice (some ⟨ge, oe, none⟩) es.length c), G2.eqv (.slice (some ⟨gx, ox, none⟩) (m + 1) cx), G2.eqv (.bool true), G2.eqv (.bool false), G2.eqv (.bool false), G2.eqv (.bool false), G2.eqv (.slice (some ⟨ge, oe, none⟩) es.length c), G2.eqv (.slice (some ⟨gx, ox, none⟩) (m + 1) cx), G2.eqv (.slice (some ⟨gx, ox, none⟩) (m + 1) cx), G2.eqv (.int .i64 ((m : Int) + 1)), G2.eqv (.int .i64 (m : Int)), G2.eqv (.pointer (some ⟨gx, ox + m, none⟩)), G2.eqv (.int .i64 (y : Int)), G2.eqv (.int .i64 (n : Int)), G2.eqv (.int .i64 (yn : Int)), G2.eqv (.slice (some ⟨gx, ox, none⟩) (m + 1) cx), G2.eqv (.pointer (some ⟨gx, ox, none⟩)), G2.eqv (.int .i64 (z : Int)), G2.eqv (.int .i64 ((yn : Int) + (z : Int))), G2.eqv (.pointer (some ⟨ge, oe + (yn + z), none⟩)), G2.eqv (.bool true), G2.eqv (.bool false), G2.eqv (.bool false), G2.eqv (.bool false), G2.eqv (.slice (some ⟨gx, ox, none⟩) (m + 1) cx), G2.eqv (.int .i64 (z : Int)), G2.eqv (.slice (some ⟨gx, ox, none⟩) (m + 1) cx), G2.eqv (.pointer (some ⟨gx, ox, none⟩)), G2.eqv (.int .i64 (z : Int)), G2.eqv (.bool false)]) (by kernel_rfl) (by kernel_rfl) rfl (fun x => Kp.refl x) (fun _ _ _ h k => h.trans k) (Kp.refl _).drew (fun _ _ _ _ _ h => h) (G2.pvL_keep (G2.stabL_cons (G2.stab_eq _) (G2.stabL_cons (G2.stab_eq _) (G2.stabL_cons (G2.stab_eq _) (G2.stabL_cons (G2.stab_eq _) (G2.stabL_cons (G2.stab_eq _) (G2.stabL_cons (G2.stab_eq _) (G2.stabL_cons (G2.stab_eq _) (G2.stabL_cons (G2.stab_eq _) (G2.stabL_cons (G2.stab_eq _) (G2.stabL_cons (G2.stab_eq _) (G2.stabL_cons (G2.stab_eq _) (G2.stabL_cons (G2.stab_eq _) (G2.stabL_cons (G2.stab_eq _) (G2.stabL_cons (G2.stab_eq _) (G2.stabL_cons (G2.stab_eq _) (G2.stabL_cons (G2.stab_eq _) (G2.stabL_cons (G2.stab_eq _) (G2.stabL_cons (G2.stab_eq _) (G2.stabL_cons (G2.stab_eq _) (G2.stabL_cons (G2.stab_eq _) (G2.stabL_cons (G2.stab_eq _) (G2.stabL_cons (G2.stab_eq _) (G2.stabL_cons (G2.stab_eq _) (G2.stabL_cons (G2.stab_eq _) (G2.stabL_cons (G2.stab_eq _) (G2.stabL_cons (G2.stab_eq _) (G2.stabL_cons (G2.stab_eq _) (G2.stabL_cons (G2.stab_eq _) (G2.stabL_cons (G2.stab_eq _) (G2.stabL_cons (G2.stab_eq _) (G2.stabL_cons (G2.stab_eq _) (G2.stabL_cons (G2.stab_eq _) (G2.stabL_cons (G2.stab_eq _) (G2.stabL_cons (G2.stab_eq _) (G2.stabL_cons (G2.stab_eq _) (G2.stabL_nil))))))))))))))))))))))))))))))))))))) (G2.stepsT_cons 0 ?_ (G2.stepsT_cons 1 ?_ (G2.stepsT_cons 2 ?_ (G2.stepsT_cons 3 ?_ (G2.stepsT_cons 4 ?_ (G2.stepsT_cons 5 ?_ (G2.stepsT_cons 6 ?_ (G2.stepsT_cons 7 ?_ (G2.stepsT_cons 8 ?_ (G2.stepsT_cons 9 ?_ (G2.stepsT_cons 10 ?_ (G2.stepsT_cons 11 ?_ (G2.stepsT_cons 12 ?_ (G2.stepsT_cons 13 ?_ (G2.stepsT_cons 14 ?_ (G2.stepsT_cons 15 ?_ (G2.stepsT_cons 16 ?_ (G2.stepsT_cons 17 ?_ (G2.stepsT_cons 18 ?_ (G2.stepsT_cons 19 ?_ (G2.stepsT_cons 20 ?_ (G2.stepsT_cons 21 ?_ (G2.stepsT_cons 22 ?_ (G2.stepsT_cons 23 ?_ (G2.stepsT_cons 24 ?_ (G2.stepsT_cons 25 ?_ (G2.stepsT_cons 26 ?_ (G2.stepsT_cons 27 ?_ (G2.stepsT_cons 28 ?_ (G2.stepsT_cons 29 ?_ (G2.stepsT_cons 30 ?_ (G2.stepsT_cons 31 ?_ (G2.stepsT_cons 32 ?_ (G2.stepsT_cons 33 ?_ (G2.stepsT_cons 34 ?_ (G2.stepsT_nil _ _ _)))))))))))))))))))))))))))))))))))) ?_ ?_
          · intro a w' hk hF hD K hK
            have h9 : a.tmps[9]?.getD undef = .slice (some ⟨gx, ox, none⟩) (m + 1) cx := hF 9 (by kernel_rfl)
            clear hF hD
            go_simp
            exact hK.out _ _ (Kp.refl _) rfl
          · intro a w' hk hF hD K hK
            have h32 : a.tmps[32]?.getD undef = .slice (some ⟨gx, ox, none⟩) (m + 1) cx := hD 0 (by kernel_rfl)
            clear hF hD
            go_simp
            exact hK.out _ _ (Kp.refl _) rfl
          · intro a w' hk hF hD K hK
            have h33 : a.tmps[33]?.getD undef = .int .i64 ((m : Int) + 1) := hD 1 (by kernel_rfl)
            clear hF hD
            go_simp
            exact hK.out _ _ (Kp.refl _) rfl
          · intro a w' hk hF hD K hK
            have h34 : a.tmps[34]?.getD undef = .bool false := hD 2 (by kernel_rfl)
            clear hF hD
            go_simp
            exact hK.out _ _ (Kp.refl _) rfl
          · intro a w' hk hF hD K hK
            have h3 : a.tmps[3]?.getD undef = .pointer (some ⟨b0, 0, none⟩) := hF 3 (by kernel_rfl)
            have h35 : a.tmps[35]?.getD undef = .bool false := hD 3 (by kernel_rfl)
            have g35 := guard_get h35
            clear hF hD
            have q := hk.cellS c0
            go_simp
            exact hK.out _ _ (Kp.refl _) rfl
          · intro a w' hk hF hD K hK
            have h1 : a.tmps[1]?.getD undef = .slice (some ⟨ge, oe, none⟩) es.length c := hF 1 (by kernel_rfl)
            have h35 : a.tmps[35]?.getD undef = .bool false := hD 3 (by kernel_rfl)
            have g35 := guard_get h35
            clear hF hD
            go_simp
            exact hK.out _ _ (Kp.refl _) rfl
          · intro a w' hk hF hD K hK
            have h9 : a.tmps[9]?.getD undef = .slice (some ⟨gx, ox, none⟩) (m + 1) cx := hF 9 (by kernel_rfl)
            have h35 : a.tmps[35]?.getD undef = .bool false := hD 3 (by kernel_rfl)
            have g35 := guard_get h35
            clear hF hD
            go_simp
            exact hK.out _ _ (Kp.refl _) rfl
          · intro a w' hk hF hD K hK
            have h36 : a.tmps[36]?.getD undef = .int .i64 (n : Int) := hD 4 (by kernel_rfl)
            have h37 : a.tmps[37]?.getD undef = .slice (some ⟨ge, oe, none⟩) es.length c := hD 5 (by kernel_rfl)
            have h38 : a.tmps[38]?.getD undef = .slice (some ⟨gx, ox, none⟩) (m + 1) cx := hD 6 (by kernel_rfl)
            have h35 : a.tmps[35]?.getD undef = .bool false := hD 3 (by kernel_rfl)
            have g35 := guard_get h35
            clear hF hD
            go_simp
            refine (lWalk_any n es x _ _ _ (HA.out.keep (pl_stable _) ((k13.trans kr).trans hk)) (HX.out.keep (pl_stable _) hk) HL.out h6 HWK.out).mono ?_
            rintro e w9 ⟨rfl, hk9⟩
            exact hK.out _ _ hk9 rfl
          · intro a w' hk hF hD K hK
            have h39 : a.tmps[39]?.getD undef = .bool true := hD 7 (by kernel_rfl)
            have h35 : a.tmps[35]?.getD undef = .bool false := hD 3 (by kernel_rfl)
            have g35 := guard_get h35
            clear hF hD
            go_simp
            exact hK.out _ _ (Kp.refl _) rfl
          · intro a w' hk hF hD K hK
            have h35 : a.tmps[35]?.getD undef = .bool false := hD 3 (by kernel_rfl)
            have h40 : a.tmps[40]?.getD undef = .bool false := hD 8 (by kernel_rfl)
            clear hF hD
            go_simp
            exact hK.out _ _ (Kp.refl _) rfl
          · intro a w' hk hF hD K hK
            have h41 : a.tmps[41]?.getD undef = .bool false := hD 9 (by kernel_rfl)
            clear hF hD
            go_simp
            exact hK.out _ _ (Kp.refl _) rfl
          · intro a w' hk hF hD K hK
            have h1 : a.tmps[1]?.getD undef = .slice (some ⟨ge, oe, none⟩) es.length c := hF 1 (by kernel_rfl)
            have h42 : a.tmps[42]?.getD undef = .bool false := hD 10 (by kernel_rfl)
            have g42 := guard_get h42
            clear hF hD
            go_simp
            exact hK.out _ _ (Kp.refl _) rfl
          · intro a w' hk hF hD K hK
            have h9 : a.tmps[9]?.getD undef = .slice (some ⟨gx, ox, none⟩) (m + 1) cx := hF 9 (by kernel_rfl)
            have h42 : a.tmps[42]?.getD undef = .bool false := hD 10 (by kernel_rfl)
            have g42 := guard_get h42
            clear hF hD
            go_simp
            exact hK.out _ _ (Kp.refl _) rfl
          · intro a w' hk hF hD K hK
            have h9 : a.tmps[9]?.getD undef = .slice (some ⟨gx, ox, none⟩) (m + 1) cx := hF 9 (by kernel_rfl)
            have h42 : a.tmps[42]?.getD undef = .bool false := hD 10 (by kernel_rfl)
            have g42 := guard_get h42
            clear hF hD
            go_simp
            exact hK.out _ _ (Kp.refl _) rfl
          · intro a w' hk hF hD K hK
            have h45 : a.tmps[45]?.getD undef = .slice (some ⟨gx, ox, none⟩) (m + 1) cx := hD 13 (by kernel_rfl)
            have h42 : a.tmps[42]?.getD undef = .bool false := hD 10 (by kernel_rfl)
            have g42 := guard_get h42
            clear hF hD
            go_simp
            exact hK.out _ _ (Kp.refl _) rfl
          · intro a w' hk hF hD K hK
            have h46 : a.tmps[46]?.getD undef = .int .i64 ((m : Int) + 1) := hD 14 (by kernel_rfl)
            have h42 : a.tmps[42]?.getD undef = .bool false := hD 10 (by kernel_rfl)
            have g42 := guard_get h42
            clear hF hD
            have hw : IntKind.i64.wrap (m : Int) = (m : Int) := (by rw [IntKind.wrap_i64]; omega)
            go_simp
            exact hK.out _ _ (Kp.refl _) rfl
          · intro a w' hk hF hD K hK
            have h44 : a.tmps[44]?.getD undef = .slice (some ⟨gx, ox, none⟩) (m + 1) cx := hD 12 (by kernel_rfl)
            have h47 : a.tmps[47]?.getD undef = .int .i64 (m : Int) := hD 15 (by kernel_rfl)
            have h42 : a.tmps[42]?.getD undef = .bool false := hD 10 (by kernel_rfl)
            have g42 := guard_get h42
            clear hF hD
            go_simp
            exact hK.out _ _ (Kp.refl _) rfl
          · intro a w' hk hF hD K hK
            have h48 : a.tmps[48]?.getD undef = .pointer (some ⟨gx, ox + m, none⟩) := hD 16 (by kernel_rfl)
            have h42 : a.tmps[42]?.getD undef = .bool false := hD 10 (by kernel_rfl)
            have g42 := guard_get h42
            clear hF hD
            have q := hk.cellS jm
            go_simp
            exact hK.out _ _ (Kp.refl _) rfl
          · intro a w' hk hF hD K hK
            have h3 : a.tmps[3]?.getD undef = .pointer (some ⟨b0, 0, none⟩) := hF 3 (by kernel_rfl)
            have h42 : a.tmps[42]?.getD undef = .bool false := hD 10 (by kernel_rfl)
            have g42 := guard_get h42
            clear hF hD
            have q := hk.cellS c0
            go_simp
            exact hK.out _ _ (Kp.refl _) rfl
          · intro a w' hk hF hD K hK
            have h49 : a.tmps[49]?.getD undef = .int .i64 (y : Int) := hD 17 (by kernel_rfl)
            have h50 : a.tmps[50]?.getD undef = .int .i64 (n : Int) := hD 18 (by kernel_rfl)
            have h42 : a.tmps[42]?.getD undef = .bool false := hD 10 (by kernel_rfl)
            have g42 := guard_get h42
            clear hF hD
            have hw : IntKind.i64.wrap (yn : Int) = (yn : Int) := (by rw [IntKind.wrap_i64]; omega)
            go_simp
            exact hK.out _ _ (Kp.refl _) rfl
          · intro a w' hk hF hD K hK
            have h9 : a.tmps[9]?.getD undef = .slice (some ⟨gx, ox, none⟩) (m + 1) cx := hF 9 (by kernel_rfl)
            have h42 : a.tmps[42]?.getD undef = .bool false := hD 10 (by kernel_rfl)
            have g42 := guard_get h42
            clear hF hD
            go_simp
            exact hK.out _ _ (Kp.refl _) rfl
          · intro a w' hk hF hD K hK
            have h52 : a.tmps[52]?.getD undef = .slice (some ⟨gx, ox, none⟩) (m + 1) cx := hD 20 (by kernel_rfl)
            have h42 : a.tmps[42]?.getD undef = .bool false := hD 10 (by kernel_rfl)
            have g42 := guard_get h42
            clear hF hD
            go_simp
            exact hK.out _ _ (Kp.refl _) rfl
          · intro a w' hk hF hD K hK
            have h53 : a.tmps[53]?.getD undef = .pointer (some ⟨gx, ox, none⟩) := hD 21 (by kernel_rfl)
            have h42 : a.tmps[42]?.getD undef = .bool false := hD 10 (by kernel_rfl)
            have g42 := guard_get h42
            clear hF hD
            have q := hk.cellS j0
            go_simp
            exact hK.out _ _ (Kp.refl _) rfl
          · intro a w' hk hF hD K hK
            have h51 : a.tmps[51]?.getD undef = .int .i64 (yn : Int) := hD 19 (by kernel_rfl)
            have h54 : a.tmps[54]?.getD undef = .int .i64 (z : Int) := hD 22 (by kernel_rfl)
            have h42 : a.tmps[42]?.getD undef = .bool false := hD 10 (by kernel_rfl)
            have g42 := guard_get h42
            clear hF hD
            have hw : IntKind.i64.wrap ((yn : Int) + (z : Int)) = (yn : Int) + (z : Int) := (by rw [IntKind.wrap_i64]; omega)
            go_simp
            exact hK.out _ _ (Kp.refl _) rfl
          · intro a w' hk hF hD K hK
            have h43 : a.tmps[43]?.getD undef = .slice (some ⟨ge, oe, none⟩) es.length c := hD 11 (by kernel_rfl)
            have h55 : a.tmps[55]?.getD undef = .int .i64 ((yn : Int) + (z : Int)) := hD 23 (by kernel_rfl)
            have h42 : a.tmps[42]?.getD undef = .bool false := hD 10 (by kernel_rfl)
            have g42 := guard_get h42
            clear hF hD
            go_simp
            exact hK.out _ _ (Kp.refl _) rfl
          · intro a w' hk hF hD K hK
            have h56 : a.tmps[56]?.getD undef = .pointer (some ⟨ge, oe + (yn + z), none⟩) := hD 24 (by kernel_rfl)
            have h42 : a.tmps[42]?.getD undef = .bool false := hD 10 (by kernel_rfl)
            have g42 := guard_get h42
            clear hF hD
            have q := hk.cellS ie
            go_simp
            exact hK.out _ _ (Kp.refl _) rfl
          · intro a w' hk hF hD K hK
            have h57 : a.tmps[57]?.getD undef = .bool true := hD 25 (by kernel_rfl)
            have h42 : a.tmps[42]?.getD undef = .bool false := hD 10 (by kernel_rfl)
            have g42 := guard_get h42
            clear hF hD
            go_simp
            exact hK.out _ _ (Kp.refl _) rfl
          · intro a w' hk hF hD K hK
            have h42 : a.tmps[42]?.getD undef = .bool false := hD 10 (by kernel_rfl)
            have h58 : a.tmps[58]?.getD undef = .bool false := hD 26 (by kernel_rfl)
            clear hF hD
            go_simp
            exact hK.out _ _ (Kp.refl _) rfl
          · intro a w' hk hF hD K hK
            have h59 : a.tmps[59]?.getD undef = .bool false := hD 27 (by kernel_rfl)
            clear hF hD
            go_simp
            exact hK.out _ _ (Kp.refl _) rfl
          · intro a w' hk hF hD K hK
            have h9 : a.tmps[9]?.getD undef = .slice (some ⟨gx, ox, none⟩) (m + 1) cx := hF 9 (by kernel_rfl)
            have h60 : a.tmps[60]?.getD undef = .bool false := hD 28 (by kernel_rfl)
            have g60 := guard_get h60
            clear hF hD
            go_simp
            exact hK.out _ _ (Kp.refl _) rfl
          · intro a w' hk hF hD K hK
            have h61 : a.tmps[61]?.getD undef = .slice (some ⟨gx, ox, none⟩) (m + 1) cx := hD 29 (by kernel_rfl)
            have h60 : a.tmps[60]?.getD undef = .bool false := hD 28 (by kernel_rfl)
            have g60 := guard_get h60
            clear hF hD
            go_simp
            refine (HMIN.out _ (HX.out.keep (pl_stable _) hk)).mono ?_
            rintro e w9 ⟨rfl, hk9⟩
            exact hK.out _ _ hk9 rfl
          · intro a w' hk hF hD K hK
            have h9 : a.tmps[9]?.getD undef = .slice (some ⟨gx, ox, none⟩) (m + 1) cx := hF 9 (by kernel_rfl)
            have h60 : a.tmps[60]?.getD undef = .bool false := hD 28 (by kernel_rfl)
            have g60 := guard_get h60
            clear hF hD
            go_simp
            exact hK.out _ _ (Kp.refl _) rfl
          · intro a w' hk hF hD K hK
            have h63 : a.tmps[63]?.getD undef = .slice (some ⟨gx, ox, none⟩) (m + 1) cx := hD 31 (by kernel_rfl)
            have h60 : a.tmps[60]?.getD undef = .bool false := hD 28 (by kernel_rfl)
            have g60 := guard_get h60
            clear hF hD
            go_simp
            exact hK.out _ _ (Kp.refl _) rfl
          · intro a w' hk hF hD K hK
            have h64 : a.tmps[64]?.getD undef = .pointer (some ⟨gx, ox, none⟩) := hD 32 (by kernel_rfl)
            have h60 : a.tmps[60]?.getD undef = .bool false := hD 28 (by kernel_rfl)
            have g60 := guard_get h60
            clear hF hD
            have q := hk.cellS j0
            go_simp
            exact hK.out _ _ (Kp.refl _) rfl
          · intro a w' hk hF hD K hK
            have h62 : a.tmps[62]?.getD undef = .int .i64 (z : Int) := hD 30 (by kernel_rfl)
            have h65 : a.tmps[65]?.getD undef = .int .i64 (z : Int) := hD 33 (by kernel_rfl)
            have h60 : a.tmps[60]?.getD undef = .bool false := hD 28 (by kernel_rfl)
            have g60 := guard_get h60
            clear hF hD
            go_simp
            exact hK.out _ _ (Kp.refl _) rfl
          · exact fun i0 hi0 => by simp at hi0
          intro v w9 k9 hv
          have v28 : v 28 = .bool false := hv 28 (by omega)
          have v34 : v 34 = .bool false := hv 34 (by omega)
          clear hv
          simp only [G2.growPut, G2.gSlot, List.getElem?_toArray, List.getElem?_cons_zero, List.getElem?_cons_succ, Option.bind_some, List.setIfInBounds_toArray, List.set_cons_zero, List.set_cons_succ, List.drop_succ_cons, List.drop_zero, v28, v34]
          have kr9 := kr.trans k9
          cases i with
          | zero =>
            go_wp2_with fail
            go_roundw
            case rel => exact ⟨1, by omega, rfl, kr9⟩
            case measure => simp [intOf]; omega
          | succ j =>
            have hjl : j < L.length := by omega
            obtain ⟨b', o', u', hA', -, i2, hp2⟩ := (HNL.out.kp kr9).sl.rdL hjl
            injection hA' with hA'
            injection hA' with a1 a2
            subst a1 a2
            obtain ⟨hle, hcmp⟩ := slt_cmp (HPRV.out j rfl)
            clear HPRV
            generalize L[j] = p at *
            obtain ⟨Ap, cpp, rfl, -, -⟩ := hp2.form
            rw [castL_len] at i2 hp2
            rw [HM1.out] at hle hcmp
            have HX9 := hid (HX.out.keep (pl_stable _) k9)
            have HP2 := hid hp2
            clear hp2
            generalize p.length = pl at *
            have hcast : ((j + 1 : Nat) : Int) = (j : Int) + 1 := by push_cast; rfl
            have hj0 : (0 : Int) < (j : Int) + 1 := by omega
            have hjL : (j : Int) < (L.length : Int) := by omega
            have hgt : ¬ (m : Int) + 1 < (pl : Int) := by omega
            by_cases hpl : pl = m + 1
            · have hq := hcmp hpl
              have e2 : ((pl : Int) == (m : Int) + 1) = true := by rw [beq_iff_eq]; omega
              have HQ : Hid (¬ 0 ≤ cmpL (castL p) (castL x)) := hid (by omega)
              replace hpl := hid hpl
              clear hcmp hq hle
              go_wp2_with fail
              refine (CompareI_at _ _ (castL p) (castL x) _ HP2.out HX9.out).mono ?_
              rintro e w8 ⟨rfl, rfl⟩
              have hq := HQ.out
              generalize cmpL (castL p) (castL x) = q at *
              go_wp2_with fail
              go_roundw
              case rel => exact ⟨j + 1 + 1, by omega, by go_num, kr9⟩
              case measure => simp [intOf]; omega
            · have e2 : ((pl : Int) == (m : Int) + 1) = false := beq_false_of_ne (by omega)
              replace hpl := hid hpl
              clear hcmp hle
              go_wp2_with fail
              go_roundw
              case rel => exact ⟨j + 1 + 1, by omega, by go_num, kr9⟩
              case measure => simp [intOf]; omega
        · obtain rfl : i = L.length := by omega
          have hii : ¬ (L.length : Int) < (L.length : Int) := by omega
          have c1 := kr.cellS c1
          by_cases hd0 : ed < 0
          · go_wp2
            go_ret
            exact ⟨rfl, k13.trans kr⟩
          · by_cases hd1 : (es.length : Int) ≤ ed
            · go_wp2
              go_ret
              exact ⟨rfl, k13.trans kr⟩
            · obtain ⟨k, rfl⟩ := Int.eq_ofNat_of_zero_le (show 0 ≤ ed by omega)
              have hk : k < es.length := by omega
              go_wp2_with fail
              refine (CloneB_any _ es _ (HA.out.keep (pl_stable _) (k13.trans kr)) (by omega)).mono ?_
              rintro e w4 ⟨v4, rfl, own, k4⟩
              obtain ⟨g, co, rfl, hco, hcm, hgb, hgw⟩ := own.row (by omega)
              have d0 := own.boolCell rfl hk
              have fz := own.frozen rfl k
              have own2 := own.boolSet rfl hk false
              have ks := k4.set (p := ⟨g, k, none⟩) hgb (.bool false)
              have c0 := k4.cellS c0
              have c1 := k4.cellS c1
              clear own
              go_upto_region 18 with (fail)
              have krs := kr.trans ks
              have ec0 := ks.cellS (kr.cellS W3C.out.1)
              have ec1 := ks.cellS (kr.cellS W3C.out.2)
              have HB := hid (own2.sl encBool_len)
              generalize w4.setCell ⟨g, k, none⟩ (.bool false) = w5 at *
              clear own2 d0 fz c0 c1 k4 ks
              have HN5 := hid (HNL.out.kp krs)
              have hcb : css.length ≤ 1000000000 := by rw [HNL.out.len]; have := HLB.out; omega
              go_wp2_with fail
              refine (CloneLL_any _ css w5 (HN5.out.own.sl encC_len) hcb).mono ?_
              rintro e w6 ⟨v6, rfl, own6, k6⟩
              obtain ⟨A6, c6, rfl, hc6, hm6⟩ := own6.form
              have HDEL := hid (DeleteLL_any (struckE n k w5) 41 [.pointer (some ⟨b0, 0, none⟩), .pointer (some ⟨b0 + 1, 0, none⟩)] A6 c6 css w5 w6 k6 own6 simUse_real
                (fun r hr => by
                  obtain ⟨x, -, hi⟩ := nl_mem HN5.out hr
                  obtain ⟨A', c', e, -, -⟩ := hi.form
                  exact ⟨A', _, c', e⟩)
                (fun w' r hr hk' => by
                  obtain ⟨x, hx, hi⟩ := nl_mem HN5.out hr
                  have hcy := (HSP.out.1 x).1 hx
                  rw [struckE_eq hi]
                  exact use_any n k ⟨b0, 0, none⟩ ⟨b0 + 1, 0, none⟩ (_root_.Go.Proofs.Ytlkabhjkncklnaa.e0 r) x w' (hi.keep (pl_stable _) hk') hcy.1.lt h6 (by omega) (by have := nodup_len n x hcy.1.nd hcy.1.lt; omega) (hk'.cellS ec0) (hk'.cellS ec1)))
              have ec0 := k6.cellS ec0
              have ec1 := k6.cellS ec1
              clear own6
              go_wp2_with fail
              refine HDEL.out.mono ?_
              rintro e w7 ⟨v7, rfl, hs7, k7⟩
              have HS7 := hid (sl_left HN5.out k7 hs7)
              obtain ⟨A7, c7, rfl, -, -⟩ := hs7.form
              have hw5 := krs.cellS W3C.out.1
              have ec0 := k7.cellS hw5
              clear hs7 HDEL
              go_wp2_with fail
              refine (dCycles_any n _ (es.set k false) w7 (HB.out.keep (pl_stable _) k7)).mono ?_
              rintro e w8 ⟨v8, css8, L8, rfl, hP8, nl8, k8⟩
              have hL8 : L8 = L.filter fun x => !useB n x k := (cyc_eq hP8).trans (HUN.out k)
              subst hL8
              have HS8 := hid (HS7.out.keep rdL_stable k8)
              have HN8 := hid nl8.sl
              obtain ⟨A8, c8, rfl, -, -⟩ := nl8.form
              clear nl8 hP8
              go_wp2_with fail
              refine (qLists_any _ _ (L.filter fun x => !useB n x k) (L.filter fun x => !useB n x k) w8 HN8.out HS8.out).mono ?_
              rintro e w9 ⟨e9, k9⟩
              rw [decide_eq_true rfl] at e9
              subst e9
              go_wp2
              go_ret
              exact ⟨rfl, k13.trans (krs.trans (k7.trans (k8.trans k9)))⟩
theorem own : ownKnob Try.prog.godebug = none := by kernel_rfl
theorem laidOut : laidOutB Try.prog = true := by kernel_rfl
set_option maxRecDepth 100000 in
theorem lifted (os : Os) (started : os.Started) (H : Type) (enc : TypeId × Value → H) :
    ReturnsInHanded {} Try.checked os 9 .any (Rows.digraphSimpleSpec.pre6 enc Try.prog Try.f9 Rows.digraphSimpleRow.domain false) (Rows.digraphSimpleSpec.post enc Try.prog Try.f9 false true false false) := by
  refine returnsInHanded_of_change (C := Try.checked) own started (by kernel_rfl) Try.func9
    (ChangeSpec.witness6 (enc := enc) (C := Try.checked) false ⟨#[], #[.int .i64 0, .slice none 0 0, .int .i64 0], []⟩ 8 (by kernel_rfl) (by kernel_rfl) (by kernel_rfl) (by kernel_rfl)) ?_
  intro W base args ds gs before hval0 hW hcnd _
  have hval : ∀ (j : Nat) t v, Try.f9.params[j]? = some t → args[j]? = some v → Value.okWide Try.prog W .any base t v := hval0
  have hW' := hW
  obtain ⟨p, q, hA0, hV, rfl, hfz, hnd⟩ := hW
  have hA : DataW.TrodAll enc Try.prog W 0 (fun _ => true) true Try.f9.params.toList args.toList ds p := hA0
  rw [Try.params9] at hA hval
  obtain ⟨v0, vs0, d0, ds0, p0, q0, hargs, rfl, rfl, h0, r0⟩ := trodAll_cons hA
  obtain ⟨v1, vs1, d1, ds1, p1, q1, rfl, rfl, rfl, h1, r1⟩ := trodAll_cons r0
  obtain ⟨v2, vs2, d2, ds2, p2, q2, rfl, rfl, rfl, h2, r2⟩ := trodAll_cons r1
  obtain ⟨rfl, rfl, rfl⟩ := trodAll_nil r2
  obtain rfl : args = #[v0, v1, v2] := by cases args; simp_all
  obtain ⟨rfl, rfl⟩ := trodVars_none hV
  have lt0 : ∀ x ∈ p0, x.block < W.heap.size := by obtain ⟨m, hm⟩ := h0; exact DataW.trod_lt m _ _ _ hm
  have lt1 : ∀ x ∈ p1, x.block < W.heap.size := by obtain ⟨m, hm⟩ := h1; exact DataW.trod_lt m _ _ _ hm
  have lt2 : ∀ x ∈ p2, x.block < W.heap.size := by obtain ⟨m, hm⟩ := h2; exact DataW.trod_lt m _ _ _ hm
  obtain ⟨x0, rfl, -, -, wx0⟩ := open_int Try.underlying3 (hval 0 3 v0 rfl rfl) h0
  obtain ⟨a1, len1, cap1, rfl⟩ := okWide_slice Try.underlying22 (hval 1 22 v1 rfl rfl)
  obtain ⟨n1, hn1⟩ := trod_slice_value h1
  obtain ⟨x1, hx1⟩ := opBools hn1
  obtain ⟨x2, rfl, -, -, wx2⟩ := open_int Try.underlying3 (hval 2 3 v2 rfl rfl) h2
  clear hA0 hval0
  refine (walk x0 x2 _ x1 W hx1).mono fun e W' ⟨he, bel⟩ => ?_
  subst he
  exact ⟨_, rfl, _, _, _, [], _, [], hW', trodAll_mk1 (shut_bool Try.underlying4 _), (trodAll_cons_mk (Below.trod laidOut (by kernel_rfl) (of_decide_eq_true (by kernel_rfl)) h0 bel lt0) (trodAll_cons_mk (Below.trod laidOut (by kernel_rfl) (of_decide_eq_true (by kernel_rfl)) h1 bel lt1) (trodAll_cons_mk (Below.trod laidOut (by kernel_rfl) (of_decide_eq_true (by kernel_rfl)) h2 bel lt2) trodAll_mk0))), rfl, Below.frame bel _, fun h => by cases h⟩
theorem over : Rows.digraphSimpleRow.holds Try.pinned (OpenSpec.ofChange Rows.digraphSimpleSpec) :=
  OpenClaim.holds_of_wide 9 Try.f9 rfl rfl rfl rfl rfl rfl rfl ⟨rfl, rfl, rfl, rfl, rfl⟩ rfl rfl rfl rfl rfl (by kernel_rfl) Try.func9 (by kernel_rfl)
    (of_decide_eq_true (by kernel_rfl)) (by unfold Func.isWrapper; first | (rw [if_pos (by decide +kernel)]; kernel_rfl) | (rw [if_neg (by decide +kernel)]; exact ⟨rfl, rfl⟩))
    (fun os started H enc _ => lifted os started H enc)
theorem proved : Rows.DigraphSimpleSaid := over
end Go.Proofs.Ytlkabhjkncklnaa.lawSimple
