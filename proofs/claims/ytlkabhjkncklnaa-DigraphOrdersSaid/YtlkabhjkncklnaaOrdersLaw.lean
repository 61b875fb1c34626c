
/-
DigraphOrders: for every size and all edges the law returns true and leaves its arguments as they were.
-/
import Derived.Test.YtlkabhjkncklnaaDgOpen
import Derived.Test.YtlkabhjkncklnaaDgOr
import Derived.Test.YtlkabhjkncklnaaDgRp
import Derived.Deep.CutRange
namespace Go.Proofs.Ytlkabhjkncklnaa.lawOrders
set_option linter.unusedSimpArgs false
set_option linter.unusedVariables false
open Go.ChangeShapes Go.WideShapes Go.ChangeAt Go.RowKit

set_option maxRecDepth 8000 in
set_option maxHeartbeats 8000000 in
theorem walk (s : Int) (va : Value) (es : List Bool) (w : World) (ha : Bools w va es) : Calls Try.prog 7 #[.int .i64 s, va] w fun e w' => e = .returned (.bool true) ∧ Kp w w' := by
  obtain ⟨A, c, rfl, hc, hm⟩ := ha.form
  have HA := hid ha
  clear ha
  go_enter Try.func7, Try.ntmps7
  go_wp2_with fail
  refine (awake19_any w).mono ?_
  rintro e w1 ⟨rfl, k1⟩
  go_wp2_with fail
  refine (qValid_any s A es.length c w1 (by omega)).mono ?_
  rintro e w2 ⟨rfl, rfl⟩
  cases ho : openB s es.length with
  | false =>
    replace ho := hid ho
    go_wp2
    go_ret
    exact ⟨rfl, k1⟩
  | true =>
    obtain ⟨n, rfl, h1, h6, hl⟩ := openB_iff ho
    have hOK := order_ok ho
    have HL := hid hl
    have hl36 : es.length ≤ 36 := by rw [hl]; exact Nat.mul_le_mul h6 h6
    replace ho := hid ho
    clear hl
    go_wp2_with fail
    refine (dOrder_any n _ es w2 (HA.out.keep (pl_stable _) k1)).mono ?_
    rintro e w3 ⟨v3, rfl, i3, k3⟩
    rcases hOK with ⟨out, hO, hP, hlen, hacy⟩ | ⟨hO, hacy⟩
    · rw [hO] at i3 ⊢
      dsimp only at i3 ⊢
      have HACY := hid hacy
      have HO := hid hP
      have HI := hid i3
      obtain ⟨A3, c3, rfl, hc3, hm3⟩ := i3.form
      rw [castL_len, hlen] at hc3 HI ⊢
      have HLEN := hid hlen
      clear hlen
      clear hO hP hacy i3
      have k13 := k1.trans k3
      go_wp2_with fail
      refine (dAcyclic_any n _ es w3 (HA.out.keep (pl_stable _) k13)).mono ?_
      rintro e w4 ⟨rfl, k4⟩
      rw [HACY.out]
      have k14 := k13.trans k4
      go_wp2_with fail
      refine (dCycles_any n _ es w4 (HA.out.keep (pl_stable _) k14)).mono ?_
      rintro e w5 ⟨v5, css5, L5, rfl, hP5, nl5, k5⟩
      have hz := cycP_zero ho.out hP5
      rw [HACY.out] at hz
      have hz2 : L5.length = 0 := of_decide_eq_true hz.symm
      obtain ⟨A5, c5, rfl, hc5, hm5⟩ := nl5.sl.form
      rw [hz2] at hc5 ⊢
      have k15 := k14.trans k5
      have b3 := litB (w := w5) 4 [true] #[.bool true] rfl (by decide) 1 rfl
      have kl := (Kp.refl w5).alloc (.cells #[.bool true] 4)
      have hw : wrap64 ((n : Int) * (n : Int)) = ((n * n : Nat) : Int) := by
        rcases (by omega : n = 1 ∨ n = 2 ∨ n = 3 ∨ n = 4 ∨ n = 5 ∨ n = 6) with rfl | rfl | rfl | rfl | rfl | rfl <;> decide +kernel
      have hsq : SqM (n * n) := by
        rcases (by omega : n = 1 ∨ n = 2 ∨ n = 3 ∨ n = 4 ∨ n = 5 ∨ n = 6) with rfl | rfl | rfl | rfl | rfl | rfl <;> (unfold SqM; omega)
      clear hz hP5 nl5
      go_wp2_with fail
      rw [hw]
      clear hw
      generalize w5.alloc (.cells #[.bool true] 4) = w6 at *
      generalize w5.heap.size = g at *
      refine (RepeatB_any (n * n) 1 _ w6 hsq b3).mono ?_
      rintro e w7 ⟨v7, rfl, own7, k7⟩
      have HB7 := hid (own7.sl encBool_len)
      obtain ⟨A7, c7, e7, -, -⟩ := own7.form
      rw [List.length_replicate] at e7
      subst e7
      have k57 := kl.trans k7
      clear own7 b3 hsq kl
      go_wp2_with fail
      refine (lWalk_any n _ out _ _ w7 HB7.out (HI.out.keep (pl_stable _) ((k4.trans k5).trans k57)) (by simp) h6 HO.out.wk).mono ?_
      rintro e w8 ⟨rfl, k8⟩
      have k18 := (k15.trans k57).trans k8
      have k38 := ((k4.trans k5).trans k57).trans k8
      clear HB7 k57 k8 k7 k15 k14 k13 k5 k4
      go_wp2_with fail
      go_loopw [59] (fun iv wr => ∃ i : Nat, i ≤ n ∧ iv = .int .i64 (i : Int) ∧ Kp w3 wr) (fun iv _ => n - (intOf iv).toNat)
      case atStart => exact ⟨0, Nat.zero_le _, rfl, k38⟩
      case round =>
        clear k38 k18
        obtain ⟨i, hi, rfl, kr⟩ := hrel
        by_cases hin : i < n
        · have hil : (i : Int) < (n : Int) := by omega
          have hio : i < out.length := by rw [HLEN.out]; exact hin
          obtain ⟨g1, o1, hA1, hg1, i1⟩ := (HI.out.keep (pl_stable _) kr).ints (k := i) (by rw [castL_len]; omega)
          subst hA1
          rw [castL_get out i (by omega)] at i1
          have hv := HO.out.lt (k := i) (by omega)
          have HFWD : Hid (∀ k (hk : k < out.length), hasE n es (out[i]'hio) out[k] = true → i < k) := hid fun k hk he => HO.out.fwd (by omega) hk he
          have HSTEP : Hid (∀ j (hj : j + 1 = i), out[i]'hio < out[j]'(by omega) → hasE n es (out[j]'(by omega)) (out[i]'hio) = true) := hid fun j hj hlt => by
            subst hj
            exact HO.out.step (by omega) hlt
          generalize out[i]'hio = v at *
          go_wp2_with fail
          go_loopw [66] (fun kv wx => ∃ k : Nat, k ≤ n ∧ kv = .int .i64 (k : Int) ∧ wx = wr) (fun kv _ => n - (intOf kv).toNat)
          case atStart => exact ⟨0, Nat.zero_le _, rfl, rfl⟩
          case round =>
            obtain ⟨k, hk, rfl, rfl⟩ := hrel
            by_cases hkn : k < n
            · have hkl : (k : Int) < (n : Int) := by omega
              have hko : k < out.length := by rw [HLEN.out]; exact hkn
              obtain ⟨g2, o2, hA2, -, i2⟩ := (HI.out.keep (pl_stable _) kr).ints (k := k) (by rw [castL_len]; omega)
              injection hA2 with hA2
              injection hA2 with c1 c2
              subst c1 c2
              rw [castL_get out k (by omega)] at i2
              have hu := HO.out.lt (k := k) (by omega)
              have HF := hid (HFWD.out k (by omega))
              generalize out[k]'hko = u at *
              have hie : v * n + u < es.length := by rw [HL.out]; exact idx_lt hv hu
              have HHE := hid (hasE_get (n := n) (es := es) hie)
              obtain ⟨g3, o3, hA3, hg3, i3⟩ := (HA.out.keep (pl_stable _) ((k1.trans k3).trans kr)).bools hie
              subst hA3
              rw [HHE.out] at HF
              generalize es[v * n + u] = x at *
              have hp := mul_cast v n
              generalize v * n = vn at *
              have hj1 : (vn : Int) + (u : Int) < (es.length : Int) := by omega
              cases x with
              | true =>
                have hik := HF.out rfl
                have hcmp : ¬ ((k : Int) ≤ (i : Int)) := by omega
                go_wp2_with fail
                go_roundw
                case rel => exact ⟨k + 1, by omega, by go_num, trivial⟩
                case measure => simp [intOf]; omega
              | false =>
                go_wp2_with fail
                go_roundw
                case rel => exact ⟨k + 1, by omega, by go_num, trivial⟩
                case measure => simp [intOf]; omega
            · obtain rfl : k = n := by omega
              have hkl : ¬ (k : Int) < (k : Int) := by omega
              clear HFWD hkl
              cases i with
              | zero =>
                have hkl : ¬ (k : Int) < (k : Int) := by omega
                go_wp2_with fail
                go_roundw
                case rel => exact ⟨1, by omega, by go_num, kr⟩
                case measure => simp [intOf]; omega
              | succ j =>
                have hkl : ¬ (k : Int) < (k : Int) := by omega
                have hjo : j < out.length := by omega
                obtain ⟨g2, o2, hA2, -, i2⟩ := (HI.out.keep (pl_stable _) kr).ints (k := j) (by rw [castL_len]; exact hjo)
                injection hA2 with hA2
                injection hA2 with c1 c2
                subst c1 c2
                rw [castL_get out j hjo] at i2
                have hu := HO.out.lt (k := j) hjo
                have HF := hid (HSTEP.out j rfl)
                clear HSTEP
                generalize out[j]'hjo = u at *
                have hie : u * k + v < es.length := by rw [HL.out]; exact idx_lt hu hv
                have HHE := hid (hasE_get (n := k) (es := es) hie)
                obtain ⟨g3, o3, hA3, hg3, i3⟩ := (HA.out.keep (pl_stable _) ((k1.trans k3).trans kr)).bools hie
                subst hA3
                rw [HHE.out] at HF
                clear HHE
                generalize es[u * k + v] = x at *
                have hp := mul_cast u k
                generalize u * k = un at *
                have hj1 : (un : Int) + (v : Int) < (es.length : Int) := by omega
                have hcast : ((j + 1 : Nat) : Int) = (j : Int) + 1 := by push_cast; rfl
                have hjl : (j : Int) < (k : Int) := by omega
                have hj0 : (0 : Int) < (j : Int) + 1 := by omega
                have hj00 : 0 ≤ (j : Int) + 1 := by omega
                have hj6 : (j : Int) + 1 ≤ 7 := by omega
                by_cases hvu : v < u
                · obtain rfl : x = true := HF.out hvu
                  have hvu2 : (v : Int) < (u : Int) := by omega
                  go_wp2_with fail
                  go_roundw
                  case rel => exact ⟨j + 1 + 1, by omega, by go_num, kr⟩
                  case measure => simp [intOf]; omega
                · have hvu2 : ¬ (v : Int) < (u : Int) := by omega
                  go_wp2_with fail
                  go_roundw
                  case rel => exact ⟨j + 1 + 1, by omega, by go_num, kr⟩
                  case measure => simp [intOf]; omega
        · obtain rfl : i = n := by omega
          have hil : ¬ (i : Int) < (i : Int) := by omega
          go_wp2
          go_ret
          exact ⟨rfl, (k1.trans k3).trans kr⟩
    · rw [hO] at i3 ⊢
      dsimp only at i3 ⊢
      have HACY := hid hacy
      obtain ⟨A3, c3, rfl, hc3, hm3⟩ := i3.form
      clear hO hacy i3
      have k13 := k1.trans k3
      go_wp2_with fail
      refine (dAcyclic_any n _ es w3 (HA.out.keep (pl_stable _) k13)).mono ?_
      rintro e w4 ⟨rfl, k4⟩
      rw [HACY.out]
      have k14 := k13.trans k4
      go_wp2_with fail
      refine (dCycles_any n _ es w4 (HA.out.keep (pl_stable _) k14)).mono ?_
      rintro e w5 ⟨v5, css5, L5, rfl, hP5, nl5, k5⟩
      have hz := cycP_zero ho.out hP5
      rw [HACY.out] at hz
      have hz2 : ¬ (L5.length : Int) = 0 := by have := of_decide_eq_false hz.symm; omega
      obtain ⟨A5, c5, rfl, hc5, hm5⟩ := nl5.sl.form
      have hz3 : ((L5.length : Int) == 0) = false := by simpa using hz2
      have k15 := k14.trans k5
      clear hz hP5 nl5
      go_wp2
      go_ret
      exact ⟨rfl, k15⟩
theorem own : ownKnob Try.prog.godebug = none := by kernel_rfl
theorem laidOut : laidOutB Try.prog = true := by kernel_rfl
set_option maxRecDepth 100000 in
theorem lifted (os : Os) (started : os.Started) (H : Type) (enc : TypeId × Value → H) :
    ReturnsInHanded {} Try.checked os 7 .any (Rows.digraphOrdersSpec.pre6 enc Try.prog Try.f7 Rows.digraphOrdersRow.domain false) (Rows.digraphOrdersSpec.post enc Try.prog Try.f7 false true false false) := by
  refine returnsInHanded_of_change (C := Try.checked) own started (by kernel_rfl) Try.func7
    (ChangeSpec.witness6 (enc := enc) (C := Try.checked) false ⟨#[], #[.int .i64 0, .slice none 0 0], []⟩ 8 (by kernel_rfl) (by kernel_rfl) (by kernel_rfl) (by kernel_rfl)) ?_
  intro W base args ds gs before hval0 hW hcnd _
  have hval : ∀ (j : Nat) t v, Try.f7.params[j]? = some t → args[j]? = some v → Value.okWide Try.prog W .any base t v := hval0
  have hW' := hW
  obtain ⟨p, q, hA0, hV, rfl, hfz, hnd⟩ := hW
  have hA : DataW.TrodAll enc Try.prog W 0 (fun _ => true) true Try.f7.params.toList args.toList ds p := hA0
  rw [Try.params7] at hA hval
  obtain ⟨v0, vs0, d0, ds0, p0, q0, hargs, rfl, rfl, h0, r0⟩ := trodAll_cons hA
  obtain ⟨v1, vs1, d1, ds1, p1, q1, rfl, rfl, rfl, h1, r1⟩ := trodAll_cons r0
  obtain ⟨rfl, rfl, rfl⟩ := trodAll_nil r1
  obtain rfl : args = #[v0, v1] := by cases args; simp_all
  obtain ⟨rfl, rfl⟩ := trodVars_none hV
  have lt0 : ∀ x ∈ p0, x.block < W.heap.size := by obtain ⟨m, hm⟩ := h0; exact DataW.trod_lt m _ _ _ hm
  have lt1 : ∀ x ∈ p1, x.block < W.heap.size := by obtain ⟨m, hm⟩ := h1; exact DataW.trod_lt m _ _ _ hm
  obtain ⟨x0, rfl, -, -, wx0⟩ := open_int Try.underlying3 (hval 0 3 v0 rfl rfl) h0
  obtain ⟨a1, len1, cap1, rfl⟩ := okWide_slice Try.underlying22 (hval 1 22 v1 rfl rfl)
  obtain ⟨n1, hn1⟩ := trod_slice_value h1
  obtain ⟨x1, hx1⟩ := opBools hn1
  clear hA0 hval0
  refine (walk x0 _ x1 W hx1).mono fun e W' ⟨he, bel⟩ => ?_
  subst he
  exact ⟨_, rfl, _, _, _, [], _, [], hW', trodAll_mk1 (shut_bool Try.underlying4 _), (trodAll_cons_mk (Below.trod laidOut (by kernel_rfl) (of_decide_eq_true (by kernel_rfl)) h0 bel lt0) (trodAll_cons_mk (Below.trod laidOut (by kernel_rfl) (of_decide_eq_true (by kernel_rfl)) h1 bel lt1) trodAll_mk0)), rfl, Below.frame bel _, fun h => by cases h⟩
theorem over : Rows.digraphOrdersRow.holds Try.pinned (OpenSpec.ofChange Rows.digraphOrdersSpec) :=
  OpenClaim.holds_of_wide 7 Try.f7 rfl rfl rfl rfl rfl rfl rfl ⟨rfl, rfl, rfl, rfl, rfl⟩ rfl rfl rfl rfl rfl (by kernel_rfl) Try.func7 (by kernel_rfl)
    (of_decide_eq_true (by kernel_rfl)) (by unfold Func.isWrapper; first | (rw [if_pos (by decide +kernel)]; kernel_rfl) | (rw [if_neg (by decide +kernel)]; exact ⟨rfl, rfl⟩))
    (fun os started H enc _ => lifted os started H enc)
theorem proved : Rows.DigraphOrdersSaid := over
end Go.Proofs.Ytlkabhjkncklnaa.lawOrders
