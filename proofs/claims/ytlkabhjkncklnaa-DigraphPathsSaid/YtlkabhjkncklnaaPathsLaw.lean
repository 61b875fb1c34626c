
/-
DigraphPaths: for every size and all edges the law returns true and leaves its arguments as they were.
-/
import Derived.Test.YtlkabhjkncklnaaDgOpen
import Derived.Test.YtlkabhjkncklnaaDgPf
import Derived.Deep.CutRange
namespace Go.Proofs.Ytlkabhjkncklnaa.lawPaths
set_option linter.unusedSimpArgs false
set_option linter.unusedVariables false
open Go.ChangeShapes Go.WideShapes Go.ChangeAt Go.RowKit

set_option maxRecDepth 8000 in
set_option maxHeartbeats 8000000 in
theorem walk (s : Int) (va : Value) (es : List Bool) (w : World) (ha : Bools w va es) : Calls Try.prog 6 #[.int .i64 s, va] w fun e w' => e = .returned (.bool true) ∧ Kp w w' := by
  obtain ⟨A, c, rfl, hc, hm⟩ := ha.form
  have HA := hid ha
  clear ha
  go_enter Try.func6, Try.ntmps6
  go_wp2_with fail
  refine (awake19_any w).mono ?_
  rintro e w1 ⟨rfl, k1⟩
  go_wp2_with fail
  refine (qValid_any s A es.length c w1 (by omega)).mono ?_
  rintro e w2 ⟨rfl, rfl⟩
  cases ho : openB s es.length with
  | false =>
    replace ho := hid ho
    go_wp2
    go_ret
    exact ⟨rfl, k1⟩
  | true =>
    obtain ⟨n, rfl, h1, h6, hl⟩ := openB_iff ho
    have HREACH : Hid (reachPub n es = reachRows n es n) := hid (by unfold reachPub; rw [if_pos ho]; rfl)
    have HL := hid hl
    have hl36 : es.length ≤ 36 := by rw [hl]; exact Nat.mul_le_mul h6 h6
    replace ho := hid ho
    clear hl
    go_wp2_with fail
    refine (dReach_any n _ es w2 (HA.out.keep (pl_stable _) k1)).mono ?_
    rw [HREACH.out]
    rintro e w3 ⟨v3, rfl, i3, k3⟩
    obtain ⟨A3, c3, rfl, -, -⟩ := i3.form
    have hrl : (reachRows n es n).length = es.length := by rw [reachRows_len, HL.out]
    rw [hrl]
    have HR := hid i3
    rw [hrl] at HR
    have HRL := hid hrl
    have k13 := k1.trans k3
    clear HREACH hrl i3
    go_wp2_with fail
    go_loopw [25] (fun av wr => ∃ a : Nat, a ≤ n ∧ av = .int .i64 (a : Int) ∧ Kp w3 wr) (fun av _ => n - (intOf av).toNat)
    case atStart => exact ⟨0, Nat.zero_le _, rfl, Kp.refl _⟩
    case round =>
      obtain ⟨a, ha, rfl, kr⟩ := hrel
      by_cases han : a < n
      · have hal : (a : Int) < (n : Int) := by omega
        go_wp2_with fail
        go_loopw [29] (fun bv wr => ∃ b : Nat, b ≤ n ∧ bv = .int .i64 (b : Int) ∧ Kp w3 wr) (fun bv _ => n - (intOf bv).toNat)
        case atStart => exact ⟨0, Nat.zero_le _, rfl, kr⟩
        case round =>
          clear kr
          obtain ⟨b, hb, rfl, kr⟩ := hrel
          by_cases hbn : b < n
          · have hbl : (b : Int) < (n : Int) := by omega
            have HPP : Hid (pathPub n es a b = castL (pathF n es a b)) := hid (by unfold pathPub; rw [if_pos ⟨ho.out, by omega, by omega⟩]; rfl)
            have HLB := hid (path_reach (n := n) (es := es) (b := b) han)
            have HOKP := hid (path_ok (n := n) (es := es) (b := b) han)
            have HNEAR := hid (fun c hc => path_near (n := n) (es := es) (b := b) (c := c) han hc)
            have HER := hid (edge_reach (n := n) (es := es) (a := a) hbn)
            have HHE := hid (hasE_get (n := n) (es := es) (a := a) (b := b) (by rw [HL.out]; exact idx_lt han hbn))
            have hie : a * n + b < es.length := by rw [HL.out]; exact idx_lt han hbn
            have hrg : (reachRows n es n)[a * n + b]'(by rw [HRL.out]; exact hie) = reachesF n es a b := by
              have := reachRows_get n es hbn n a han
              rw [List.getElem?_eq_getElem (by rw [HRL.out]; exact hie)] at this
              injection this
            have HRG := hid hrg
            clear hrg
            go_wp2_with fail
            refine (dPathP_any n _ es a b _ (HA.out.keep (pl_stable _) (k13.trans kr))).mono ?_
            rw [HPP.out]
            rintro e w5 ⟨v5, rfl, i5, k5⟩
            have kr5 := kr.trans k5
            have HP := hid i5
            obtain ⟨Ap, cp, rfl, hcp, hmp⟩ := i5.form
            rw [castL_len] at hcp ⊢
            generalize hpf : pathF n es a b = p at *
            have HPF := hid hpf
            clear hpf HPP i5
            obtain ⟨g1, o1, hA1, hg1, i1⟩ := (HA.out.keep (pl_stable _) (k13.trans kr5)).bools hie
            obtain ⟨g2, o2, hA2, hg2, i2⟩ := (HR.out.keep (pl_stable _) kr5).bools (k := a * n + b) (by rw [HRL.out]; exact hie)
            subst hA1 hA2
            rw [HRG.out] at i2
            rw [HHE.out] at HER
            generalize es[a * n + b] = x at *
            generalize reachesF n es a b = y at *
            have hp := mul_cast a n
            generalize a * n = an at *
            have hj1 : (an : Int) + (b : Int) < (es.length : Int) := by omega
            obtain ⟨q, hq⟩ : ∃ q, ((a : Int) == (b : Int)) = q := ⟨_, rfl⟩
            have HQ := hid hq
            rw [hq] at HLB
            go_upto_region 15 with (fail)
            go_cut [29, 74] from 29 to 125 (fun s29 s74 wx => s29 = .int .i64 (b : Int) ∧ s74 = .bool false ∧ wx = w5)
            case first =>
              obtain ⟨lb, hlb⟩ : ∃ lb, decide (0 < (p.length : Int)) = lb := ⟨_, rfl⟩
              have hlb2 : decide (0 < p.length) = lb := by rw [← hlb]; simp
              have HLB2 : Hid (lb = (q || y)) := hid (by rw [← hlb]; exact HLB.out)
              cases q with
              | true =>
                obtain rfl : lb = true := by rw [HLB2.out]; rfl
                cases x with
                | true =>
                  obtain rfl : y = true := HER.out rfl
                  go_wp2
                  go_meet
                  case rel => exact ⟨rfl, rfl, rfl⟩
                | false =>
                  go_wp2
                  go_meet
                  case rel => exact ⟨rfl, rfl, rfl⟩
              | false =>
                cases y with
                | true =>
                  obtain rfl : lb = true := by rw [HLB2.out]; rfl
                  cases x with
                  | true =>
                    go_wp2
                    go_meet
                    case rel => exact ⟨rfl, rfl, rfl⟩
                  | false =>
                    go_wp2
                    go_meet
                    case rel => exact ⟨rfl, rfl, rfl⟩
                | false =>
                  obtain rfl : lb = false := by rw [HLB2.out]; rfl
                  cases x with
                  | true => exact absurd (HER.out rfl) (by simp)
                  | false =>
                    go_wp2
                    go_meet
                    case rel => exact ⟨rfl, rfl, rfl⟩
            case rest =>
              obtain ⟨rfl, rfl, rfl⟩ := hcut
              clear hq i1 i2
              by_cases hp0 : p.length = 0
              · generalize p.length = pl at *
                subst hp0
                go_wp2_with fail
                go_roundw
                case rel => exact ⟨b + 1, by omega, by go_num, kr5⟩
                case measure => simp [intOf]; omega
              · obtain ⟨m, hm1⟩ : ∃ m, p.length = m + 1 := ⟨p.length - 1, by omega⟩
                have hpne : p ≠ [] := fun e => by rw [e] at hp0; exact hp0 rfl
                obtain ⟨hok, hh, hlast⟩ := HOKP.out hpne
                have hm6 := nodup_len n p hok.nd hok.lt
                obtain ⟨g3, o3, hA3, hg3, i0⟩ := HP.out.ints (k := 0) (by rw [castL_len]; omega)
                obtain ⟨g4, o4, hA4, -, im⟩ := HP.out.ints (k := m) (by rw [castL_len]; omega)
                subst hA3
                injection hA4 with hA4
                injection hA4 with c1 c2 c3
                subst c1 c2
                rw [castL_get p 0 (by omega), Nat.add_zero] at i0
                rw [castL_get p m (by omega)] at im
                have e0 : p[0]'(by omega) = a := by rw [← headD_eq hpne]; exact hh
                have em : p[m]'(by omega) = b := by rw [← hlast, getLastD_eq hpne]; congr 1; omega
                rw [e0] at i0
                rw [em] at im
                have HOK := hid hok
                have HNE := hid hpne
                have HM := hid hm1
                rw [castL_len] at HP
                clear e0 em hok hh hlast hpne hp0 HOKP HLB HER
                have hpm : (p.length : Int) = (m : Int) + 1 := by omega
                have hmb : (m : Int) ≤ 6 := by omega
                have HPM := hid hpm
                rw [hm1] at HP hcp
                generalize hpl : p.length = pl at *
                subst hm1
                go_wp2_with fail
                refine (lWalk_any n es p _ _ wc (HA.out.keep (pl_stable _) (k13.trans kr5)) HP.out HL.out h6 HOK.out).mono ?_
                rintro e w6 ⟨rfl, k6⟩
                have kr6 := kr5.trans k6
                have j0 := k6.cellS i0
                have jm := k6.cellS im
                clear i0 im
                go_wp2_with fail
                go_loopw [101] (fun cv wr => ∃ c : Nat, c ≤ n ∧ cv = .int .i64 (c : Int) ∧ Kp w3 wr) (fun cv _ => n - (intOf cv).toNat)
                case atStart => exact ⟨0, Nat.zero_le _, rfl, kr6⟩
                case round =>
                  clear kr kr5 kr6 k5 k6 j0 jm
                  obtain ⟨d, hd, rfl, kr⟩ := hrel
                  by_cases hdn : d < n
                  · have hdl : (d : Int) < (n : Int) := by omega
                    have HPC : Hid (pathPub n es a d = castL (pathF n es a d)) := hid (by unfold pathPub; rw [if_pos ⟨ho.out, by omega, by omega⟩]; rfl)
                    have HNR := hid (HNEAR.out d hdn HNE.out)
                    have hie2 : b * n + d < es.length := by rw [HL.out]; exact idx_lt hbn hdn
                    have HH2 := hid (hasE_get (n := n) (es := es) (a := b) (b := d) hie2)
                    obtain ⟨g5, o5, hA5, hg5, i5⟩ := (HA.out.keep (pl_stable _) (k13.trans kr)).bools hie2
                    injection hA5 with hA5
                    injection hA5 with c1 c2
                    subst c1 c2
                    have HY : Hid (es[b * n + d] = true → (pathF n es a d).length ≤ m + 1 + 1) := hid (fun e => HNR.out (HH2.out.trans e))
                    clear HNR HH2
                    generalize es[b * n + d] = z at *
                    have hp2 := mul_cast b n
                    generalize b * n = bn at *
                    have hj2 : (bn : Int) + (d : Int) < (es.length : Int) := by omega
                    cases z with
                    | true =>
                      have hnr := HY.out rfl
                      go_wp2_with fail
                      refine (dPathP_any n _ es a d _ (HA.out.keep (pl_stable _) (k13.trans kr))).mono ?_
                      rw [HPC.out]
                      rintro e w7 ⟨v7, rfl, i7, k7⟩
                      obtain ⟨A7, c7, rfl, hc7, hm7⟩ := i7.form
                      rw [castL_len]
                      have hcmp : ¬ ((m : Int) + 1 + 1 < ((pathF n es a d).length : Int)) := by omega
                      go_wp2_with fail
                      go_roundw
                      case rel => exact ⟨d + 1, by omega, by go_num, kr.trans k7⟩
                      case measure => simp [intOf]; omega
                    | false =>
                      go_wp2_with fail
                      go_roundw
                      case rel => exact ⟨d + 1, by omega, by go_num, kr⟩
                      case measure => simp [intOf]; omega
                  · obtain rfl : d = n := by omega
                    have hdl : ¬ (d : Int) < (d : Int) := by omega
                    go_wp2_with fail
                    go_roundw
                    case rel => exact ⟨b + 1, by omega, by go_num, kr⟩
                    case measure => simp [intOf]; omega
          · obtain rfl : b = n := by omega
            have hbl : ¬ (b : Int) < (b : Int) := by omega
            go_wp2_with fail
            go_roundw
            case rel => exact ⟨a + 1, by omega, by go_num, kr⟩
            case measure => simp [intOf]; omega
      · obtain rfl : a = n := by omega
        have hal : ¬ (a : Int) < (a : Int) := by omega
        go_wp2
        go_ret
        exact ⟨rfl, k13.trans kr⟩
theorem own : ownKnob Try.prog.godebug = none := by kernel_rfl
theorem laidOut : laidOutB Try.prog = true := by kernel_rfl
set_option maxRecDepth 100000 in
theorem lifted (os : Os) (started : os.Started) (H : Type) (enc : TypeId × Value → H) :
    ReturnsInHanded {} Try.checked os 6 .any (Rows.digraphPathsSpec.pre6 enc Try.prog Try.f6 Rows.digraphPathsRow.domain false) (Rows.digraphPathsSpec.post enc Try.prog Try.f6 false true false false) := by
  refine returnsInHanded_of_change (C := Try.checked) own started (by kernel_rfl) Try.func6
    (ChangeSpec.witness6 (enc := enc) (C := Try.checked) false ⟨#[], #[.int .i64 0, .slice none 0 0], []⟩ 8 (by kernel_rfl) (by kernel_rfl) (by kernel_rfl) (by kernel_rfl)) ?_
  intro W base args ds gs before hval0 hW hcnd _
  have hval : ∀ (j : Nat) t v, Try.f6.params[j]? = some t → args[j]? = some v → Value.okWide Try.prog W .any base t v := hval0
  have hW' := hW
  obtain ⟨p, q, hA0, hV, rfl, hfz, hnd⟩ := hW
  have hA : DataW.TrodAll enc Try.prog W 0 (fun _ => true) true Try.f6.params.toList args.toList ds p := hA0
  rw [Try.params6] at hA hval
  obtain ⟨v0, vs0, d0, ds0, p0, q0, hargs, rfl, rfl, h0, r0⟩ := trodAll_cons hA
  obtain ⟨v1, vs1, d1, ds1, p1, q1, rfl, rfl, rfl, h1, r1⟩ := trodAll_cons r0
  obtain ⟨rfl, rfl, rfl⟩ := trodAll_nil r1
  obtain rfl : args = #[v0, v1] := by cases args; simp_all
  obtain ⟨rfl, rfl⟩ := trodVars_none hV
  have lt0 : ∀ x ∈ p0, x.block < W.heap.size := by obtain ⟨m, hm⟩ := h0; exact DataW.trod_lt m _ _ _ hm
  have lt1 : ∀ x ∈ p1, x.block < W.heap.size := by obtain ⟨m, hm⟩ := h1; exact DataW.trod_lt m _ _ _ hm
  obtain ⟨x0, rfl, -, -, wx0⟩ := open_int Try.underlying3 (hval 0 3 v0 rfl rfl) h0
  obtain ⟨a1, len1, cap1, rfl⟩ := okWide_slice Try.underlying22 (hval 1 22 v1 rfl rfl)
  obtain ⟨n1, hn1⟩ := trod_slice_value h1
  obtain ⟨x1, hx1⟩ := opBools hn1
  clear hA0 hval0
  refine (walk x0 _ x1 W hx1).mono fun e W' ⟨he, bel⟩ => ?_
  subst he
  exact ⟨_, rfl, _, _, _, [], _, [], hW', trodAll_mk1 (shut_bool Try.underlying4 _), (trodAll_cons_mk (Below.trod laidOut (by kernel_rfl) (of_decide_eq_true (by kernel_rfl)) h0 bel lt0) (trodAll_cons_mk (Below.trod laidOut (by kernel_rfl) (of_decide_eq_true (by kernel_rfl)) h1 bel lt1) trodAll_mk0)), rfl, Below.frame bel _, fun h => by cases h⟩
theorem over : Rows.digraphPathsRow.holds Try.pinned (OpenSpec.ofChange Rows.digraphPathsSpec) :=
  OpenClaim.holds_of_wide 6 Try.f6 rfl rfl rfl rfl rfl rfl rfl ⟨rfl, rfl, rfl, rfl, rfl⟩ rfl rfl rfl rfl rfl (by kernel_rfl) Try.func6 (by kernel_rfl)
    (of_decide_eq_true (by kernel_rfl)) (by unfold Func.isWrapper; first | (rw [if_pos (by decide +kernel)]; kernel_rfl) | (rw [if_neg (by decide +kernel)]; exact ⟨rfl, rfl⟩))
    (fun os started H enc _ => lifted os started H enc)
theorem proved : Rows.DigraphPathsSaid := over
end Go.Proofs.Ytlkabhjkncklnaa.lawPaths
