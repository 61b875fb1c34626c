
/-
The reference's graphs: Order: the walk.
-/
import Derived.Test.YtlkabhjkncklnaaDgN
namespace Go.Proofs.Ytlkabhjkncklnaa
set_option linter.unusedSimpArgs false
set_option linter.unusedVariables false
open Go.RowKit

def orderQ (s : Int) (es : List Bool) : List Int × Bool := if acyQ s es = true then (castL (orderF s.toNat es s.toNat []).1, true) else ([], false)
theorem hasE_get {n : Nat} {es : List Bool} {a b : Nat} (h : a * n + b < es.length) : hasE n es a b = es[a * n + b] := by
  unfold hasE
  rw [List.getD_eq_getElem?_getD, List.getElem?_eq_getElem h]
  rfl
set_option maxRecDepth 8000 in
set_option maxHeartbeats 4000000 in
theorem qOrder_any (s : Int) (v : Value) (es : List Bool) (w : World) (hes : Bools w v es) : Calls Try.prog 20 #[.int .i64 s, v] w fun e w' => ∃ v', e = .returned (.tuple #[v', .bool (orderQ s es).2]) ∧ Ints w' v' (orderQ s es).1 ∧ Kp w w' := by
  obtain ⟨A, c, rfl, hc, hm⟩ := hes.form
  have HES0 := hid hes
  generalize hR : orderQ s es = R
  have HR : Hid (R = if acyQ s es = true then (castL (orderF s.toNat es s.toNat []).1, true) else ([], false)) := hid hR.symm
  clear hR
  go_enter Try.func20, Try.ntmps20
  go_wp2_with fail
  refine (qAcyclic_any s _ es w hes).mono ?_
  rintro e w1 ⟨rfl, k1⟩
  clear hes
  cases ha : acyQ s es with
  | false =>
    have HF : Hid (R = ([], false)) := hid (by rw [HR.out, if_neg (by rw [ha]; simp)])
    replace ha := hid ha
    go_wp2
    go_ret2
    exact ⟨_, by rw [HF.out]; rfl, by rw [HF.out]; exact Sl.nil _ _ _, k1⟩
  | true =>
    have ho : openB s es.length = true := by
      unfold acyQ at ha
      simp only [Bool.and_eq_true] at ha
      exact ha.1
    have hacy := (acyQ_iff ho).1 ha
    have HR2 : Hid (R = (castL (orderF s.toNat es s.toNat []).1, true)) := hid (by rw [HR.out, if_pos ha])
    obtain ⟨n, rfl, h1, h6, hl⟩ := openB_iff ho
    have HF : Hid (R = (castL (orderF n es n []).1, true)) := HR2
    have HAC : Hid (∀ a, a < n → ¬ Rp n es a a) := hid hacy
    have HL := hid hl
    have HES := hid (HES0.out.keep (pl_stable _) k1)
    have hl36 : es.length ≤ 36 := by rw [hl]; exact Nat.mul_le_mul h6 h6
    have o0 := Own.lit (base := w1.heap.size) (size := 1) encInt (e := 3) w1 #[] [] (Nat.le_refl _) (by simp) rfl rfl
    have k0 := (Kp.refl w1).alloc (.cells #[] 3)
    replace ho := hid ho
    replace ha := hid ha
    clear hl HR HR2 hacy
    go_wp2_with fail
    go_loopw [6] (fun ov wr => ∃ (f : Nat) (out : List Nat), out.length + f = n ∧ Own encInt 3 1 w1.heap.size wr ov (castL out) ∧ Hid (R = (castL (orderF n es f out).1, true)) ∧ Kp w1 wr) (fun ov _ => match ov with | .slice _ m _ => n - m | _ => n)
    case atStart => exact ⟨n, [], by simp, o0, HF, k0⟩
    case round =>
      clear o0 k0 HF
      obtain ⟨f, out, hfn, own, HO, kr⟩ := hrel
      obtain ⟨Ao, co, e0, hco, hmo⟩ := own.form
      rw [castL_len] at e0 hco
      generalize hlo : out.length = lo at *
      subst e0
      have HLO := hid hlo
      clear hlo
      cases f with
      | zero =>
        have hnl : ¬ (lo : Int) < (n : Int) := by omega
        have HF : Hid (R = (castL out, true)) := hid HO.out
        go_wp2
        go_ret2
        exact ⟨_, by rw [HF.out]; rfl, by rw [HF.out]; have := own.sl encInt_len; exact this, k1.trans kr⟩
      | succ f =>
        have hnl : (lo : Int) < (n : Int) := by omega
        have HOW := hid own
        have HSL := hid (own.sl encInt_len)
        clear own
        go_wp2_with fail
        obtain ⟨wo, rfl⟩ : ∃ wo : World, wo = wr := ⟨_, rfl⟩
        go_loopw [7, 8] (fun nv vv wi => ∃ (d : Nat) (j : Int), d ≤ n ∧ j = (n : Int) - 1 - (d : Int) ∧ vv = .int .i64 j ∧ nv = .int .i64 (optI (nextD n es out d)) ∧ Kp wo wi) (fun _ vv _ => (intOf vv + 1).toNat)
        case atStart => exact ⟨0, (n : Int) - 1, Nat.zero_le _, by omega, rfl, rfl, Kp.refl _⟩
        case round =>
          obtain ⟨d, j, hd, hj, rfl, rfl, kd⟩ := hrel
          by_cases hdn : d < n
          · obtain ⟨jn, rfl⟩ := Int.eq_ofNat_of_zero_le (show 0 ≤ j by omega)
            have hjn : jn < n := by omega
            have hjd : n - (d + 1) = jn := by omega
            have HND : Hid (nextD n es out (d + 1) = if freeB n es out jn then some jn else nextD n es out d) := hid (by rw [nextD, hjd])
            have HFR : Hid (freeB n es out jn = (!decide (jn ∈ out) && (List.range n).all fun u => !hasE n es u jn || decide (u ∈ out))) := hid rfl
            have HJ := hid hj
            have hjp : (0 : Int) ≤ (jn : Int) := by omega
            clear hj hjd
            generalize hnx : optI (nextD n es out d) = nx at *
            have HNX := hid hnx
            clear hnx
            go_wp2_with fail
            refine (qHas_any _ out jn _ (HSL.out.keep (pl_stable _) kd)).mono ?_
            rintro e w5 ⟨rfl, rfl⟩
            go_wp2_with fail
            go_loopw [9, 10] (fun fv iv wi => ∃ u : Nat, u ≤ n ∧ iv = .int .i64 (u : Int) ∧ fv = .bool (!decide (jn ∈ out) && (List.range u).all fun u => !hasE n es u jn || decide (u ∈ out)) ∧ Kp wo wi) (fun _ iv _ => n - (intOf iv).toNat)
            case atStart => exact ⟨0, Nat.zero_le _, rfl, by simp, kd⟩
            case round =>
              obtain ⟨u, hu, rfl, rfl, ku⟩ := hrel
              have HUS := hid (all_range_succ (fun u => !hasE n es u jn || decide (u ∈ out)) u)
              by_cases hun : u < n
              · have hul : (u : Int) < (n : Int) := by omega
                have hi : u * n + jn < es.length := by rw [HL.out]; exact idx_lt hun hjn
                obtain ⟨g, o, hA, hg, i0⟩ := (HES.out.keep (pl_stable _) (kr.trans ku)).bools hi
                subst hA
                have HE0 := hid (hasE_get hi)
                have hp := mul_cast u n
                have HFV : Hid ((!decide (jn ∈ out) && (List.range (u + 1)).all fun u => !hasE n es u jn || decide (u ∈ out)) = ((!decide (jn ∈ out) && (List.range u).all fun u => !hasE n es u jn || decide (u ∈ out)) && (!hasE n es u jn || decide (u ∈ out)))) := hid (by rw [HUS.out, ← Bool.and_assoc])
                generalize (!decide (jn ∈ out) && (List.range u).all fun u => !hasE n es u jn || decide (u ∈ out)) = fb at *
                generalize es[u * n + jn] = x at *
                generalize u * n = un at *
                have hj1 : (un : Int) + (jn : Int) < (es.length : Int) := by omega
                cases x with
                | false =>
                  have HFU : Hid ((!decide (jn ∈ out) && (List.range (u + 1)).all fun u => !hasE n es u jn || decide (u ∈ out)) = fb) := hid (by rw [HFV.out, HE0.out]; simp)
                  go_wp2_with fail
                  go_roundw
                  case rel => exact ⟨u + 1, by omega, by go_num, by rw [HFU.out], ku⟩
                  case measure => simp [intOf]; omega
                | true =>
                  have HFU0 : Hid ((!decide (jn ∈ out) && (List.range (u + 1)).all fun u => !hasE n es u jn || decide (u ∈ out)) = (fb && decide (u ∈ out))) := hid (by rw [HFV.out, HE0.out]; simp)
                  go_wp2_with fail
                  refine (qHas_any _ out u _ (HSL.out.keep (pl_stable _) ku)).mono ?_
                  rintro e w8 ⟨rfl, rfl⟩
                  generalize decide (u ∈ out) = ub at *
                  cases ub with
                  | true =>
                    have HFU : Hid ((!decide (jn ∈ out) && (List.range (u + 1)).all fun u => !hasE n es u jn || decide (u ∈ out)) = fb) := hid (by rw [HFU0.out]; simp)
                    go_wp2_with fail
                    go_roundw
                    case rel => exact ⟨u + 1, by omega, by go_num, by rw [HFU.out], ku⟩
                    case measure => simp [intOf]; omega
                  | false =>
                    have HFU : Hid ((!decide (jn ∈ out) && (List.range (u + 1)).all fun u => !hasE n es u jn || decide (u ∈ out)) = false) := hid (by rw [HFU0.out]; simp)
                    go_wp2_with fail
                    go_roundw
                    case rel => exact ⟨u + 1, by omega, by go_num, by rw [HFU.out], ku⟩
                    case measure => simp [intOf]; omega
              · obtain rfl : u = n := by omega
                have hul : ¬ (u : Int) < (u : Int) := by omega
                rw [← HFR.out]
                cases hfb : freeB u es out jn with
                | false =>
                  have HN2 : Hid (nextD u es out (d + 1) = nextD u es out d) := hid (by rw [HND.out, hfb]; rfl)
                  replace hfb := hid hfb
                  go_wp2_with fail
                  go_roundw
                  case rel => exact ⟨d + 1, (jn : Int) - 1, by omega, by have := HJ.out; omega, rfl, by rw [HN2.out, HNX.out], ku⟩
                  case measure => simp [intOf]
                | true =>
                  have HN2 : Hid (nextD u es out (d + 1) = some jn) := hid (by rw [HND.out, hfb]; rfl)
                  replace hfb := hid hfb
                  go_wp2_with fail
                  go_roundw
                  case rel => exact ⟨d + 1, (jn : Int) - 1, by omega, by have := HJ.out; omega, rfl, by rw [HN2.out]; rfl, ku⟩
                  case measure => simp [intOf]
          · obtain rfl : d = n := by omega
            obtain rfl : j = -1 := by omega
            have own := HOW.out.kp kd
            have krd := kr.trans kd
            have hlo6 : lo ≤ 6 := by omega
            clear hj
            cases hN : nextD d es out d with
            | none => exact absurd hN (next_some HAC.out (by rw [HLO.out]; omega))
            | some x =>
              have HO2 : Hid (R = (castL (orderF d es f (out ++ [x])).1, true)) := hid (by rw [HO.out, orderF, hN])
              have e1 : optI (some x) = (x : Int) := rfl
              rw [e1]
              replace hN := hid hN
              clear e1
              have hcl : (castL out).length ≤ 6 := by rw [castL_len, HLO.out]; exact hlo6
              have hb9 : w1.heap.size ≤ wr.heap.size := krd.size
              go_wp2_with (at_builtin; refine wpl_append_flat rfl (.tmp 51) (.tmp 53) rfl stIntM encInt_len encInt_one rfl (own.alloc _) rfl (Sl.one (R := Pl encInt) wr _ 3 1 (x : Int) rfl rfl) (by simp; omega) (by simp; omega) (by simp; omega) ?_; intro vA wA ownA hgr hat hnil)
              have hge := own.ge
              have krA := (krd.alloc (.cells #[.int .i64 (x : Int)] 3)).grown hgr hge
              clear hgr hat hnil own krd
              obtain ⟨AA, cA, eA, hcA, hmA⟩ := ownA.form
              have hlA : (castL out ++ [(x : Int)]).length = lo + 1 := by rw [List.length_append, castL_len, HLO.out]; rfl
              rw [hlA] at eA
              subst eA
              go_roundw
              case rel => exact ⟨f, out ++ [x], by have := HLO.out; simp; omega, by rw [castL_snoc]; exact ownA, HO2, krA⟩
              case measure =>
                show d - (lo + 1) < d - lo
                omega
end Go.Proofs.Ytlkabhjkncklnaa
