
/-
The reference's graphs: Forbidden: the walk.
-/
import Derived.Test.YtlkabhjkncklnaaDgV
namespace Go.Proofs.Ytlkabhjkncklnaa
set_option linter.unusedSimpArgs false
set_option linter.unusedVariables false
open Go.RowKit

def forbE (n : Nat) (es ps R : List Bool) (a b : Nat) : Bool := ps.getD (a * n + b) false && (!es.getD (a * n + b) false && (decide (a = b) || R.getD (b * n + a) false))
def forbRow (n : Nat) (es ps R : List Bool) (a k : Nat) : List Int := ((List.range k).filter (forbE n es ps R a)).map fun b : Nat => ((a * n + b : Nat) : Int)
def forbRows (n : Nat) (es ps R : List Bool) (k : Nat) : List Int := (List.range k).flatMap fun a => forbRow n es ps R a n
def forbQ (s : Int) (es ps : List Bool) : List Int := if openB s es.length = true ∧ openB s ps.length = true then forbRows s.toNat es ps (reachW s.toNat es) s.toNat else []
theorem forbRow_succ (n : Nat) (es ps R : List Bool) (a k : Nat) : forbRow n es ps R a (k + 1) = forbRow n es ps R a k ++ if forbE n es ps R a k then [((a * n + k : Nat) : Int)] else [] := by
  unfold forbRow
  rw [List.range_succ, List.filter_append, List.map_append]
  congr 1
  cases h : forbE n es ps R a k <;> simp [h]
theorem forbRows_succ (n : Nat) (es ps R : List Bool) (k : Nat) : forbRows n es ps R (k + 1) = forbRows n es ps R k ++ forbRow n es ps R k n := by
  unfold forbRows
  rw [List.range_succ, List.flatMap_append]
  simp
theorem forbRow_len (n : Nat) (es ps R : List Bool) (a k : Nat) : (forbRow n es ps R a k).length ≤ k := by
  unfold forbRow
  rw [List.length_map]
  exact Nat.le_trans (List.length_filter_le _ _) (by simp)
theorem forbRows_len (n : Nat) (es ps R : List Bool) : ∀ k, (forbRows n es ps R k).length ≤ k * n
  | 0 => by simp [forbRows]
  | k + 1 => by
    rw [forbRows_succ, List.length_append, Nat.add_mul, Nat.one_mul]
    have := forbRows_len n es ps R k
    have := forbRow_len n es ps R k n
    omega
set_option maxRecDepth 8000 in
set_option maxHeartbeats 6000000 in
theorem qForbid_any (s : Int) (v1 v2 : Value) (es ps : List Bool) (w : World) (hes : Bools w v1 es) (hps : Bools w v2 ps) : Calls Try.prog 27 #[.int .i64 s, v1, v2] w fun e w' => ∃ v', e = .returned v' ∧ Ints w' v' (forbQ s es ps) ∧ Kp w w' := by
  obtain ⟨A, c, rfl, hc, hm⟩ := hes.form
  obtain ⟨A2, c2, rfl, hc2, hm2⟩ := hps.form
  have HES := hid hes
  have HPS := hid hps
  generalize hR : forbQ s es ps = R
  have HR : Hid (R = if openB s es.length = true ∧ openB s ps.length = true then forbRows s.toNat es ps (reachW s.toNat es) s.toNat else []) := hid hR.symm
  clear hR hes hps
  go_enter Try.func27, Try.ntmps27
  go_wp2_with fail
  refine (qValid_any s A es.length c w (by omega)).mono ?_
  rintro e w1 ⟨rfl, rfl⟩
  cases ho : openB s es.length with
  | false =>
    have HF : Hid (R = []) := hid (by rw [HR.out, if_neg (by rw [ho]; simp)])
    replace ho := hid ho
    go_wp2
    go_ret
    exact ⟨_, rfl, by rw [HF.out]; exact Sl.nil _ _ _, Kp.refl _⟩
  | true =>
    go_wp2_with fail
    refine (qValid_any s A2 ps.length c2 w1 (by omega)).mono ?_
    rintro e w1' ⟨rfl, rfl⟩
    cases ho2 : openB s ps.length with
    | false =>
      have HF : Hid (R = []) := hid (by rw [HR.out, if_neg (by rw [ho2]; simp)])
      replace ho := hid ho
      replace ho2 := hid ho2
      go_wp2
      go_ret
      exact ⟨_, rfl, by rw [HF.out]; exact Sl.nil _ _ _, Kp.refl _⟩
    | true =>
      have HQ : Hid (reachQ s es = reachW s.toNat es) := hid (by rw [reachQ, if_pos ho])
      obtain ⟨n, rfl, h1, h6, hl⟩ := openB_iff ho
      have hl2 : ps.length = n * n := by
        obtain ⟨n', e1, -, -, e2⟩ := openB_iff ho2
        rw [e2, show n' = n by omega]
      have HF : Hid (R = forbRows n es ps (reachW n es) n) := hid (by rw [HR.out, if_pos ⟨ho, ho2⟩]; rfl)
      have HLN := hid ((reachW_len n es).trans hl)
      have HL := hid hl
      have HL2' := hid hl2
      replace ho := hid ho
      replace ho2 := hid ho2
      clear hl hl2 HR
      go_wp2_with fail
      refine (qReach_any (n : Int) _ es w1' HES.out).mono ?_
      rintro e w2 ⟨v2, rfl, hb2, k2⟩
      rw [HQ.out] at hb2
      replace hb2 : Bools w2 v2 (reachW n es) := hb2
      obtain ⟨A3, c3, rfl, hc3, hm3⟩ := hb2.form
      generalize hmm : reachW n es = mm at *
      clear hmm HQ
      have HB2 := hid hb2
      clear hb2
      have o0 := Own.lit (base := w2.heap.size) (size := 1) encInt (e := 3) w2 #[] [] (Nat.le_refl _) (by simp) rfl rfl
      have k0 := (Kp.refl w2).alloc (.cells #[] 3)
      go_wp2_with fail
      go_loopw [8, 9] (fun ov i wr => ∃ (k : Nat) (L : List Int), k ≤ n ∧ i = .int .i64 (k : Int) ∧ Own encInt 3 1 w2.heap.size wr ov L ∧ Hid (L = forbRows n es ps mm k) ∧ Kp w2 wr) (fun _ i _ => n - (intOf i).toNat)
      case atStart => exact ⟨0, [], Nat.zero_le _, rfl, o0, hid rfl, k0⟩
      case round =>
        clear o0 k0
        obtain ⟨k, L, hk, rfl, own, HLk, kr⟩ := hrel
        obtain ⟨Ao, co, rfl, hco, hmo⟩ := own.form
        by_cases hkn : k < n
        · have hkl : (k : Int) < (n : Int) := by omega
          have HRS := hid (forbRows_succ n es ps mm k)
          have hLb : L.length ≤ 36 := by
            rw [HLk.out]
            have h1 := forbRows_len n es ps mm k
            have h2 := Nat.mul_le_mul (Nat.le_of_lt (Nat.lt_of_lt_of_le hkn h6)) h6
            omega
          go_wp2_with fail
          obtain ⟨wo, rfl⟩ : ∃ wo : World, wo = wr := ⟨_, rfl⟩
          go_loopw [8, 10] (fun ov i wi => ∃ (j : Nat) (L2 : List Int), j ≤ n ∧ i = .int .i64 (j : Int) ∧ Own encInt 3 1 w2.heap.size wi ov L2 ∧ Hid (L2 = L ++ forbRow n es ps mm k j) ∧ Kp w2 wi) (fun _ i _ => n - (intOf i).toNat)
          case atStart => exact ⟨0, L, Nat.zero_le _, rfl, own, hid (by simp [forbRow]), kr⟩
          case round =>
            clear own kr
            obtain ⟨j, L2, hj, rfl, own, HL2, kr⟩ := hrel
            obtain ⟨Av, cv, rfl, hcv, hmv⟩ := own.form
            by_cases hjn : j < n
            · have hjl : (j : Int) < (n : Int) := by omega
              have HFS := hid (forbRow_succ n es ps mm k j)
              have hL2b : L2.length ≤ 42 := by
                rw [HL2.out, List.length_append]
                have := forbRow_len n es ps mm k j
                omega
              have hi1 : k * n + j < es.length := by rw [HL.out]; exact idx_lt hkn hjn
              have hi2 : k * n + j < ps.length := by rw [HL2'.out]; exact idx_lt hkn hjn
              have hi3 : j * n + k < mm.length := by rw [HLN.out]; exact idx_lt hjn hkn
              obtain ⟨g1, o1, hA1, hg1, i1⟩ := (HES.out.keep (pl_stable _) (k2.trans kr)).bools hi1
              obtain ⟨g2, o2, hA2, hg2, i2⟩ := (HPS.out.keep (pl_stable _) (k2.trans kr)).bools hi2
              obtain ⟨g3, o3, hA3, hg3, i3⟩ := (HB2.out.keep (pl_stable _) kr).bools hi3
              subst hA1 hA2 hA3
              have HE0 : Hid (forbE n es ps mm k j = (ps[k * n + j] && (!es[k * n + j] && (decide (k = j) || mm[j * n + k])))) := hid (by
                simp [forbE, List.getD, List.getElem?_eq_getElem hi1, List.getElem?_eq_getElem hi2, List.getElem?_eq_getElem hi3])
              have hp1 := mul_cast k n
              have hp2 := mul_cast j n
              generalize ps[k * n + j] = x at *
              generalize es[k * n + j] = y at *
              generalize mm[j * n + k] = z at *
              generalize k * n = kn at *
              generalize j * n = jn at *
              have hk36 : kn ≤ es.length := by omega
              have hj1 : (kn : Int) + (j : Int) < (es.length : Int) := by omega
              have hj2 : (kn : Int) + (j : Int) < (ps.length : Int) := by omega
              have hj3 : (jn : Int) + (k : Int) < (mm.length : Int) := by omega
              have hl36 : es.length ≤ 36 := by rw [HL.out]; exact Nat.mul_le_mul h6 h6
              have hm36 : mm.length ≤ 36 := by rw [HLN.out]; exact Nat.mul_le_mul h6 h6
              cases x with
              | false =>
                have HE : Hid (forbE n es ps mm k j = false) := hid (by rw [HE0.out]; rfl)
                go_wp2_with fail
                go_roundw
                case rel => exact ⟨j + 1, L2, by omega, by go_num, own, hid (by rw [HFS.out, HE.out, HL2.out]; simp), kr⟩
                case measure => simp [intOf]; omega
              | true =>
                cases y with
                | true =>
                  have HE : Hid (forbE n es ps mm k j = false) := hid (by rw [HE0.out]; rfl)
                  go_wp2_with fail
                  go_roundw
                  case rel => exact ⟨j + 1, L2, by omega, by go_num, own, hid (by rw [HFS.out, HE.out, HL2.out]; simp), kr⟩
                  case measure => simp [intOf]; omega
                | false =>
                  by_cases hkj : k = j
                  · have e1 : ((k : Int) == (j : Int)) = true := by rw [hkj]; simp
                    have HE : Hid (forbE n es ps mm k j = true) := hid (by rw [HE0.out, decide_eq_true hkj]; rfl)
                    replace hkj := hid hkj
                    have hge := own.ge
                    have hzr := kr.size
                    go_wp2_with (at_builtin; refine wpl_append_flat rfl (.tmp 69) (.tmp 75) rfl stIntM encInt_len encInt_one rfl (own.alloc _) rfl (Sl.one (R := Pl encInt) wr _ 3 1 ((kn : Int) + (j : Int)) rfl rfl) (by simp; omega) (by simp; omega) (by simp; omega) ?_; intro vA wA ownA hgr hat hnil)
                    have krA := (kr.alloc (.cells #[.int .i64 ((kn : Int) + (j : Int))] 3)).grown hgr hge
                    clear hgr hat hnil
                    go_roundw
                    case rel => exact ⟨j + 1, L2 ++ [(kn : Int) + (j : Int)], by omega, by go_num, ownA, hid (by rw [HFS.out, HE.out, HL2.out]; simp), krA⟩
                    case measure => simp [intOf]; omega
                  · have e1 : ((k : Int) == (j : Int)) = false := beq_false_of_ne (by omega)
                    have HE1 : Hid (forbE n es ps mm k j = z) := hid (by rw [HE0.out, decide_eq_false hkj]; cases z <;> rfl)
                    replace hkj := hid hkj
                    cases z with
                    | false =>
                      have HE := HE1
                      go_wp2_with fail
                      go_roundw
                      case rel => exact ⟨j + 1, L2, by omega, by go_num, own, hid (by rw [HFS.out, HE.out, HL2.out]; simp), kr⟩
                      case measure => simp [intOf]; omega
                    | true =>
                      have HE := HE1
                      have hge := own.ge
                      have hzr := kr.size
                      go_wp2_with (at_builtin; refine wpl_append_flat rfl (.tmp 69) (.tmp 75) rfl stIntM encInt_len encInt_one rfl (own.alloc _) rfl (Sl.one (R := Pl encInt) wr _ 3 1 ((kn : Int) + (j : Int)) rfl rfl) (by simp; omega) (by simp; omega) (by simp; omega) ?_; intro vA wA ownA hgr hat hnil)
                      have krA := (kr.alloc (.cells #[.int .i64 ((kn : Int) + (j : Int))] 3)).grown hgr hge
                      clear hgr hat hnil
                      go_roundw
                      case rel => exact ⟨j + 1, L2 ++ [(kn : Int) + (j : Int)], by omega, by go_num, ownA, hid (by rw [HFS.out, HE.out, HL2.out]; simp), krA⟩
                      case measure => simp [intOf]; omega
            · have hjl : ¬ (j : Int) < (n : Int) := by omega
              go_wp2_with fail
              go_roundw
              case rel => exact ⟨k + 1, L2, by omega, by go_num, own, hid (by rw [HRS.out, HL2.out, HLk.out, show j = n by omega]), kr⟩
              case measure => simp [intOf]; omega
        · have hkl : ¬ (k : Int) < (n : Int) := by omega
          go_wp2
          go_ret
          exact ⟨_, rfl, by rw [HF.out, show forbRows n es ps mm n = L by rw [HLk.out, show k = n by omega]]; exact own.sl encInt_len, k2.trans kr⟩
end Go.Proofs.Ytlkabhjkncklnaa
