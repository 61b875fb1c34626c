
/-
The reference: valid needs, priorities and requests: the walks.
-/
import Derived.Test.YtbcekihjcgnhkaaBkO
import Derived.Deep.CutRange
namespace Go.Proofs.Ytbcekihjcgnhkaa
set_option linter.unusedSimpArgs false
set_option linter.unusedVariables false
open Go.RowKit

/-! plain -/
def bad5 (i a : Int) : Bool := decide (i < 0) || decide (1024 ≤ i) || decide (a < 1) || decide (1000000 < a)
def bad7 (k e : Int) : Bool := !(k == 0 && e == 0) && !(k == 1 && decide (0 ≤ e) && decide (e < 6))
theorem okNd_bad (k i e a : Int) : okNd ((k, i, e), a) = !(bad5 i a || bad7 k e) := by
  rw [Bool.eq_iff_iff]
  unfold okNd bad5 bad7 btw mostR
  simp only [Bool.and_eq_true, Bool.or_eq_true, Bool.not_eq_true', Bool.or_eq_false_iff, Bool.and_eq_false_iff, decide_eq_true_eq, decide_eq_false_iff_not, beq_iff_eq, beq_eq_false_iff_ne, Bool.not_eq_false', Bool.not_eq_true]
  by_cases h1 : k = 1
  · subst h1
    simp
    omega
  · by_cases h0 : k = 0
    · subst h0
      simp
      omega
    · simp [h1, h0]
      omega
def seenL (l : List Nd) (k : Nat) : Rt → Bool := fun y => (l.take k).any fun x => x.1 == y
theorem validGo_congr : ∀ (l : List Nd) (s t : Rt → Bool), (∀ y, s y = t y) → validGo s l = validGo t l
  | [], _, _, _ => rfl
  | x :: l, s, t, h => by
    unfold validGo
    rw [h x.1, validGo_congr l _ _ (fun y => by rw [h y])]
theorem valid_step (l : List Nd) (k : Nat) (hk : k < l.length) : validGo (seenL l k) (l.drop k) = if seenL l k l[k].1 || !okNd l[k] then false else validGo (seenL l (k + 1)) (l.drop (k + 1)) := by
  rw [List.drop_eq_getElem_cons hk]
  conv => lhs; unfold validGo
  split
  · rfl
  · refine validGo_congr _ _ _ fun y => ?_
    unfold seenL
    rw [List.take_succ_eq_append_getElem hk, List.any_append]
    simp only [List.any_cons, List.any_nil, Bool.or_false]
    rw [Bool.or_comm, Bool.eq_iff_iff]
    simp only [Bool.or_eq_true, beq_iff_eq]
    constructor
    · rintro (h | h)
      · exact .inl h
      · exact .inr h.symm
    · rintro (h | h)
      · exact .inl h
      · exact .inr h.symm
set_option maxRecDepth 8000 in
set_option maxHeartbeats 8000000 in
theorem rValid_any (v : Value) (l : List Nd) (w : World) (hS : Nds w v l) : Calls Try.prog 30 #[v] w fun e w' => e = .returned (.bool (validL l)) ∧ Kp w w' := by
  obtain ⟨A, c, rfl, hc, hm⟩ := hS.form
  have HL : Hid (validL l = (validGo (seenL l 0) (l.drop 0) && decide (l.length ≤ 1024))) := hid rfl
  generalize validL l = R at *
  go_enter Try.func30, Try.ntmps30
  go_wp2_with fail
  go_loopw [3] (fun i wr => ∃ k : Nat, k ≤ l.length ∧ i = .int .i64 (k : Int) ∧ Hid (R = (validGo (seenL l k) (l.drop k) && decide (l.length ≤ 1024))) ∧ Kp w wr) (fun i _ => l.length - (intOf i).toNat)
  case atStart => exact ⟨0, Nat.zero_le _, rfl, HL, Kp.refl _⟩
  case round =>
    obtain ⟨k, hk, rfl, HV, hK⟩ := hrel
    obtain ⟨wo, hwo⟩ : ∃ wo, wo = wr := ⟨_, rfl⟩
    subst hwo
    by_cases hlt : k < l.length
    · have hkl : (k : Int) < (l.length : Int) := by omega
      have hS1 := hS.keep (pl_stable _) hK
      obtain ⟨b, o, rfl, hb, e0, e1, e2, e3⟩ := hS1.nd hlt
      have HST := hid (valid_step l k hlt)
      have HSE : Hid (seenL l k l[k].1 = (l.take k).any fun x => x.1 == l[k].1) := hid rfl
      generalize l[k] = x at *
      obtain ⟨⟨x1, x2, x3⟩, x4⟩ := x
      dsimp only at e0 e1 e2 e3
      have HO := hid (okNd_bad x1 x2 x3 x4)
      have HX : Hid (R = ((if seenL l k (x1, x2, x3) || !okNd ((x1, x2, x3), x4) then false else validGo (seenL l (k + 1)) (l.drop (k + 1))) && decide (l.length ≤ 1024))) := hid (by rw [HV.out, HST.out])
      clear HV HST
      generalize okNd ((x1, x2, x3), x4) = ok at *
      have hB := Bx.new wo #[.int .i64 x1, .int .i64 x2, .int .i64 x3] 39
      have kb := (Kp.refl wo).alloc (.cells #[.int .i64 x1, .int .i64 x2, .int .i64 x3] 39)
      have k1 := hK.trans kb
      have d3 := kb.cellS e3
      go_upto_region 5 with (fail)
      generalize wo.alloc (.cells #[.int .i64 x1, .int .i64 x2, .int .i64 x3] 39) = w1 at *
      generalize wo.heap.size = xb at *
      have c0 := hB.cell (j := 0) rfl
      have c1 := hB.cell (j := 1) rfl
      have c2 := hB.cell (j := 2) rfl
      have H5 : Hid (bad5 x2 x4 = (decide (x2 < 0) || decide (1024 ≤ x2) || decide (x4 < 1) || decide (1000000 < x4))) := hid rfl
      have H7 : Hid (bad7 x1 x3 = (!(x1 == 0 && x3 == 0) && !(x1 == 1 && decide (0 ≤ x3) && decide (x3 < 6)))) := hid rfl
      clear e0 e1 e2 e3
      go_cut [40] from 17 to 40 (fun s40 wx => s40 = .bool (bad5 x2 x4) ∧ wx = w1)
      case first =>
        by_cases h1 : x2 < 0
        · have f1 : decide (x2 < 0) = true := decide_eq_true h1
          go_wp2
          go_meet
          case rel => exact ⟨by rw [H5.out]; simp [*], rfl⟩
        · have f1 : decide (x2 < 0) = false := decide_eq_false h1
          by_cases h2 : 1024 ≤ x2
          · have f2 : decide (1024 ≤ x2) = true := decide_eq_true h2
            go_wp2
            go_meet
            case rel => exact ⟨by rw [H5.out]; simp [*], rfl⟩
          · have f2 : decide (1024 ≤ x2) = false := decide_eq_false h2
            by_cases h3 : x4 < 1
            · have f3 : decide (x4 < 1) = true := decide_eq_true h3
              go_wp2
              go_meet
              case rel => exact ⟨by rw [H5.out]; simp [*], rfl⟩
            · have f3 : decide (x4 < 1) = false := decide_eq_false h3
              by_cases h4 : 1000000 < x4
              · have f4 : decide (1000000 < x4) = true := decide_eq_true h4
                go_wp2
                go_meet
                case rel => exact ⟨by rw [H5.out]; simp [*], rfl⟩
              · have f4 : decide (1000000 < x4) = false := decide_eq_false h4
                go_wp2
                go_meet
                case rel => exact ⟨by rw [H5.out]; simp [*], rfl⟩
      case rest =>
        obtain ⟨rfl, rfl⟩ := hcut
        generalize bad5 x2 x4 = b5 at *
        cases b5 with
        | true =>
          have HN : Hid (R = false) := hid (by rw [HX.out, HO.out]; simp)
          go_wp2
          go_ret
          exact ⟨ret_bool HN.out.symm, k1⟩
        | false =>
          clear H5
          go_upto_region 7 with (fail)
          go_cut [65] from 41 to 65 (fun s65 wx => s65 = .bool (bad7 x1 x3) ∧ wx = wc)
          case first =>
            by_cases h1 : x1 = 0
            · have f1 : (x1 == 0) = true := by simpa using h1
              by_cases h2 : x3 = 0
              · have f2 : (x3 == 0) = true := by simpa using h2
                replace h1 := hid h1
                replace h2 := hid h2
                go_wp2
                go_meet
                case rel => exact ⟨by rw [H7.out]; simp [*], rfl⟩
              · have f2 : (x3 == 0) = false := by simpa using h2
                have f3 : (x1 == 1) = false := by rw [h1]; rfl
                replace h1 := hid h1
                replace h2 := hid h2
                go_wp2
                go_meet
                case rel => exact ⟨by rw [H7.out]; simp [*], rfl⟩
            · have f1 : (x1 == 0) = false := by simpa using h1
              by_cases h3 : x1 = 1
              · have f3 : (x1 == 1) = true := by simpa using h3
                replace h1 := hid h1
                replace h3 := hid h3
                by_cases h4 : 0 ≤ x3
                · have f4 : decide (0 ≤ x3) = true := decide_eq_true h4
                  by_cases h5 : x3 < 6
                  · have f5 : decide (x3 < 6) = true := decide_eq_true h5
                    go_wp2
                    go_meet
                    case rel => exact ⟨by rw [H7.out]; simp [*], rfl⟩
                  · have f5 : decide (x3 < 6) = false := decide_eq_false h5
                    go_wp2
                    go_meet
                    case rel => exact ⟨by rw [H7.out]; simp [*], rfl⟩
                · have f4 : decide (0 ≤ x3) = false := decide_eq_false h4
                  go_wp2
                  go_meet
                  case rel => exact ⟨by rw [H7.out]; simp [*], rfl⟩
              · have f3 : (x1 == 1) = false := by simpa using h3
                replace h1 := hid h1
                replace h3 := hid h3
                go_wp2
                go_meet
                case rel => exact ⟨by rw [H7.out]; simp [*], rfl⟩
          case rest =>
            obtain ⟨rfl, rfl⟩ := hcut
            generalize bad7 x1 x3 = b7 at *
            cases b7 with
            | true =>
              have HN : Hid (R = false) := hid (by rw [HX.out, HO.out]; simp)
              go_wp2
              go_ret
              exact ⟨ret_bool HN.out.symm, k1⟩
            | false =>
              have HY : Hid (R = ((if seenL l k (x1, x2, x3) then false else validGo (seenL l (k + 1)) (l.drop (k + 1))) && decide (l.length ≤ 1024))) := hid (by rw [HX.out, HO.out]; simp)
              clear HX HO H7
              obtain ⟨w2, hw2⟩ : ∃ w2, w2 = wc := ⟨_, rfl⟩
              subst hw2
              go_wp2_with fail
              have hkl1 := hK.trans kb
              clear k1
              go_loopw [5] (fun i wr => ∃ m : Nat, m ≤ k ∧ i = .int .i64 (m : Int) ∧ Hid (seenL l k (x1, x2, x3) = ((l.take k).drop m).any fun y => y.1 == (x1, x2, x3)) ∧ Kp w2 wr) (fun i _ => k - (intOf i).toNat)
              case atStart => exact ⟨0, Nat.zero_le _, rfl, hid rfl, Kp.refl _⟩
              case round =>
                obtain ⟨m, hmk, rfl, HM, kr⟩ := hrel
                have k2 := hkl1.trans kr
                have hBr := hB.keep (kr.block (hB.lt (by simp)))
                clear c0 c1 c2
                have c0 := hBr.cell (j := 0) rfl
                have c1 := hBr.cell (j := 1) rfl
                have c2 := hBr.cell (j := 2) rfl
                by_cases hm : m < k
                · have hmi : (m : Int) < (k : Int) := by omega
                  have hml : (m : Int) < (l.length : Int) := by omega
                  have hm2 : m < l.length := by omega
                  obtain ⟨b', o', hA', hb', i0, i1, i2, i3⟩ := (hS.keep (pl_stable _) k2).nd hm2
                  injection hA' with hA'
                  injection hA' with a1 a2
                  subst a1 a2
                  have HD : Hid ((l.take k).drop m = l[m] :: (l.take k).drop (m + 1)) := hid (by
                    have h1 : m < (l.take k).length := by rw [List.length_take]; omega
                    rw [List.drop_eq_getElem_cons h1, List.getElem_take])
                  generalize l[m] = y at *
                  obtain ⟨⟨y1, y2, y3⟩, y4⟩ := y
                  dsimp only at i0 i1 i2 i3
                  have heq := fun W => run_eql_rt W (y1, y2, y3) (x1, x2, x3)
                  by_cases hy : (y1, y2, y3) = (x1, x2, x3)
                  · rw [decide_eq_true hy] at heq
                    have HN : Hid (R = false) := hid (by
                      rw [HY.out, HM.out, HD.out]
                      have : (((y1, y2, y3) : Rt) == (x1, x2, x3)) = true := by simpa using hy
                      simp [this])
                    replace hy := hid hy
                    go_wp2
                    go_quiet (fail)
                    go_wp2
                    go_ret
                    exact ⟨ret_bool HN.out.symm, (by repeat (first | assumption | exact Kp.refl _ | apply Kp.alloc | apply Kp.drew | apply Kp.drewN))⟩
                  · rw [decide_eq_false hy] at heq
                    have HN : Hid (seenL l k (x1, x2, x3) = ((l.take k).drop (m + 1)).any fun y => y.1 == (x1, x2, x3)) := hid (by
                      rw [HM.out, HD.out, List.any_cons]
                      have : (((y1, y2, y3) : Rt) == (x1, x2, x3)) = false := by simpa using hy
                      dsimp only
                      rw [this, Bool.false_or])
                    replace hy := hid hy
                    go_wp2
                    go_quiet (fail)
                    go_wp2
                    go_roundw
                    case rel => exact ⟨m + 1, by omega, by go_num, HN, (by repeat (first | assumption | exact Kp.refl _ | apply Kp.alloc | apply Kp.drew | apply Kp.drewN))⟩
                    case measure => simp [intOf]; omega
                · have hmi : ¬ (m : Int) < (k : Int) := by omega
                  have hme : m = k := by omega
                  have HZ : Hid (R = (validGo (seenL l (k + 1)) (l.drop (k + 1)) && decide (l.length ≤ 1024))) := hid (by
                    have h1 : seenL l k (x1, x2, x3) = false := by
                      rw [HM.out, hme, List.drop_of_length_le (by rw [List.length_take]; omega)]
                      rfl
                    rw [HY.out, h1]
                    rfl)
                  have HME := hid hme
                  clear hme
                  go_wp2
                  go_roundw
                  case rel => exact ⟨k + 1, by omega, by go_num, HZ, k2⟩
                  case measure => simp [intOf]; omega
    · have hkl : ¬ (k : Int) < (l.length : Int) := by omega
      have HF : Hid (R = decide (l.length ≤ 1024)) := hid (by rw [HV.out, List.drop_of_length_le (by omega)]; rfl)
      by_cases hlen : l.length ≤ 1024
      · have e1 : decide ((l.length : Int) ≤ 1024) = true := decide_eq_true (by omega)
        have HR : Hid (R = true) := hid (by rw [HF.out]; exact decide_eq_true hlen)
        go_wp2
        go_ret
        exact ⟨ret_bool HR.out.symm, hK⟩
      · have e1 : decide ((l.length : Int) ≤ 1024) = false := decide_eq_false (by omega)
        have HR : Hid (R = false) := hid (by rw [HF.out]; exact decide_eq_false hlen)
        go_wp2
        go_ret
        exact ⟨ret_bool HR.out.symm, hK⟩
end Go.Proofs.Ytbcekihjcgnhkaa
