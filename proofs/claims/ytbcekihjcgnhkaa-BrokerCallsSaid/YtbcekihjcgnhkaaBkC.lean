
/-
Valid needs and priorities: the walks.
-/
import Derived.Test.YtbcekihjcgnhkaaBkB
import Derived.Deep.CutRange
namespace Go.Proofs.Ytbcekihjcgnhkaa
set_option linter.unusedSimpArgs false
set_option linter.unusedVariables false
open Go.RowKit

/-! valid needs -/
theorem okNd_eq (x : Nd) : okNd x = (btw x.1.1 0 1 && btw x.1.2.2 0 (mostR x.1) && btw x.1.2.1 0 1023 && btw x.2 1 1000000) := rfl
set_option maxRecDepth 8000 in
set_option maxHeartbeats 4000000 in
theorem bValid_any (v : Value) (l : List Nd) (w : World) (hS : Nds w v l) : Calls Try.prog 44 #[v] w fun e w' => e = .returned (.bool (validL l)) ∧ Kp w w' := by
  obtain ⟨A, c, rfl, hc, hm⟩ := hS.form
  have hmm := @run_makeMap Try.prog
  have HL : Hid (validL l = (validGo (fun _ => false) l && decide (l.length ≤ 1024))) := hid rfl
  generalize validL l = R at *
  go_enter Try.func44, Try.ntmps44
  go_wp2_with fail
  go_loopw [10] (fun i wr => ∃ (k : Nat) (s : Rt → Bool), k ≤ l.length ∧ i = .int .i64 k ∧ Hid (validGo (fun _ => false) l = validGo s (l.drop k)) ∧ MapF wr w.heap.size (.bool false) (fun x => .bool (s x)) ∧ Kp w wr) (fun i _ => l.length - (intOf i).toNat)
  case atStart => exact ⟨0, fun _ => false, Nat.zero_le _, rfl, rfl, MapF.new w _, (Kp.refl w).alloc _⟩
  case round =>
    obtain ⟨k, s, hk, rfl, HV, hM, hK⟩ := hrel
    by_cases hlt : k < l.length
    · have hS1 := hS.keep (pl_stable _) hK
      obtain ⟨b, o, rfl, hb, e0, e1, e2, e3⟩ := hS1.nd hlt
      have HD := hid (List.drop_eq_getElem_cons hlt)
      generalize l[k] = x at *
      obtain ⟨⟨x1, x2, x3⟩, x4⟩ := x
      dsimp only at *
      have HX : Hid (validGo (fun _ => false) l = if s (x1, x2, x3) || !okNd ((x1, x2, x3), x4) then false else validGo (fun y => y == (x1, x2, x3) || s y) (l.drop (k + 1))) := hid (by rw [HV.out, HD.out]; rfl)
      clear HV HD hS1
      have HO : Hid (okNd ((x1, x2, x3), x4) = (btw x1 0 1 && btw x3 0 (mostR (x1, x2, x3)) && btw x2 0 1023 && btw x4 1 1000000)) := hid rfl
      have HM : Hid (mostR (x1, x2, x3) = if x1 = 1 then 5 else 0) := hid rfl
      generalize okNd ((x1, x2, x3), x4) = ok at *
      have hB := Bx.new wr #[.int .i64 x1, .int .i64 x2, .int .i64 x3, .int .i64 x4] 41
      have k1 := hK.alloc (.cells #[.int .i64 x1, .int .i64 x2, .int .i64 x3, .int .i64 x4] 41)
      have hM1 := hM.kp ((Kp.refl wr).alloc (.cells #[.int .i64 x1, .int .i64 x2, .int .i64 x3, .int .i64 x4] 41))
      have hmb := hM.lt
      have hkl : (k : Int) < (l.length : Int) := by omega
      go_upto_region 5 with (fail)
      generalize wr.alloc (.cells #[.int .i64 x1, .int .i64 x2, .int .i64 x3, .int .i64 x4] 41) = w1 at *
      have c0 := hB.cell (j := 0) rfl
      have c1 := hB.cell (j := 1) rfl
      have c2 := hB.cell (j := 2) rfl
      have c3 := hB.cell (j := 3) rfl
      have hlook := hM1.look Try.underlying106 (zeroB w1) (x1, x2, x3)
      go_upto_if 17 with (fail)
      generalize hq : (x1 == 1) = q at *
      have HQ := hid hq
      clear hq
      go_cut [6] from 6 to 6 (fun s6 wx => s6 = .int .i64 (mostR (x1, x2, x3)) ∧ wx = w1)
      case first =>
        cases q with
        | true =>
          go_wp2
          go_meet
          case rel => exact ⟨by rw [HM.out, if_pos (by simpa using HQ.out)], rfl⟩
        | false =>
          go_wp2
          go_meet
          case rel => exact ⟨by rw [HM.out, if_neg (by simpa using HQ.out)], rfl⟩
      case rest =>
        obtain ⟨rfl, rfl⟩ := hcut
        clear HM
        generalize mostR (x1, x2, x3) = m at *
        go_upto_region 8 with (fail)
        go_cut [49] from 18 to 49 (fun s49 wx => s49 = .bool (s (x1, x2, x3) || !ok) ∧ wx = wc)
        case first =>
          cases hs : s (x1, x2, x3) with
          | true =>
            rw [hs] at hlook
            go_wp2_with (refine (bBetween_at _ _ _ _).mono ?_; rintro e w9 ⟨rfl, rfl⟩; simp only [hs])
            go_meet
            case rel => exact ⟨by rw [HO.out]; simp [hs, *], rfl⟩
          | false =>
            rw [hs] at hlook
            by_cases hb1 : btw x1 0 1 = true
            · by_cases hb2 : btw x3 0 m = true
              · by_cases hb3 : btw x2 0 1023 = true
                · by_cases hb4 : btw x4 1 1000000 = true
                  · go_wp2_with (refine (bBetween_at _ _ _ _).mono ?_; rintro e w9 ⟨rfl, rfl⟩; simp only [hb1, hb2, hb3, hb4])
                    go_meet
                    case rel => exact ⟨by rw [HO.out]; simp [hb1, hb2, hb3, hb4, *], rfl⟩
                  · replace hb4 := eq_false_of_ne_true hb4
                    go_wp2_with (refine (bBetween_at _ _ _ _).mono ?_; rintro e w9 ⟨rfl, rfl⟩; simp only [hb1, hb2, hb3, hb4])
                    go_meet
                    case rel => exact ⟨by rw [HO.out]; simp [hb1, hb2, hb3, hb4, *], rfl⟩
                · replace hb3 := eq_false_of_ne_true hb3
                  go_wp2_with (refine (bBetween_at _ _ _ _).mono ?_; rintro e w9 ⟨rfl, rfl⟩; simp only [hb1, hb2, hb3])
                  go_meet
                  case rel => exact ⟨by rw [HO.out]; simp [hb1, hb2, hb3, *], rfl⟩
              · replace hb2 := eq_false_of_ne_true hb2
                go_wp2_with (refine (bBetween_at _ _ _ _).mono ?_; rintro e w9 ⟨rfl, rfl⟩; simp only [hb1, hb2])
                go_meet
                case rel => exact ⟨by rw [HO.out]; simp [hb1, hb2, *], rfl⟩
            · replace hb1 := eq_false_of_ne_true hb1
              go_wp2_with (refine (bBetween_at _ _ _ _).mono ?_; rintro e w9 ⟨rfl, rfl⟩; simp only [hb1])
              go_meet
              case rel => exact ⟨by rw [HO.out]; simp [hb1, *], rfl⟩
        case rest =>
          obtain ⟨rfl, rfl⟩ := hcut
          generalize hbad : (s (x1, x2, x3) || !ok) = bad at *
          cases bad with
          | true =>
            have HN : Hid (R = false) := hid (by rw [HL.out, HX.out]; rfl)
            go_wp2
            go_ret
            exact ⟨ret_bool HN.out.symm, k1⟩
          | false =>
            obtain ⟨w2, hrun, hM2, hg2, hz2⟩ := hM1.put Try.underlying106 (x1, x2, x3) (.bool true)
            have HX2 : Hid (validGo (fun _ => false) l = validGo (fun y => y == (x1, x2, x3) || s y) (l.drop (k + 1))) := hid HX.out
            have k2 := k1.grown hg2 (fun j hj => by cases hj; exact Nat.le_refl _)
            go_wp2_with (refine wpl_mapset rfl 106 (.tmp 50) (.tmp 52) (.const (.bool true)) rfl rfl rfl rfl hrun ?_)
            go_roundw
            case rel => exact ⟨k + 1, _, by omega, by go_num, HX2, by
              refine cast ?_ hM2
              congr 1
              funext y
              by_cases hy : y = (x1, x2, x3)
              · simp [hy]
              · simp [hy], k2⟩
            case measure => simp [intOf]; omega
    · have HF : Hid (R = decide (l.length ≤ 1024)) := hid (by rw [HL.out, HV.out, List.drop_of_length_le (by omega)]; rfl)
      have hkl : ¬ (k : Int) < (l.length : Int) := by omega
      by_cases hlen : l.length ≤ 1024
      · have e1 : decide ((l.length : Int) ≤ 1024) = true := decide_eq_true (by omega)
        have HR : Hid (R = true) := hid (by rw [HF.out]; exact decide_eq_true hlen)
        go_wp2
        go_ret
        exact ⟨ret_bool HR.out.symm, hK⟩
      · have e1 : decide ((l.length : Int) ≤ 1024) = false := decide_eq_false (by omega)
        have HR : Hid (R = false) := hid (by rw [HF.out]; exact decide_eq_false hlen)
        go_wp2
        go_ret
        exact ⟨ret_bool HR.out.symm, hK⟩
end Go.Proofs.Ytbcekihjcgnhkaa
