
/-
Sorting events in place: the whole: the walk.
-/
import Derived.Test.YtcddllaljgfjbaaStO
namespace Go.Proofs.Ytcddllaljgfjbaa
set_option linter.unusedSimpArgs false
set_option linter.unusedVariables false
open Go.RowKit

theorem i64w (k : Nat) (h : k ≤ 1000000) : IntKind.i64.wrap (k : Int) = (k : Int) := IntWalk.i64_in _ (by omega)
theorem bl_step (q s : Nat) : (q + 1) * s = q * s + s := by rw [Nat.add_mul, Nat.one_mul]
theorem bl_next (q s : Nat) : (q + 2) * s = (q + 1) * s + s := bl_step (q + 1) s
set_option maxRecDepth 8000 in
set_option maxHeartbeats 8000000 in
theorem sStable_any (base g n c : Nat) (hn : n ≤ 4096) (d : Nat → EvS) (w : World) (hD0 : SD base g n c d w) :
    Calls Try.prog 84 #[.slice (some ⟨g, 0, none⟩) n c, .int .i64 (n : Int), .func (.func 66) #[] #[]] w (MergeR base g n c d 0 n w) := by
  go_enter Try.func84, Try.ntmps84
  go_wp2_with fail
  go_loopw [7, 8] (fun va vb wr => ∃ (q A B : Nat) (dc : Nat → EvS), Hid (A = q * 20) ∧ Hid (B = (q + 1) * 20) ∧ A ≤ n ∧ B = A + 20 ∧ va = .int .i64 (A : Int) ∧ vb = .int .i64 (B : Int) ∧ SD base g n c dc wr ∧ St.Re 0 n d dc ∧ Hid (St.Bi ltS 20 q dc) ∧ Fx (fun q => q = g) w wr) (fun va _ _ => n + 20 - (intOf va).toNat)
  case atStart => exact ⟨0, 0, 20, d, hid (by omega), hid (by omega), Nat.zero_le _, rfl, rfl, rfl, hD0, St.Re.refl _ _ _, hid St.Bi.start, Fx.refl _ _⟩
  case round =>
    obtain ⟨q, A, B, dc, HA, HB, hAn, hBA, rfl, rfl, hD, hRe, HI, fx⟩ := hrel
    obtain ⟨wo, rfl⟩ : ∃ wo : World, wo = wr := ⟨_, rfl⟩
    by_cases hlt : B ≤ n
    · have hltI : (B : Int) ≤ (n : Int) := by omega
      have C1 := hid (sIns_any base g n c dc A B wo hD (by omega) hlt hn)
      obtain ⟨E, hE⟩ : ∃ E, E = B + 20 := ⟨_, rfl⟩
      have wE := hid (show IntKind.i64.wrap ((B : Int) + 20) = (E : Int) by rw [IntWalk.i64_in _ (by omega)]; omega)
      have wE2 := hid (show ((B : Int) + 20) = (E : Int) by omega)
      have HE : Hid (E = (q + 1 + 1) * 20) := hid (by have := HB.out; omega)
      have hBA' := hid hBA
      replace hE := hid hE
      clear hBA
      go_wp2_with fail
      refine C1.out.mono ?_
      rintro e1 w1 ⟨rfl, ⟨d1, hD1, r1, s1⟩, fx1⟩
      have HI2 : Hid (St.Bi ltS 20 (q + 1) d1) := hid (HI.out.step (by rw [← HA.out, ← HB.out]; exact r1) (by rw [← HA.out, ← HB.out]; exact s1))
      have q1 := wE.out
      have q2 := wE2.out
      have hRe1 := hRe.trans (r1.wide (Nat.zero_le _) hlt)
      have fx2 := fx.trans fx1
      clear C1 r1 s1 hD hRe fx fx1
      go_wp2_with fail
      go_roundw
      case rel => exact ⟨q + 1, B, E, d1, HB, HE, hlt, hE.out, rfl, by first | rfl | (congr 1; omega), hD1, hRe1, HI2, fx2⟩
      case measure => have := hBA'.out; simp [intOf]; omega
    · have hltI : ¬ (B : Int) ≤ (n : Int) := by omega
      have C1 := hid (sIns_any base g n c dc A n wo hD hAn (Nat.le_refl _) hn)
      replace hBA := hid hBA
      go_wp2_with fail
      refine C1.out.mono ?_
      rintro e1 w1 ⟨rfl, ⟨d1, hD1, r1, s1⟩, fx1⟩
      have HS1 : Hid (St.Bs ltS 20 n d1) := hid (HI.out.last (by rw [← HA.out]; exact hAn) (by rw [← HB.out]; omega) (by rw [← HA.out]; exact r1) (by rw [← HA.out]; exact s1))
      have hRe1 := hRe.trans (r1.wide (Nat.zero_le _) (Nat.le_refl _))
      have fx2 := fx.trans fx1
      clear C1 r1 s1 hD hRe fx fx1 HI hltI hlt HA HB hBA
      go_wp2_with fail
      go_loopw [6, 7, 8, 9] (fun vs _ _ _ wr => ∃ (s : Nat) (dc : Nat → EvS), 20 ≤ s ∧ s ≤ 2 * n + 20 ∧ vs = .int .i64 (s : Int) ∧ SD base g n c dc wr ∧ St.Re 0 n d dc ∧ Hid (St.Bs ltS s n dc) ∧ Fx (fun q => q = g) w wr) (fun vs _ _ _ _ => n - (intOf vs).toNat)
      case atStart => exact ⟨20, d1, Nat.le_refl _, by omega, rfl, hD1, hRe1, HS1, fx2⟩
      case round =>
        clear hD1 hRe1 HS1 fx2
        obtain ⟨s, dc, hs1, hs2, rfl, hD, hRe, HS, fx⟩ := hrel
        obtain ⟨wo, rfl⟩ : ∃ wo : World, wo = wr := ⟨_, rfl⟩
        by_cases hsn : s < n
        · have hsnI : (s : Int) < (n : Int) := by omega
          obtain ⟨t, ht⟩ : ∃ t, t = 2 * s := ⟨_, rfl⟩
          have wt := hid (show IntKind.i64.wrap (2 * (s : Int)) = (t : Int) by rw [IntWalk.i64_in _ (by omega)]; omega)
          have wt2 := hid (show (2 * (s : Int)) = (t : Int) by omega)
          have wt3 := hid (show IntKind.i64.wrap ((s : Int) * 2) = (t : Int) by rw [IntWalk.i64_in _ (by omega)]; omega)
          have wt4 := hid (show ((s : Int) * 2) = (t : Int) by omega)
          have HM0 : Hid (St.Bm ltS s n 0 dc) := hid (St.Bm.start HS.out)
          have htb : t ≤ 2 * n := by omega
          have ht20 : 40 ≤ t := by omega
          replace ht := hid ht
          have q1 := wt.out
          have q2 := wt2.out
          go_wp2_with fail
          clear q1 q2
          go_loopw [7, 8] (fun va vb wr => ∃ (q A B : Nat) (dc : Nat → EvS), Hid (A = q * (2 * s)) ∧ Hid (B = (q + 1) * (2 * s)) ∧ A ≤ n ∧ Hid (B = A + t) ∧ va = .int .i64 (A : Int) ∧ vb = .int .i64 (B : Int) ∧ SD base g n c dc wr ∧ St.Re 0 n d dc ∧ Hid (St.Bm ltS s n q dc) ∧ Fx (fun q => q = g) w wr) (fun va _ _ => n + t - (intOf va).toNat)
          case atStart => exact ⟨0, 0, t, dc, hid (by omega), hid (by have := ht.out; omega), Nat.zero_le _, hid (by omega), rfl, rfl, hD, hRe, HM0, fx⟩
          case round =>
            clear hD hRe fx HM0 HS
            obtain ⟨q, A, B, dd, HA, HB, hAn, hBA, rfl, rfl, hD, hRe, HM, fx⟩ := hrel
            obtain ⟨wi, rfl⟩ : ∃ wi : World, wi = wr := ⟨_, rfl⟩
            obtain ⟨m, hm⟩ : ∃ m, m = A + s := ⟨_, rfl⟩
            have hmb := hBA.out
            have wm := hid (show IntKind.i64.wrap ((A : Int) + (s : Int)) = (m : Int) by rw [IntWalk.i64_in _ (by omega)]; omega)
            have wm2 := hid (show ((A : Int) + (s : Int)) = (m : Int) by omega)
            by_cases hlt : B ≤ n
            · have hltI : (B : Int) ≤ (n : Int) := by omega
              obtain ⟨E, hE⟩ : ∃ E, E = B + t := ⟨_, rfl⟩
              have wE := hid (show IntKind.i64.wrap ((B : Int) + (t : Int)) = (E : Int) by rw [IntWalk.i64_in _ (by omega)]; omega)
              have wE2 := hid (show ((B : Int) + (t : Int)) = (E : Int) by omega)
              have HE : Hid (E = (q + 1 + 1) * (2 * s)) := hid (by rw [bl_next q (2 * s), ← HB.out, ← ht.out]; exact hE)
              obtain ⟨u1, u2⟩ := HM.out.two (by rw [← HB.out]; exact hlt)
              rw [← HA.out, ← hm] at u1 u2
              rw [← HB.out] at u2
              have C1 := hid (sMerge_any base g n c hn n dd A m B wi hD (by omega) (by have := ht.out; omega) hlt (by omega) u1 u2)
              replace hm := hid hm
              replace hE := hid hE
              clear u1 u2 hmb
              have q1 := wm.out
              have q2 := wm2.out
              go_wp2_with fail
              refine C1.out.mono ?_
              rintro e1 w2 ⟨rfl, ⟨d2, hD2, r2, s2⟩, fx2⟩
              have HM2 : Hid (St.Bm ltS s n (q + 1) d2) := hid (HM.out.step (by rw [← HA.out, ← HB.out]; exact r2) (by rw [← HA.out, ← HB.out]; exact s2))
              have hRe2 := hRe.trans (r2.wide (Nat.zero_le _) hlt)
              have fx3 := fx.trans fx2
              clear C1 r2 s2 hD hRe fx fx2 q1 q2
              have q1 := wt.out
              have q2 := wt2.out
              have q3 := wE.out
              have q4 := wE2.out
              go_wp2_with fail
              go_roundw
              case rel => exact ⟨q + 1, B, E, d2, HB, HE, hlt, hE, rfl, by first | rfl | (congr 1; omega), hD2, hRe2, HM2, fx3⟩
              case measure => have := hBA.out; simp [intOf]; omega
            · have hltI : ¬ (B : Int) ≤ (n : Int) := by omega
              have HBn := hid (show n < (q + 1) * (2 * s) by rw [← HB.out]; omega)
              by_cases hmn : m < n
              · have hmnI : (m : Int) < (n : Int) := by omega
                obtain ⟨u1, u2⟩ := HM.out.tail (by rw [← HA.out, ← hm]; exact hmn) HBn.out
                rw [← HA.out, ← hm] at u1 u2
                have C1 := hid (sMerge_any base g n c hn n dd A m n wi hD (by omega) hmn (Nat.le_refl _) (by omega) u1 u2)
                replace hm := hid hm
                clear u1 u2 hmb
                have q1 := wm.out
                have q2 := wm2.out
                go_wp2_with fail
                refine C1.out.mono ?_
                rintro e1 w2 ⟨rfl, ⟨d2, hD2, r2, s2⟩, fx2⟩
                have HS2 : Hid (St.Bs ltS t n d2) := hid (by rw [ht.out]; exact HM.out.last HBn.out (by rw [← HA.out]; exact r2) (by rw [← HA.out]; exact s2))
                have hRe2 := hRe.trans (r2.wide (Nat.zero_le _) (Nat.le_refl _))
                have fx3 := fx.trans fx2
                clear C1 r2 s2 hD hRe fx fx2 q1 q2
                have q1 := wt3.out
                have q2 := wt4.out
                go_wp2_with fail
                go_roundw
                case rel => exact ⟨t, d2, by omega, by omega, by first | rfl | (congr 1; omega), hD2, hRe2, HS2, fx3⟩
                case measure => have := ht.out; simp [intOf]; omega
              · have hmnI : ¬ (m : Int) < (n : Int) := by omega
                have u1 := HM.out.none (by rw [← HA.out, ← hm]; omega)
                have HS2 : Hid (St.Bs ltS t n dd) := hid (by rw [ht.out]; exact HM.out.last HBn.out (St.Re.refl _ _ _) u1)
                replace hm := hid hm
                clear u1 hmb
                have q1 := wm.out
                have q2 := wm2.out
                have q3 := wt3.out
                have q4 := wt4.out
                go_wp2_with fail
                go_roundw
                case rel => exact ⟨t, dd, by omega, by omega, by first | rfl | (congr 1; omega), hD, hRe, HS2, fx⟩
                case measure => have := ht.out; simp [intOf]; omega
        · have hsnI : ¬ (s : Int) < (n : Int) := by omega
          have Z := HS.out.done (by omega)
          go_wp2
          go_end0
          exact ⟨rfl, ⟨_, hD, hRe, Z⟩, fx⟩
set_option maxRecDepth 8000 in
set_option maxHeartbeats 4000000 in
theorem sSort_any (base g n c : Nat) (hn : n ≤ 4096) (d : Nat → EvS) (w : World) (hD : SD base g n c d w) :
    Calls Try.prog 65 #[.slice (some ⟨g, 0, none⟩) n c, .func (.func 66) #[] #[]] w (MergeR base g n c d 0 n w) := by
  have C1 := hid (sStable_any base g n c hn d w hD)
  go_enter Try.func65, Try.ntmps65
  go_wp2_with fail
  refine C1.out.mono ?_
  rintro e1 w1 ⟨rfl, h1, fx1⟩
  go_wp2
  go_end0
  exact ⟨rfl, h1, fx1⟩
end Go.Proofs.Ytcddllaljgfjbaa
