
/-
Sorting events in place: rotation: the walk.
-/
import Derived.Test.YtcddllaljgfjbaaStW
namespace Go.Proofs.Ytcddllaljgfjbaa
set_option linter.unusedSimpArgs false
set_option linter.unusedVariables false
open Go.RowKit

theorem sub_nat {x y : Nat} (h : y ≤ x) : (x : Int) - (y : Int) = ((x - y : Nat) : Int) := by omega
set_option maxRecDepth 8000 in
set_option maxHeartbeats 4000000 in
theorem sRot_any (base g n c : Nat) (d : Nat → EvS) (pa pm pb : Nat) (f : Value) (w : World) (h : SD base g n c d w) (h1 : pa < pm) (h2 : pm < pb) (h3 : pb ≤ n) (hn : n ≤ 4096) :
    Calls Try.prog 109 #[.slice (some ⟨g, 0, none⟩) n c, .int .i64 (pa : Int), .int .i64 (pm : Int), .int .i64 (pb : Int), f] w fun e w' => e = .returned (.tuple #[]) ∧ SD base g n c (fun x => d (St.ro pa pm pb x)) w' ∧ Fx (fun q => q = g) w w' := by
  obtain ⟨i0, hi0⟩ : ∃ i0, i0 = pm - pa := ⟨_, rfl⟩
  obtain ⟨j0, hj0⟩ : ∃ j0, j0 = pb - pm := ⟨_, rfl⟩
  have e1 : (pm : Int) - (pa : Int) = (i0 : Int) := by omega
  have e2 : (pb : Int) - (pm : Int) = (j0 : Int) := by omega
  have hb : 0 < i0 ∧ 0 < j0 ∧ i0 ≤ pm ∧ pm + j0 ≤ n := by omega
  have hr0 : ∀ x, d (St.ro (pm - i0) pm (pm + j0) x) = d (St.ro pa pm pb x) := fun x => by
    have q1 : pm - i0 = pa := by omega
    have q2 : pm + j0 = pb := by omega
    rw [q1, q2]
  replace hi0 := hid hi0
  replace hj0 := hid hj0
  have e1' := hid e1
  have e2' := hid e2
  have w1' : IntKind.i64.wrap ((pm : Int) - (pa : Int)) = (i0 : Int) := by rw [← e1]; exact IntWalk.i64_in _ (by omega)
  have w2' : IntKind.i64.wrap ((pb : Int) - (pm : Int)) = (j0 : Int) := by rw [← e2]; exact IntWalk.i64_in _ (by omega)
  go_enter Try.func109, Try.ntmps109
  go_upto_region 1 with (fail)
  go_wp2_with fail
  go_loopw [10, 11] (fun vi vj wr => ∃ (i j : Nat) (dc : Nat → EvS), vi = .int .i64 (i : Int) ∧ vj = .int .i64 (j : Int) ∧ 0 < i ∧ 0 < j ∧ i ≤ pm ∧ pm + j ≤ n ∧ SD base g n c dc wr ∧ Hid (∀ x, dc (St.ro (pm - i) pm (pm + j) x) = d (St.ro pa pm pb x)) ∧ Fx (fun q => q = g) w wr) (fun vi vj _ => (intOf vi).toNat + (intOf vj).toNat)
  case atStart => exact ⟨i0, j0, d, by first | rfl | rw [e1], by first | rfl | rw [e2], hb.1, hb.2.1, hb.2.2.1, hb.2.2.2, h, hid hr0, Fx.refl _ _⟩
  case round =>
    clear hr0 e1 e2 w1' w2'
    obtain ⟨i, j, dc, rfl, rfl, hi, hj, him, hjn, hD, HR, fx⟩ := hrel
    obtain ⟨wo, rfl⟩ : ∃ wo : World, wo = wr := ⟨_, rfl⟩
    obtain ⟨s0, hs0⟩ : ∃ s0, s0 = pm - i := ⟨_, rfl⟩
    have es0 : (pm : Int) - (i : Int) = (s0 : Int) := by omega
    have ws0 := hid (show IntKind.i64.wrap ((pm : Int) - (i : Int)) = (s0 : Int) by rw [es0]; exact IntWalk.i64_in _ (by omega))
    replace hs0 := hid hs0
    by_cases hij : i = j
    · have en : ((i : Int) != (j : Int)) = false := by rw [hij]; simp
      subst hij
      have HS := hid (sSwap_any base g n c dc s0 pm i f wo hD (by have := hs0.out; omega) hjn hn)
      have q1 := ws0.out
      go_wp2_with fail
      first | (rw [es0]; refine HS.out.mono ?_) | (refine HS.out.mono ?_)
      rintro e w2 ⟨rfl, hD2, fx2⟩
      have hE : SD base g n c (fun x => d (St.ro pa pm pb x)) w2 := by
        have e : (fun x => d (St.ro pa pm pb x)) = fun x => dc (St.sr s0 pm i x) := by
          funext x
          rw [← HR.out x, hs0.out, St.ro_same him]
        rw [e]
        exact hD2
      go_wp2
      go_end0
      exact ⟨rfl, hE, fx.trans fx2⟩
    · have en : ((i : Int) != (j : Int)) = true := by simp; omega
      by_cases hlt : j < i
      · have hltI : (j : Int) < (i : Int) := by omega
        have HS := hid (sSwap_any base g n c dc s0 pm j f wo hD (by have := hs0.out; omega) hjn hn)
        have q1 := ws0.out
        go_wp2_with fail
        first | (rw [es0]; refine HS.out.mono ?_) | (refine HS.out.mono ?_)
        rintro e w2 ⟨rfl, hD2, fx2⟩
        have hE : Hid (∀ x, (fun x => dc (St.sr s0 pm j x)) (St.ro (pm - (i - j)) pm (pm + j) x) = d (St.ro pa pm pb x)) := hid (fun x => by
          dsimp only
          rw [← HR.out x, hs0.out, show pm - (i - j) = pm - i + j by omega, St.ro_left him hlt])
        go_wp2_with fail
        go_roundw
        case rel => exact ⟨i - j, j, _, by first | go_num | (congr 1; omega), rfl, by omega, hj, by omega, hjn, hD2, hE, fx.trans fx2⟩
        case measure => simp [intOf]; omega
      · have hltI : ¬ (j : Int) < (i : Int) := by omega
        obtain ⟨s1, hs1⟩ : ∃ s1, s1 = pm + j - i := ⟨_, rfl⟩
        have es1 : (pm : Int) + (j : Int) - (i : Int) = (s1 : Int) := by omega
        have HS := hid (sSwap_any base g n c dc s0 s1 i f wo hD (by have := hs0.out; omega) (by omega) hn)
        replace hs1 := hid hs1
        have q1 := ws0.out
        go_wp2_with fail
        first | (rw [es0, es1]; refine HS.out.mono ?_) | (refine HS.out.mono ?_)
        rintro e w2 ⟨rfl, hD2, fx2⟩
        have hE : Hid (∀ x, (fun x => dc (St.sr s0 s1 i x)) (St.ro (pm - i) pm (pm + (j - i)) x) = d (St.ro pa pm pb x)) := hid (fun x => by
          dsimp only
          rw [← HR.out x, hs0.out, hs1.out, show pm + (j - i) = pm + j - i by omega, St.ro_right him (by omega)])
        go_wp2_with fail
        go_roundw
        case rel => exact ⟨i, j - i, _, rfl, by first | go_num | (congr 1; omega), hi, by omega, him, by omega, hD2, hE, fx.trans fx2⟩
        case measure => simp [intOf]; omega
end Go.Proofs.Ytcddllaljgfjbaa
