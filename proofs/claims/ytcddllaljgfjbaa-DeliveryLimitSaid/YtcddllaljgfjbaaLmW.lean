
/-
DeliveryLimit: at most 256 events are held back: the walk.
-/
import Derived.Test.YtcddllaljgfjbaaLwA
import Derived.Test.YtcddllaljgfjbaaLmP
namespace Go.Proofs.Ytcddllaljgfjbaa
set_option linter.unusedSimpArgs false
set_option linter.unusedVariables false
open Go.RowKit

set_option maxRecDepth 8000 in
set_option maxHeartbeats 4000000 in
theorem lim1_any (m : Int) (w : World) (h1 : 1 ≤ m) (h2 : m ≤ 1000) : Calls Try.prog 11 #[.int .i64 m] w fun x w' => ∃ v, x = .returned (evV (atE m) v) ∧ Own encInt 3 1 w.heap.size w' v [m - 1] ∧ Kp w w' := by
  have k0 := (Kp.refl w).alloc (.cells #[.int .i64 0, .int .i64 0, .int .i64 0, .slice none 0 0, .int .i64 0, .int .i64 0, .int .i64 0, .int .i64 0, .int .i64 0, .int .i64 0, .int .i64 0, .int .i64 0, .int .i64 0] 33)
  have hR := Bx.new w #[.int .i64 0, .int .i64 0, .int .i64 0, .slice none 0 0, .int .i64 0, .int .i64 0, .int .i64 0, .int .i64 0, .int .i64 0, .int .i64 0, .int .i64 0, .int .i64 0, .int .i64 0] 33
  have z0 := World.size_alloc w (.cells #[.int .i64 0, .int .i64 0, .int .i64 0, .slice none 0 0, .int .i64 0, .int .i64 0, .int .i64 0, .int .i64 0, .int .i64 0, .int .i64 0, .int .i64 0, .int .i64 0, .int .i64 0] 33)
  go_enter Try.func11, Try.ntmps11
  go_upto_region 1 with (fail)
  generalize w.alloc (.cells #[.int .i64 0, .int .i64 0, .int .i64 0, .slice none 0 0, .int .i64 0, .int .i64 0, .int .i64 0, .int .i64 0, .int .i64 0, .int .i64 0, .int .i64 0, .int .i64 0, .int .i64 0] 33) = w1 at *
  obtain ⟨rb, hrb⟩ : ∃ rb, rb = w.heap.size := ⟨_, rfl⟩
  rw [← hrb] at hR z0 ⊢
  have hrl := hR.lt (by simp)
  have k1 := (Kp.refl w1).alloc (.cells #[.int .i64 (m - 1)] 3)
  have own := Own.lit (base := w1.heap.size) encInt (e := 3) (size := 1) w1 #[.int .i64 (m - 1)] [m - 1] (Nat.le_refl _) (by simp) rfl rfl
  have hR1 := hR.kp k1 hrl
  obtain ⟨gb, hgb⟩ : ∃ gb, gb = rb + 1 := ⟨_, rfl⟩
  rw [z0, ← hgb] at own
  have hR2 := hR1.all (cs := evL (atE m) (.slice (some ⟨gb, 0, none⟩) 1 1)) rfl
  have hth : (w1.alloc (.cells #[.int .i64 (m - 1)] 3)).there rb 0 (evL (atE m) (.slice (some ⟨gb, 0, none⟩) 1 1)).toArray.size := by
    have := hR1.there
    simpa [evL] using this
  have kf := Kp.setCells (a := w) (b := rb) (by omega) (evL (atE m) (.slice (some ⟨gb, 0, none⟩) 1 1)) 0 _ (k0.trans k1)
  have own2 := own.owS ((w1.alloc (.cells #[.int .i64 (m - 1)] 3)).setCells rb 0 (evL (atE m) (.slice (some ⟨gb, 0, none⟩) 1 1))) (by rw [setCells_size]; exact Nat.le_refl _) fun q hq hlt => setCells_block rb q (by have := own.ge q hq; omega) _ 0 _
  rw [← hgb] at z0
  have hgbI : gb < (w1.alloc (.cells #[.int .i64 (m - 1)] 3)).heap.size := by rw [World.size_alloc]; omega
  replace hgb := hid hgb
  replace hrb := hid hrb
  have hie : (Try.prog.info? 33).map (·.size) = some (evL (atE m) (.slice (some ⟨gb, 0, none⟩) 1 1)).length := iEv rfl
  clear k1 hR1 hR own
  have hie2 : (Try.prog.info? 33).map (·.size) = some (evL (atE m) (.slice (some ⟨gb, 0, none⟩) 1 1)).toArray.size := iEv2 rfl
  go_wp2_with (refine wpList_store_mid rfl 33 (.tmp 2) (.tmp 8) rfl rb 0 (evL (atE m) (.slice (some ⟨gb, 0, none⟩) 1 1)).toArray rfl rfl hth hie2 (all_oneCell_toArray (evL_one _ _ _ _)) ?_; rw [List.toList_toArray])
  try simp only [Exit.inBlock, Exit.then]
  change bodyPost _ _ _ _ _ ((w1.alloc (.cells #[.int .i64 (m - 1)] 3)).setCells rb 0 (evL (atE m) (.slice (some ⟨gb, 0, none⟩) 1 1)))
  refine bodyPost_ret (results_cell_bx rfl _ _ rb _ _ rfl hR2.range Try.underlying33 rfl hie) rfl ?_
  exact ⟨.slice (some ⟨gb, 0, none⟩) 1 1, rfl, own2.less (by have := hgb.out; have := hrb.out; omega), kf⟩
def maxN : Nat := 256
set_option maxRecDepth 8000 in
set_option maxHeartbeats 8000000 in
theorem limit_walk (x : Int) (rd : Bool) (W : World) (hx0 : 0 ≤ x) (hx1 : x ≤ 255) : Calls Try.prog 3 #[.int .u8 x, .bool rd] W fun e W' => e = .returned (.bool true) ∧ Kp W W' := by
  have C0 := hid (awake33_any W)
  obtain ⟨r, hr⟩ : ∃ r : Nat, (r : Int) = x % 4 := ⟨(x % 4).toNat, by omega⟩
  have hr4 : r < 4 := by omega
  have hmod : Int.tmod x 4 = (r : Int) := by rw [Int.tmod_eq_emod_of_nonneg hx0, hr]
  obtain ⟨N, hN⟩ : ∃ N, N = 254 + r := ⟨_, rfl⟩
  have hNI : (254 : Int) + (r : Int) = (N : Int) := by omega
  have hN1 : 254 ≤ N := by omega
  have hN2 : N ≤ 257 := by omega
  replace hr := hid hr
  replace hN := hid hN
  go_enter Try.func3, Try.ntmps3
  go_wp2_with fail
  refine C0.out.mono ?_
  rintro z w1 ⟨rfl, k1⟩
  clear C0
  have k2 := k1.alloc (.cells #[.int .i64 0] 3)
  have hI := (Own.lit (base := w1.heap.size) encInt (e := 3) (size := 1) w1 #[.int .i64 0] [0] (Nat.le_refl _) (by simp) rfl rfl).sl encInt_len
  have C1 := hid (bNew_any [0] _ _ hI)
  go_wp2_with fail
  refine C1.out.mono ?_
  rintro z w2 ⟨k3, ⟨hv, rfl⟩ | ⟨hv, b, cb, cc, mb, rfl, hb⟩⟩
  · rw [valid_one (by omega) (by omega)] at hv; cases hv
  clear C1 hI hv
  have kw2 := k2.trans k3
  have hbase : W.heap.size ≤ (w1.alloc (.cells #[.int .i64 0] 3)).heap.size := k2.size
  generalize (w1.alloc (.cells #[.int .i64 0] 3)).heap.size = base at *
  have hlb := hb.lb
  have hlm := hb.lm
  have hlcb := hb.clk.ge cb rfl
  have hbl := hb.blt
  have hcl := hb.clt
  have hml := hb.mlt
  clear k1 k2 k3
  go_wp2_with fail
  go_loopw [31] (fun vi wr => ∃ (i : Nat) (S : Nat → Prop) (cb cc : Nat) (M : List EvS), i ≤ N ∧ vi = .int .i64 (i : Int) ∧ BfW S base wr b cb cc mb 1 [0] M ∧ Hid ((M.map (·.e)).Perm (seqE 2 (min i 256))) ∧ Hid (∀ q, S q → base ≤ q ∧ q < wr.heap.size) ∧ Kp W wr) (fun vi _ => N - (intOf vi).toNat)
  case atStart => exact ⟨0, _, cb, cc, [], Nat.zero_le _, rfl, hb, hid (List.Perm.refl _), hid (fun q hq => by rcases hq with h | h | h <;> omega), kw2⟩
  case round =>
    clear hb kw2 hbl hcl hml hlb hlm hlcb
    obtain ⟨i, S, cb, cc, M, hi, rfl, hb, hM, hS, kr⟩ := hrel
    obtain ⟨wo, rfl⟩ : ∃ wo : World, wo = wr := ⟨_, rfl⟩
    have okM := hid (bf_seq (a := 2) (m := min i 256) 0 (by omega) (by omega) (by omega) (by omega) (by omega))
    by_cases hlt : i < N
    · have hltI : (i : Int) < (N : Int) := by omega
      have C2 := hid (lim1_any ((i : Int) + 2) wo (by omega) (by omega))
      go_wp2_with fail
      refine C2.out.mono ?_
      rintro z w3 ⟨v3, rfl, own3, k3⟩
      have hb3 := hb.kp k3
      have hz3 := k3.size
      have C3 := bAdd_any hb3 (fun q hq => by have := hS.out q hq; omega) hM.out okM.out (atE ((i : Int) + 2)) v3 ((own3.owF (X := S) (fun q hq => by have := hS.out q hq; omega)).imp fun W h => h.sl encInt_len) (by simp [atE])
      rw [lim_add (by omega)] at C3
      replace C3 := hid C3
      have kr3 := kr.trans k3
      have hlb := hb.lb
      have hbl := hb.blt
      clear C2 own3 hb hb3 kr k3
      go_wp2_with fail
      refine C3.out.mono ?_
      rintro z w4 ⟨v4, o4, M4, S4, cb4, cc4, B4, rfl, hb4, hp4, hE4, ho4, fx4, hS4, hz4, hz4'⟩
      obtain ⟨A4, c4, rfl, -⟩ := hE4.len ho4
      have kr4 : Kp W w4 := ((kr3.fx S).trans fx4).kp fun q hq h => by have := hS.out q h; omega
      have hS4' := hid (fun q (hq : S4 q) => show base ≤ q ∧ q < w4.heap.size by
        rcases hS4 q hq with h | h
        · have := hS.out q h; omega
        · omega)
      replace hp4 := hid hp4
      clear C3 hE4 ho4 hS4 fx4 kr3 o4
      by_cases h256 : i < 256
      · have e1 : decide ((i : Int) < 256) = true := decide_eq_true (by omega)
        have e2 : (i : Int) < 256 := by omega
        rw [if_pos h256]
        go_wp2
        go_roundw
        case rel => exact ⟨i + 1, S4, cb4, cc4, M4, by omega, by go_num, hb4, hp4, hS4', kr4⟩
        case measure => simp [intOf]; omega
      · have e1 : decide ((i : Int) < 256) = false := decide_eq_false (by omega)
        have e2 : ¬ (i : Int) < 256 := by omega
        rw [if_neg h256]
        go_wp2
        go_roundw
        case rel => exact ⟨i + 1, S4, cb4, cc4, M4, by omega, by go_num, hb4, hp4, hS4', kr4⟩
        case measure => simp [intOf]; omega
    · have hltI : ¬ (i : Int) < (N : Int) := by omega
      obtain rfl : i = N := by omega
      obtain ⟨K, hK⟩ : ∃ K, K = min i 256 := ⟨_, rfl⟩
      rw [← hK] at okM hM
      have hK1 : 254 ≤ K := by omega
      have hK2 : K ≤ 256 := by omega
      have C2 := hid (bHeld_any hb hM.out okM.out)
      have hmin : (if (256 : Int) < (i : Int) then (256 : Int) else (i : Int)) = (K : Int) := by split <;> omega
      have hmin2 : min (i : Int) 256 = (K : Int) := by omega
      replace hK := hid hK
      clear hltI hlt hi
      go_wp2_with fail
      refine C2.out.mono ?_
      rintro z w3 ⟨v3, o3, rfl, hE3, ho3, k3⟩
      clear C2
      obtain ⟨A3, c3, rfl, -⟩ := hE3.len ho3
      rw [seqE_len]
      have hb3 := hb.kp k3
      have kr3 := kr.trans k3
      have hz3 := k3.size
      clear hE3 ho3 o3 hb kr k3
      cases rd with
      | false =>
        have C3 := bMissing_any hb3 hM.out okM.out
        rw [lim_miss (by omega) (by omega)] at C3
        replace C3 := hid C3
        go_wp2_with fail
        refine C3.out.mono ?_
        rintro z w4 ⟨v4, rfl, own4, k4⟩
        obtain ⟨A4, c4, rfl, -, -⟩ := own4.form
        clear C3 own4
        go_wp2
        go_ret
        exact ⟨rfl, kr3.trans k4⟩
      | true =>
        have C3 := hid (lim1_any 1 w3 (by omega) (by omega))
        go_wp2_with fail
        refine C3.out.mono ?_
        rintro z w4 ⟨v4, rfl, own4, k4⟩
        have hb4 := hb3.kp k4
        have hz4 := k4.size
        have C4 := bAdd_any hb4 (fun q hq => by have := hS.out q hq; omega) hM.out okM.out (atE 1) v4 ((own4.owF (X := S) (fun q hq => by have := hS.out q hq; omega)).imp fun W h => h.sl encInt_len) (by simp [atE])
        rw [lim_last (by omega)] at C4
        replace C4 := hid C4
        have kr4 := kr3.trans k4
        clear C3 own4 hb3 hb4 kr3 k4
        go_wp2_with fail
        refine C4.out.mono ?_
        rintro z w5 ⟨v5, o5, M5, S5, cb5, cc5, B5, rfl, hb5, hp5, hE5, ho5, fx5, hS5, hz5, hz5'⟩
        obtain ⟨A5, c5, rfl, -⟩ := hE5.len ho5
        have kr5 : Kp W w5 := ((kr4.fx S).trans fx5).kp fun q hq h => by have := hS.out q h; omega
        have C5 := hid (bHeld_any hb5 hp5 ⟨valid_one (by omega) (by omega), List.Pairwise.nil, by unfold NamesU; simp, by simp, by simp⟩)
        rw [List.length_cons, seqE_len]
        have e1 : (1 : Int) + (K : Int) = ((K + 1 : Nat) : Int) := by omega
        clear C4 hE5 ho5 hS5 fx5 kr4 o5
        go_wp2_with fail
        refine C5.out.mono ?_
        rintro z w6 ⟨v6, o6, rfl, hE6, ho6, k6⟩
        obtain ⟨A6, c6, rfl, -⟩ := hE6.len ho6
        clear C5 hE6 ho6
        go_wp2
        go_ret
        exact ⟨rfl, kr5.trans k6⟩
end Go.Proofs.Ytcddllaljgfjbaa
