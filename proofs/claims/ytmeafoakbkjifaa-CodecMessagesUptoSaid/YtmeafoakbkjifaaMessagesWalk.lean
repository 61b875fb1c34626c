
/-
Messages: what the code writes is what the reference writes, and reading it gives the message: the walk.
-/
import Derived.Test.YtmeafoakbkjifaaNC
namespace Go.Proofs.Ytmeafoakbkjifaa
set_option linter.unusedSimpArgs false
set_option linter.unusedVariables false
open Go.RowKit

set_option maxRecDepth 100000 in
set_option maxHeartbeats 4000000 in
theorem messages_walk (val : Value) (x : Message) (w : World) (hv : MessageV w val x) (hlen : (numMessage x).length ≤ 1000000000) : Calls Try.prog 8 #[val] w fun e w' => e = .returned (.bool true) ∧ Kp w w' := by
  obtain ⟨cs, rfl, hcs⟩ := hv.cells
  have k0 := (Kp.refl w).alloc (.cells cs.toArray 78)
  have r0 := range_box w cs 78
  have hi : (Try.prog.info? 78).map (·.size) = some cs.length := by rw [hcs]; kernel_rfl
  have hv0 := hv.kp k0
  have hs0 := alloc_lt w (.cells cs.toArray 78)
  go_enter Try.func8, Try.ntmps8
  go_wp2_with fail
  generalize w.alloc (.cells cs.toArray 78) = w0 at *
  generalize w.heap.size = b at *
  refine (awake_any _).mono ?_
  rintro e w1 ⟨rfl, k1⟩
  have r1 := k1.range r0
  go_wp2_with (refine wpList_load_mid rfl 78 (.tmp 1) rfl b 0 rfl cs _ r1 Try.underlying78 rfl hi ?_)
  refine (nMessage_any _ x _ (hv0.kp k1) hlen).mono ?_
  rintro e w2 ⟨v2, rfl, own2, k2⟩
  have s2 := own2.sl encInt_len
  obtain ⟨A2, c2, rfl, hc2, hm2⟩ := own2.form
  replace k2 := k1.trans k2
  go_wp2_with fail
  refine (Small_any _ (numMessage x) _ s2).mono ?_
  rintro e w3 ⟨rfl, k3⟩
  replace k3 := k2.trans k3
  have r3 := k3.range r0
  clear own2 s2 r1 k1 k2
  by_cases h6 : (numMessage x).length ≤ 600
  · rw [decide_eq_true h6]
    go_wp2_with (refine wpList_load_mid rfl 78 (.tmp 1) rfl b 0 rfl cs _ r3 Try.underlying78 rfl hi ?_)
    refine (EncodeMessage_any _ x _ (hv0.kp k3) (by unfold Room; simp; omega)).mono ?_
    rintro e w4 ⟨rfl, k4⟩
    replace k4 := k3.trans k4
    have r4 := k4.range r0
    generalize he : encE (numMessage x) = r at *
    have HE := hid he
    clear he r3 k3
    obtain ⟨ab, er⟩ := r
    go_wp2_with (refine wpList_load_mid rfl 78 (.tmp 1) rfl b 0 rfl cs _ r4 Try.underlying78 rfl hi ?_)
    refine (nMessage_any _ x _ (hv0.kp k4) hlen).mono ?_
    rintro e w5 ⟨v5, rfl, own5, k5⟩
    have s5 := own5.sl encInt_len
    obtain ⟨A5, c5, rfl, hc5, hm5⟩ := own5.form
    replace k5 := k4.trans k5
    clear own5 r4 k4
    go_wp2_with fail
    refine (rEncode_any _ (numMessage x) _ s5 (by omega)).mono ?_
    rintro e w6 ⟨rfl, k6⟩
    replace k6 := k5.trans k6
    have r6 := k6.range r0
    rw [HE.out]
    clear s5 k5
    by_cases h0 : er = 0
    · subst h0
      have HB := hid (read_enc messageP_good HE.out)
      go_wp2_with fail
      refine (decodeMessage ab w6).mono ?_
      rintro e w7 ⟨v7, rfl, ho, k7⟩
      rw [HB.out] at ho ⊢
      dsimp only [Option.getD_some] at ho ⊢
      have hv7 := ho.here
      obtain ⟨cm, rfl, hl7, h17⟩ := message_cells _ _ _ hv7
      replace k7 := k6.trans k7
      have r7 := k7.range r0
      clear ho k6 r6
      have hth := there_new w7 #[.int .i64 0, .int .i64 0, .int .i64 0, .slice none 0 0, .slice none 0 0, .slice none 0 0, .int .i64 0, .int .i64 0, .int .i64 0, .int .i64 0, .int .i64 0, .slice none 0 0, .int .i64 0, .int .i64 0, .int .i64 0, .int .i64 0, .bool false, .slice none 0 0] 78 cm.length (by rw [hl7]; rfl)
      have hin : (Try.prog.info? 78).map (·.size) = some cm.length := by rw [hl7]; kernel_rfl
      have hB := (Bx.new w7 #[.int .i64 0, .int .i64 0, .int .i64 0, .slice none 0 0, .slice none 0 0, .slice none 0 0, .int .i64 0, .int .i64 0, .int .i64 0, .int .i64 0, .int .i64 0, .slice none 0 0, .int .i64 0, .int .i64 0, .int .i64 0, .int .i64 0, .bool false, .slice none 0 0] 78).all (cs := cm) (by rw [hl7]; rfl)
      have k8 : Kp w7 ((w7.alloc (.cells #[.int .i64 0, .int .i64 0, .int .i64 0, .slice none 0 0, .slice none 0 0, .slice none 0 0, .int .i64 0, .int .i64 0, .int .i64 0, .int .i64 0, .int .i64 0, .slice none 0 0, .int .i64 0, .int .i64 0, .int .i64 0, .int .i64 0, .bool false, .slice none 0 0] 78)).setCells w7.heap.size 0 cm) := Kp.setCells (Nat.le_refl _) cm 0 _ ((Kp.refl w7).alloc _)
      have hv8 := hv7.kp k8
      have r8 := k8.range r7
      replace k8 := k7.trans k8
      go_wp2_with (first | (refine wpList_store_mid rfl 78 (.tmp 7) (.tmp 40) rfl w7.heap.size 0 cm.toArray rfl rfl hth hin (all_oneCell_toArray h17) ?_; generalize (w7.alloc (.cells #[.int .i64 0, .int .i64 0, .int .i64 0, .slice none 0 0, .slice none 0 0, .slice none 0 0, .int .i64 0, .int .i64 0, .int .i64 0, .int .i64 0, .int .i64 0, .slice none 0 0, .int .i64 0, .int .i64 0, .int .i64 0, .int .i64 0, .bool false, .slice none 0 0] 78)).setCells w7.heap.size 0 cm = w8 at *) | (refine wpList_load_mid_g (by kernel_rfl) 78 (.tmp 7) rfl w7.heap.size 0 rfl cm _ hB.range Try.underlying78 rfl hin ?_) | (refine wpList_load_mid_g (by kernel_rfl) 78 (.tmp 1) rfl b 0 rfl cs _ r8 Try.underlying78 rfl hi ?_))
      refine (SameMessage_any _ _ x x _ hv8 (hv0.kp k8) hlen hlen).mono ?_
      rintro e w9 ⟨rfl, k9⟩
      rw [decide_eq_true rfl]
      go_wp2
      go_ret
      exact ⟨rfl, k0.trans (k8.trans k9)⟩
    · have e3 : (er != 0) = true := by simpa using h0
      obtain rfl := encE_ne HE.out h0
      go_wp2
      go_ret
      exact ⟨rfl, k0.trans k6⟩
  · rw [decide_eq_false h6]
    go_wp2
    go_ret
    exact ⟨rfl, k0.trans k3⟩
end Go.Proofs.Ytmeafoakbkjifaa
