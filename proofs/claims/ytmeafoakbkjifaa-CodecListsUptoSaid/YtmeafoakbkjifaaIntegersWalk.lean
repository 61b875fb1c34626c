
/-
Integers: what the code writes and reads is what the reference writes and reads: the walk.
-/
import Derived.Test.YtmeafoakbkjifaaRefB1
import Derived.Test.YtmeafoakbkjifaaRefD1
namespace Go.Proofs.Ytmeafoakbkjifaa
set_option linter.unusedSimpArgs false
set_option linter.unusedVariables false
open Go.RowKit

theorem encE_zero {l : List Int} {bs : List UInt8} (h : encE l = (bs, 0)) : encB l = bs ∧ (∀ n ∈ l, OkI n) ∧ bs.length ≤ 65536 := by
  unfold encE at h
  split at h
  · simp at h
  · rename_i ho
    split at h
    · simp at h
    · rename_i hb
      simp only [Prod.mk.injEq, and_true] at h
      subst h
      refine ⟨rfl, fun n hn => outI_ok ?_, by omega⟩
      by_cases hx : outI n = true
      · exact absurd (List.any_eq_true.2 ⟨n, hn, hx⟩) ho
      · simpa using hx
theorem decE_of {l : List Int} {bs : List UInt8} (h1 : encB l = bs) (h2 : ∀ n ∈ l, OkI n) (h3 : bs.length ≤ 65536) : decE bs = (l, 0) := by
  unfold decE
  rw [if_neg (by omega), (dec_iff bs l).2 ⟨h1, h2⟩]
  rfl
set_option maxRecDepth 100000 in
set_option maxHeartbeats 4000000 in
theorem integers_walk (vl : Value) (l : List Int) (bs : List UInt8) (w : World) (hl : Ints w vl l) : Calls Try.prog 3 #[vl, strV bs] w fun e w' => e = .returned (.bool true) ∧ Kp w w' := by
  obtain ⟨A, c, rfl, hc, hm⟩ := hl.form
  have hsz : (⟨bs.toArray⟩ : ByteArray).size = bs.length := by simp [ByteArray.size]
  by_cases h1 : 200 < l.length
  · have e1 : decide ((200 : Int) < (l.length : Int)) = true := decide_eq_true (by omega)
    go_enter Try.func3, Try.ntmps3
    go_wp2_with fail
    refine (awake_any _).mono ?_
    rintro e w1 ⟨rfl, k1⟩
    go_wp2
    go_ret
    exact ⟨rfl, k1⟩
  · have e1 : decide ((200 : Int) < (l.length : Int)) = false := decide_eq_false (by omega)
    by_cases h2 : 400 < bs.length
    · have e2 : decide ((400 : Int) < (bs.length : Int)) = true := decide_eq_true (by omega)
      go_enter Try.func3, Try.ntmps3
      go_wp2_with fail
      refine (awake_any _).mono ?_
      rintro e w1 ⟨rfl, k1⟩
      go_wp2
      go_ret
      exact ⟨rfl, k1⟩
    · have e2 : decide ((400 : Int) < (bs.length : Int)) = false := decide_eq_false (by omega)
      go_enter Try.func3, Try.ntmps3
      go_wp2_with fail
      refine (awake_any _).mono ?_
      rintro e w1 ⟨rfl, k1⟩
      go_wp2_with fail
      refine (Encode_any _ l _ (hl.keep (pl_stable _) k1)).mono ?_
      rintro e w2 ⟨rfl, k2⟩
      replace k2 := k1.trans k2
      clear k1
      generalize he : encE l = r at *
      have HE := hid he
      clear he
      obtain ⟨ab, er⟩ := r
      go_wp2_with fail
      refine (rEncode_any _ l _ (hl.keep (pl_stable _) k2) (by omega)).mono ?_
      rintro e w3 ⟨rfl, k3⟩
      replace k3 := k2.trans k3
      clear k2
      rw [HE.out]
      go_wp2_with fail
      refine (Decode_any bs w3).mono ?_
      rintro e w4 ⟨v4, rfl, own4, k4⟩
      replace k4 := k3.trans k4
      clear k3
      have hi4 := own4.sl encInt_len
      generalize hd : decE bs = d at *
      have HD := hid hd
      clear hd own4
      obtain ⟨dl, dr⟩ := d
      dsimp only at hi4 ⊢
      obtain ⟨A4, c4, rfl, hc4, hm4⟩ := hi4.form
      go_wp2_with fail
      refine (rDecode_any bs w4).mono ?_
      rintro e w5 ⟨v5, rfl, own5, k5⟩
      have hi4' := hi4.keep (pl_stable _) k5
      replace k5 := k4.trans k5
      clear k4 hi4
      rw [HD.out] at own5 ⊢
      have hi5 := own5.sl encInt_len
      clear own5
      dsimp only at hi5 ⊢
      obtain ⟨A5, c5, rfl, hc5, hm5⟩ := hi5.form
      go_wp2_with fail
      refine (Same_any _ _ dl dl _ hi4' hi5).mono ?_
      rintro e w6 ⟨rfl, k6⟩
      replace k6 := k5.trans k6
      clear k5 hi4' hi5
      rw [decide_eq_true rfl]
      by_cases h0 : er = 0
      · subst h0
        obtain ⟨q1, q2, q3⟩ := encE_zero HE.out
        have HB := hid (decE_of q1 q2 q3)
        clear q1 q2 q3
        go_wp2_with fail
        refine (Decode_any ab w6).mono ?_
        rintro e w7 ⟨v7, rfl, own7, k7⟩
        replace k7 := k6.trans k7
        clear k6
        rw [HB.out] at own7 ⊢
        have hi7 := own7.sl encInt_len
        clear own7
        dsimp only at hi7 ⊢
        obtain ⟨A7, c7, rfl, hc7, hm7⟩ := hi7.form
        go_wp2_with fail
        refine (Same_any _ _ l l _ hi7 (hl.keep (pl_stable _) k7)).mono ?_
        rintro e w8 ⟨rfl, k8⟩
        rw [decide_eq_true rfl]
        go_wp2
        go_ret
        exact ⟨rfl, k7.trans k8⟩
      · have e3 : (er != 0) = true := by simpa using h0
        go_wp2
        go_ret
        exact ⟨rfl, k6⟩
end Go.Proofs.Ytmeafoakbkjifaa
