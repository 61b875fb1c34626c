
/-
Equal lists of integers; the examples that the statements check first.
-/
import Derived.Test.YtmokpnkpfodppaaCodD4
import Derived.Test.YtmokpnkpfodppaaCod2
namespace Go.Proofs.Ytmokpnkpfodppaa
set_option linter.unusedSimpArgs false
set_option linter.unusedVariables false
open Go.RowKit

set_option maxHeartbeats 1000000 in
theorem Same_any (va vb : Value) (a b : List Int) (w : World) (ha : Ints w va a) (hb : Ints w vb b) : Calls Try.prog 44 #[va, vb] w fun e w' => e = .returned (.bool (decide (a = b))) ∧ Kp w w' := by
  obtain ⟨A, c, rfl, hc, hm⟩ := ha.form
  obtain ⟨B, d, rfl, hd, hn⟩ := hb.form
  by_cases hl : a.length = b.length
  · have HB : Hid (decide (a = b) = decide (a.drop 0 = b.drop 0)) := hid rfl
    generalize decide (a = b) = r at *
    have e0 : ((a.length : Int) != (b.length : Int)) = false := by simp [hl]
    go_enter Try.func44, Try.ntmps44
    go_wp2
    go_loopw [5] (fun i wr => ∃ k : Nat, k ≤ a.length ∧ i = .int .i64 k ∧ Hid (r = decide (a.drop k = b.drop k)) ∧ Kp w wr) (fun i _ => a.length - (intOf i).toNat)
    case atStart => exact ⟨0, Nat.zero_le _, rfl, HB, Kp.refl _⟩
    case round =>
      obtain ⟨k, hk, rfl, HC, hkr⟩ := hrel
      have har := ha.keep (pl_stable _) hkr
      have hbr := hb.keep (pl_stable _) hkr
      by_cases hlt : k < a.length
      · obtain ⟨p, o, rfl, hp, h1⟩ := har.ints hlt
        obtain ⟨q, o2, rfl, hq, h2⟩ := hbr.ints (k := k) (by omega)
        have HA := hid (List.drop_eq_getElem_cons hlt)
        have HD := hid (List.drop_eq_getElem_cons (l := b) (i := k) (by omega))
        generalize a[k] = x at *
        generalize b[k]'(by omega) = y at *
        have hkb : k < b.length := by omega
        by_cases hxy : x = y
        · subst hxy
          have HF : Hid (r = decide (a.drop (k + 1) = b.drop (k + 1))) := hid (by rw [HC.out, HA.out, HD.out]; simp)
          go_wp2
          go_quiet (fail)
          go_wp2
          go_roundw
          case rel => exact ⟨k + 1, by omega, by go_num, HF, hkr.drewN _⟩
          case measure => simp [intOf]; omega
        · have HF : Hid (r = false) := hid (by rw [HC.out, HA.out, HD.out]; simp [hxy])
          have e1 : (x != y) = true := by simpa using hxy
          go_wp2
          go_quiet (fail)
          go_wp2
          go_ret
          exact ⟨by rw [HF.out]; rfl, hkr.drewN _⟩
      · have HF : Hid (r = true) := hid (by rw [HC.out, List.drop_of_length_le (by omega), List.drop_of_length_le (by omega)]; simp)
        go_wp2
        go_ret
        exact ⟨by rw [HF.out]; rfl, hkr⟩
  · have hne : a ≠ b := fun h => hl (by rw [h])
    have e0 : ((a.length : Int) != (b.length : Int)) = true := bne_iff_ne.2 (by omega)
    go_enter Try.func44, Try.ntmps44
    go_wp2
    go_ret
    exact ⟨ret_bool (by simp [hne]), Kp.refl _⟩
theorem digs1 {z : Nat} (b : UInt8) (h : z < 128) (hb : UInt8.ofNat z = b) : digs z = [b] := by rw [digs_lt h, hb]
theorem digs2 {z : Nat} (b c : UInt8) (h : ¬ z < 128) (h2 : z / 128 < 128) (hb : UInt8.ofNat (z % 128 + 128) = b) (hc : UInt8.ofNat (z / 128) = c) : digs z = [b, c] := by rw [digs_ge h, digs_lt h2, hb, hc]
theorem awake_enc : encE [0, -1, 1, 63, 64, -65] = ([0, 1, 2, 126, 128, 1, 129, 1], 0) := by
  have e : encB [0, -1, 1, 63, 64, -65] = [0, 1, 2, 126, 128, 1, 129, 1] := by
    simp only [encB, List.flatMap_cons, List.flatMap_nil]
    rw [digs1 (z := zig 0) 0 (by decide) (by decide), digs1 (z := zig (-1)) 1 (by decide) (by decide), digs1 (z := zig 1) 2 (by decide) (by decide), digs1 (z := zig 63) 126 (by decide) (by decide), digs2 (z := zig 64) 128 1 (by decide) (by decide) (by decide) (by decide), digs2 (z := zig (-65)) 129 1 (by decide) (by decide) (by decide) (by decide)]
    rfl
  unfold encE
  rw [e, if_neg (by decide), if_neg (by decide)]
abbrev awR : Record := ⟨2, zE, zB, 3, -1, 0, zN⟩
theorem awake_rec : encR awR = ([4, 6, 1], 0) := by
  have e : encB [2, 3, -1] = [4, 6, 1] := by
    simp only [encB, List.flatMap_cons, List.flatMap_nil]
    rw [digs1 (z := zig 2) 4 (by decide) (by decide), digs1 (z := zig 3) 6 (by decide) (by decide), digs1 (z := zig (-1)) 1 (by decide) (by decide)]
    rfl
  have hn : numRecord awR = [2, 3, -1] := by decide
  have hf : formedB awR = true := by decide
  unfold encR
  rw [if_pos hf, hn]
  unfold encE
  rw [e, if_neg (by decide), if_neg (by decide)]
theorem awake_dec : decE [129, 1] = ([-65], 0) := by decide
theorem awake_read : readE recordP [4, 6, 1] = (some awR, 0) := by
  have h : decE [4, 6, 1] = ([2, 3, -1], 0) := by decide
  unfold readE
  rw [h, if_pos rfl]
  have h2 : recordP [2, 3, -1] = some (awR, []) := (recordP_some _ _ _).2 ⟨by decide, by decide⟩
  dsimp only
  rw [h2]
theorem awR_lies (w : World) : RecordV w (.agg #[.int .i64 2, .int .i64 0, .int .i64 0, .int .i64 0, .slice none 0 0, .int .i64 0, .int .i64 0, .int .i64 0, .int .i64 0, .int .i64 0, .int .i64 0, .int .i64 0, .int .i64 0, .int .i64 0, .slice none 0 0, .int .i64 0, .slice none 0 0, .slice none 0 0, .slice none 0 0, .slice none 0 0, .slice none 0 0, .int .i64 3, .int .i64 (-1), .int .i64 0, .int .i64 0, .int .i64 0, .int .i64 0, .int .i64 0, .int .i64 0, .slice none 0 0]) awR :=
  ⟨_, _, _, _, _, _, _, _, rfl, Sl.nil _ _ _, Sl.nil _ _ _, Sl.nil _ _ _, Sl.nil _ _ _, Sl.nil _ _ _, Sl.nil _ _ _, Sl.nil _ _ _, Sl.nil _ _ _⟩
end Go.Proofs.Ytmokpnkpfodppaa
