
/-
Equal lists of integers; the examples that the statements check first.
-/
import Derived.Test.YtmeafoakbkjifaaCodD4
import Derived.Test.YtmeafoakbkjifaaCod2
namespace Go.Proofs.Ytmeafoakbkjifaa
set_option linter.unusedSimpArgs false
set_option linter.unusedVariables false
open Go.RowKit

set_option maxHeartbeats 1000000 in
theorem Same_any (va vb : Value) (a b : List Int) (w : World) (ha : Ints w va a) (hb : Ints w vb b) : Calls Try.prog 16 #[va, vb] w fun e w' => e = .returned (.bool (decide (a = b))) ∧ Kp w w' := by
  obtain ⟨A, c, rfl, hc, hm⟩ := ha.form
  obtain ⟨B, d, rfl, hd, hn⟩ := hb.form
  by_cases hl : a.length = b.length
  · have HB : Hid (decide (a = b) = decide (a.drop 0 = b.drop 0)) := hid rfl
    generalize decide (a = b) = r at *
    have e0 : ((a.length : Int) != (b.length : Int)) = false := by simp [hl]
    go_enter Try.func16, Try.ntmps16
    go_wp2
    go_loopw [5] (fun i wr => ∃ k : Nat, k ≤ a.length ∧ i = .int .i64 k ∧ Hid (r = decide (a.drop k = b.drop k)) ∧ Kp w wr) (fun i _ => a.length - (intOf i).toNat)
    case atStart => exact ⟨0, Nat.zero_le _, rfl, HB, Kp.refl _⟩
    case round =>
      obtain ⟨k, hk, rfl, HC, hkr⟩ := hrel
      have har := ha.keep (pl_stable _) hkr
      have hbr := hb.keep (pl_stable _) hkr
      by_cases hlt : k < a.length
      · obtain ⟨p, o, rfl, hp, h1⟩ := har.ints hlt
        obtain ⟨q, o2, rfl, hq, h2⟩ := hbr.ints (k := k) (by omega)
        have HA := hid (List.drop_eq_getElem_cons hlt)
        have HD := hid (List.drop_eq_getElem_cons (l := b) (i := k) (by omega))
        generalize a[k] = x at *
        generalize b[k]'(by omega) = y at *
        have hkb : k < b.length := by omega
        by_cases hxy : x = y
        · subst hxy
          have HF : Hid (r = decide (a.drop (k + 1) = b.drop (k + 1))) := hid (by rw [HC.out, HA.out, HD.out]; simp)
          go_wp2
          go_quiet (fail)
          go_wp2
          go_roundw
          case rel => exact ⟨k + 1, by omega, by go_num, HF, hkr.drewN _⟩
          case measure => simp [intOf]; omega
        · have HF : Hid (r = false) := hid (by rw [HC.out, HA.out, HD.out]; simp [hxy])
          have e1 : (x != y) = true := by simpa using hxy
          go_wp2
          go_quiet (fail)
          go_wp2
          go_ret
          exact ⟨by rw [HF.out]; rfl, hkr.drewN _⟩
      · have HF : Hid (r = true) := hid (by rw [HC.out, List.drop_of_length_le (by omega), List.drop_of_length_le (by omega)]; simp)
        go_wp2
        go_ret
        exact ⟨by rw [HF.out]; rfl, hkr⟩
  · have hne : a ≠ b := fun h => hl (by rw [h])
    have e0 : ((a.length : Int) != (b.length : Int)) = true := bne_iff_ne.2 (by omega)
    go_enter Try.func16, Try.ntmps16
    go_wp2
    go_ret
    exact ⟨ret_bool (by simp [hne]), Kp.refl _⟩
theorem digs1 {z : Nat} (b : UInt8) (h : z < 128) (hb : UInt8.ofNat z = b) : digs z = [b] := by rw [digs_lt h, hb]
theorem digs2 {z : Nat} (b c : UInt8) (h : ¬ z < 128) (h2 : z / 128 < 128) (hb : UInt8.ofNat (z % 128 + 128) = b) (hc : UInt8.ofNat (z / 128) = c) : digs z = [b, c] := by rw [digs_ge h, digs_lt h2, hb, hc]
theorem awake_enc : encE [0, -1, 1, 63, 64, -65] = ([0, 1, 2, 126, 128, 1, 129, 1], 0) := by
  have e : encB [0, -1, 1, 63, 64, -65] = [0, 1, 2, 126, 128, 1, 129, 1] := by
    simp only [encB, List.flatMap_cons, List.flatMap_nil]
    rw [digs1 (z := zig 0) 0 (by decide) (by decide), digs1 (z := zig (-1)) 1 (by decide) (by decide), digs1 (z := zig 1) 2 (by decide) (by decide), digs1 (z := zig 63) 126 (by decide) (by decide), digs2 (z := zig 64) 128 1 (by decide) (by decide) (by decide) (by decide), digs2 (z := zig (-65)) 129 1 (by decide) (by decide) (by decide) (by decide)]
    rfl
  unfold encE
  rw [e, if_neg (by decide), if_neg (by decide)]
abbrev awR : Record := ⟨2, zE, zB, 3, -1, 0, zN⟩
theorem awake_rec : encR awR = ([4, 6, 1], 0) := by
  have e : encB [2, 3, -1] = [4, 6, 1] := by
    simp only [encB, List.flatMap_cons, List.flatMap_nil]
    rw [digs1 (z := zig 2) 4 (by decide) (by decide), digs1 (z := zig 3) 6 (by decide) (by decide), digs1 (z := zig (-1)) 1 (by decide) (by decide)]
    rfl
  have hn : numRecord awR = [2, 3, -1] := by decide
  have hf : formedB awR = true := by decide
  unfold encR
  rw [if_pos hf, hn]
  unfold encE
  rw [e, if_neg (by decide), if_neg (by decide)]
theorem awake_dec : decE [129, 1] = ([-65], 0) := by decide
theorem awake_read : readE recordP [4, 6, 1] = (some awR, 0) := by
  have h : decE [4, 6, 1] = ([2, 3, -1], 0) := by decide
  unfold readE
  rw [h, if_pos rfl]
  have h2 : recordP [2, 3, -1] = some (awR, []) := (recordP_some _ _ _).2 ⟨by decide, by decide⟩
  dsimp only
  rw [h2]
theorem awR_lies (w : World) : RecordV w (.agg #[.int .i64 2, .int .i64 0, .int .i64 0, .int .i64 0, .slice none 0 0, .int .i64 0, .int .i64 0, .int .i64 0, .int .i64 0, .int .i64 0, .int .i64 0, .int .i64 0, .int .i64 0, .int .i64 0, .slice none 0 0, .int .i64 0, .slice none 0 0, .slice none 0 0, .slice none 0 0, .slice none 0 0, .slice none 0 0, .int .i64 3, .int .i64 (-1), .int .i64 0, .int .i64 0, .int .i64 0, .int .i64 0, .int .i64 0, .int .i64 0, .slice none 0 0]) awR :=
  ⟨_, _, _, _, _, _, _, _, rfl, Sl.nil _ _ _, Sl.nil _ _ _, Sl.nil _ _ _, Sl.nil _ _ _, Sl.nil _ _ _, Sl.nil _ _ _, Sl.nil _ _ _, Sl.nil _ _ _⟩
set_option maxHeartbeats 2000000 in
theorem awake_any (w : World) : Calls Try.prog 11 #[] w fun e w' => e = .returned (.bool true) ∧ Kp w w' := by
  go_enter Try.func11, Try.ntmps11
  go_wp2_with fail
  refine (Encode_any _ [0, -1, 1, 63, 64, -65] _ (litInts [0, -1, 1, 63, 64, -65] _ rfl (by simp) 6 rfl)).mono ?_
  rintro e w1 ⟨rfl, hk1⟩
  rw [awake_enc]
  have k1 := ((Kp.refl w).alloc _).trans hk1
  clear hk1
  go_wp2_with fail
  refine (EncodeRecord_any _ awR w1 (awR_lies w1) (by unfold Room; decide) (by unfold Room; decide)).mono ?_
  rintro e w2 ⟨rfl, hk2⟩
  rw [awake_rec]
  have k2 := k1.trans hk2
  clear hk2 k1
  go_wp2_with fail
  refine (decodeRecord [4, 6, 1] w2).mono ?_
  rintro e w3 ⟨v, rfl, ho, hk3⟩
  rw [awake_read] at ho ⊢
  dsimp only [Option.getD_some] at ho ⊢
  obtain ⟨cs, rfl, hrd⟩ := ho.here
  obtain ⟨hl, h1⟩ := rdRecord_one hrd
  clear ho
  have h21 : cs[21]? = some (.int .i64 3) := by obtain ⟨v0, v1, v2, v3, v4, v5, v6, v7, rfl, -⟩ := hrd; rfl
  have h22 : cs[22]? = some (.int .i64 (-1)) := by obtain ⟨v0, v1, v2, v3, v4, v5, v6, v7, rfl, -⟩ := hrd; rfl
  have k3 := k2.trans hk3
  clear hrd k2 hk3
  have hth := there_new w3 #[.int .i64 0, .int .i64 0, .int .i64 0, .int .i64 0, .slice none 0 0, .int .i64 0, .int .i64 0, .int .i64 0, .int .i64 0, .int .i64 0, .int .i64 0, .int .i64 0, .int .i64 0, .int .i64 0, .slice none 0 0, .int .i64 0, .slice none 0 0, .slice none 0 0, .slice none 0 0, .slice none 0 0, .slice none 0 0, .int .i64 0, .int .i64 0, .int .i64 0, .int .i64 0, .int .i64 0, .int .i64 0, .int .i64 0, .int .i64 0, .slice none 0 0] 46 cs.length (by rw [hl]; rfl)
  have hin : (Try.prog.info? 46).map (·.size) = some cs.length := by rw [hl]; kernel_rfl
  have hB := (Bx.new w3 #[.int .i64 0, .int .i64 0, .int .i64 0, .int .i64 0, .slice none 0 0, .int .i64 0, .int .i64 0, .int .i64 0, .int .i64 0, .int .i64 0, .int .i64 0, .int .i64 0, .int .i64 0, .int .i64 0, .slice none 0 0, .int .i64 0, .slice none 0 0, .slice none 0 0, .slice none 0 0, .slice none 0 0, .slice none 0 0, .int .i64 0, .int .i64 0, .int .i64 0, .int .i64 0, .int .i64 0, .int .i64 0, .int .i64 0, .int .i64 0, .slice none 0 0] 46).all (cs := cs) (by rw [hl]; rfl)
  have k4 : Kp w ((w3.alloc (.cells #[.int .i64 0, .int .i64 0, .int .i64 0, .int .i64 0, .slice none 0 0, .int .i64 0, .int .i64 0, .int .i64 0, .int .i64 0, .int .i64 0, .int .i64 0, .int .i64 0, .int .i64 0, .int .i64 0, .slice none 0 0, .int .i64 0, .slice none 0 0, .slice none 0 0, .slice none 0 0, .slice none 0 0, .slice none 0 0, .int .i64 0, .int .i64 0, .int .i64 0, .int .i64 0, .int .i64 0, .int .i64 0, .int .i64 0, .int .i64 0, .slice none 0 0] 46)).setCells w3.heap.size 0 cs) := Kp.setCells k3.size cs 0 _ (k3.alloc _)
  go_wp2_with (refine wpList_store_mid rfl 46 (.tmp 5) (.tmp 21) rfl w3.heap.size 0 cs.toArray rfl rfl hth hin (all_oneCell_toArray h1) ?_; generalize (w3.alloc (.cells #[.int .i64 0, .int .i64 0, .int .i64 0, .int .i64 0, .slice none 0 0, .int .i64 0, .int .i64 0, .int .i64 0, .int .i64 0, .int .i64 0, .int .i64 0, .int .i64 0, .int .i64 0, .int .i64 0, .slice none 0 0, .int .i64 0, .slice none 0 0, .slice none 0 0, .slice none 0 0, .slice none 0 0, .slice none 0 0, .int .i64 0, .int .i64 0, .int .i64 0, .int .i64 0, .int .i64 0, .int .i64 0, .int .i64 0, .int .i64 0, .slice none 0 0] 46)).setCells w3.heap.size 0 cs = w4 at *)
  refine (Decode_any [129, 1] w4).mono ?_
  rintro e w5 ⟨v5, rfl, own, hk5⟩
  rw [awake_dec] at own ⊢
  have hi := own.sl encInt_len
  have k5 := k4.trans hk5
  have q21 := hk5.cellS (hB.cell h21)
  have q22 := hk5.cellS (hB.cell h22)
  have hlt := block_lt_of_cell q21
  clear own hB hth hin h21 h22 h1 hl k4 k3 hk5
  dsimp only at hi ⊢
  obtain ⟨A, c, rfl, hc, hm⟩ := hi.form
  go_wp2_with fail
  refine (Same_any _ _ [-65] [-65] _ (hi.keep (pl_stable _) ((Kp.refl w5).alloc _)) (litInts [-65] _ rfl (by simp) 1 rfl)).mono ?_
  rintro e w6 ⟨rfl, hk6⟩
  go_wp2
  go_ret
  exact ⟨rfl, (k5.alloc _).trans hk6⟩
end Go.Proofs.Ytmeafoakbkjifaa
