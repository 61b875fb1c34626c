
/-
The bytes of an integer, as the code makes them.
-/
import Derived.Test.YtmeafoakbkjifaaCodW14
import Derived.Test.YtmeafoakbkjifaaByte1
namespace Go.Proofs.Ytmeafoakbkjifaa
set_option linter.unusedSimpArgs false
set_option linter.unusedVariables false
open Go.RowKit

def encByte (b : UInt8) : List Value := [.int .u8 (b.toNat : Int)]
theorem encByte_len (n : UInt8) : (encByte n).length = 1 := rfl
theorem encByte_one (n : UInt8) : ∀ u ∈ encByte n, u.oneCell' = true := by simp [encByte, Value.oneCell']
abbrev Bytes := Sl (Pl encByte) 1
theorem stBytes : SliceT Try.prog 90 5 1 1 := SliceT.mk' Try.underlying90 (z := .int .u8 0) (by kernel_rfl) rfl (by omega)
/-- a fresh slice of bytes -/
theorem litBytes {w : World} (l : List UInt8) (cs : Array Value) (h : cs.toList = flat encByte l) (hl : l.length ≤ 1000) (n : Nat) (hn : n = l.length) : Bytes (w.alloc (.cells cs 5)) (.slice (some ⟨w.heap.size, 0, none⟩) n n) l := by
  subst hn
  have hs : cs.size = l.length * 1 := by
    have := flat_length encByte_len l
    rw [← h] at this
    simpa using this
  exact (Own.lit (base := w.heap.size) encByte w cs l (Nat.le_refl _) (by omega) hs h).sl encByte_len
theorem flat_byte (b : UInt8) (x : Int) (h : x = (b.toNat : Int)) : (#[Value.int .u8 x] : Array Value).toList = flat encByte [b] := by subst h; rfl
set_option maxRecDepth 8000 in
set_option maxHeartbeats 1000000 in
theorem digits_any (n : Int) (w : World) (hn : OkI n) :
    Calls Try.prog 44 #[.int .i64 n] w fun e w' => ∃ v, e = .returned v ∧ Own encByte 5 1 w.heap.size w' v (digs (zig n)) ∧ Kp w w' := by
  have hlen := hid (digs_nine hn)
  obtain ⟨hn1, hn2⟩ := hn
  by_cases h0 : n < 0
  case pos =>
    have hz : zig n = 2 * (-(n + 1)).toNat + 1 := by unfold zig; rw [if_pos h0]
    generalize zig n = z0 at *
    go_enter Try.func44, Try.ntmps44
    go_wp2
    go_loopw [3, 4] (fun zv v wr => ∃ (zn : Nat) (D : List UInt8), zv = .int .u64 (zn : Int) ∧ zn < 9223372036854775808 ∧ Own encByte 5 1 w.heap.size wr v D ∧ Hid (digs z0 = D ++ digs zn) ∧ Kp w wr) (fun zv _ _ => (intOf zv).toNat)
    case atStart => exact ⟨z0, [], by congr 1; omega, by omega, Own.nil _ _ _ _ _, rfl, (by repeat (first | assumption | exact Kp.refl _ | apply Kp.alloc | apply Kp.drew | apply Kp.drewN))⟩
    case round =>
      clear hz
      obtain ⟨zn, D, rfl, hzn, own, HD, hk⟩ := hrel
      have hL : D.length + (digs zn).length ≤ 9 := by
        have := hlen.out
        rw [HD.out, List.length_append] at this
        exact this
      have hp := digs_pos zn
      have hL2 : D.length ≤ 8 := by omega
      clear hL hp
      obtain ⟨A, c, rfl, hc, hm⟩ := own.form
      by_cases hlt : zn < 128
      · have HG := hid (digs_lt hlt)
        have HB := hid (nat_byte (z := zn) (by omega))
        go_wp2_with (at_builtin; refine wpl_append_flat rfl (.tmp 27) (.tmp 30) rfl stBytes encByte_len encByte_one rfl (own.alloc _) rfl (litBytes [UInt8.ofNat zn] _ (flat_byte _ _ ?hb) (by simp) 1 rfl) (by simp; omega) (by simp; omega) (by have := hk.size; simp; omega) ?_; rotate_left; intro v1 w1 hown1 hgrow1 hat1 hnil1)
        case hb => rw [HB.out]
        have k1 : Kp w w1 := Kp.grown (hk.alloc _) hgrow1 own.ge
        go_ret
        exact ⟨_, rfl, by rw [HD.out, HG.out]; exact hown1, k1⟩
      · have HG := hid (digs_ge hlt)
        have HB := hid (nat_byte (z := zn % 128 + 128) (by omega))
        go_wp2_with (at_builtin; refine wpl_append_flat rfl (.tmp 18) (.tmp 23) rfl stBytes encByte_len encByte_one rfl (own.alloc _) rfl (litBytes [UInt8.ofNat (zn % 128 + 128)] _ (flat_byte _ _ ?hb) (by simp) 1 rfl) (by simp; omega) (by simp; omega) (by have := hk.size; simp; omega) ?_; rotate_left; intro v1 w1 hown1 hgrow1 hat1 hnil1)
        case hb => rw [HB.out]; omega
        have k1 : Kp w w1 := Kp.grown (hk.alloc _) hgrow1 own.ge
        go_roundw
        case rel => exact ⟨zn / 128, _, by congr 1, by omega, hown1, hid (by rw [HD.out, HG.out]; simp), k1⟩
        case measure => simp [intOf]; omega
  case neg =>
    have hz : zig n = 2 * n.toNat := by unfold zig; rw [if_neg h0]
    generalize zig n = z0 at *
    go_enter Try.func44, Try.ntmps44
    go_wp2
    go_loopw [3, 4] (fun zv v wr => ∃ (zn : Nat) (D : List UInt8), zv = .int .u64 (zn : Int) ∧ zn < 9223372036854775808 ∧ Own encByte 5 1 w.heap.size wr v D ∧ Hid (digs z0 = D ++ digs zn) ∧ Kp w wr) (fun zv _ _ => (intOf zv).toNat)
    case atStart => exact ⟨z0, [], by congr 1; omega, by omega, Own.nil _ _ _ _ _, rfl, (by repeat (first | assumption | exact Kp.refl _ | apply Kp.alloc | apply Kp.drew | apply Kp.drewN))⟩
    case round =>
      clear hz
      obtain ⟨zn, D, rfl, hzn, own, HD, hk⟩ := hrel
      have hL : D.length + (digs zn).length ≤ 9 := by
        have := hlen.out
        rw [HD.out, List.length_append] at this
        exact this
      have hp := digs_pos zn
      have hL2 : D.length ≤ 8 := by omega
      clear hL hp
      obtain ⟨A, c, rfl, hc, hm⟩ := own.form
      by_cases hlt : zn < 128
      · have HG := hid (digs_lt hlt)
        have HB := hid (nat_byte (z := zn) (by omega))
        go_wp2_with (at_builtin; refine wpl_append_flat rfl (.tmp 27) (.tmp 30) rfl stBytes encByte_len encByte_one rfl (own.alloc _) rfl (litBytes [UInt8.ofNat zn] _ (flat_byte _ _ ?hb) (by simp) 1 rfl) (by simp; omega) (by simp; omega) (by have := hk.size; simp; omega) ?_; rotate_left; intro v1 w1 hown1 hgrow1 hat1 hnil1)
        case hb => rw [HB.out]
        have k1 : Kp w w1 := Kp.grown (hk.alloc _) hgrow1 own.ge
        go_ret
        exact ⟨_, rfl, by rw [HD.out, HG.out]; exact hown1, k1⟩
      · have HG := hid (digs_ge hlt)
        have HB := hid (nat_byte (z := zn % 128 + 128) (by omega))
        go_wp2_with (at_builtin; refine wpl_append_flat rfl (.tmp 18) (.tmp 23) rfl stBytes encByte_len encByte_one rfl (own.alloc _) rfl (litBytes [UInt8.ofNat (zn % 128 + 128)] _ (flat_byte _ _ ?hb) (by simp) 1 rfl) (by simp; omega) (by simp; omega) (by have := hk.size; simp; omega) ?_; rotate_left; intro v1 w1 hown1 hgrow1 hat1 hnil1)
        case hb => rw [HB.out]; omega
        have k1 : Kp w w1 := Kp.grown (hk.alloc _) hgrow1 own.ge
        go_roundw
        case rel => exact ⟨zn / 128, _, by congr 1, by omega, hown1, hid (by rw [HD.out, HG.out]; simp), k1⟩
        case measure => simp [intOf]; omega
end Go.Proofs.Ytmeafoakbkjifaa
