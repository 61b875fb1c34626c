
/-
The integers of bytes, as the code reads them.
-/
import Derived.Test.YtmokpnkpfodppaaRA
namespace Go.Proofs.Ytmokpnkpfodppaa
set_option linter.unusedSimpArgs false
set_option linter.unusedVariables false
open Go.RowKit

/-- what is answered when bytes are read: the integers and the error -/
def decO : Option (List Int) → List Int × Int
  | none => ([], 13)
  | some l => (l, 0)
def decE (bs : List UInt8) : List Int × Int := if 65536 < bs.length then ([], 8) else decO (dec 0 0 bs)
theorem bytes_new (w : World) (bs : List UInt8) (cap : Nat) (hl : bs.length ≤ cap) (hc : cap ≤ 9223372036854775807) (fr : Nat × Nat) : Bytes (w.alloc (.cells (bytesRow ⟨bs.toArray⟩ cap) 5 fr)) (.slice (some ⟨w.heap.size, 0, none⟩) bs.length cap) bs := by
  refine ⟨_, cap, rfl, hl, hc, fun k hk => ⟨w.heap.size, 0, encByte bs[k], rfl, by simp, rfl, fun j u hu => ?_, rfl⟩⟩
  cases j with
  | zero =>
    simp only [encByte, List.getElem?_cons_zero, Option.some.injEq] at hu
    subst hu
    simp only [Nat.zero_add, Nat.mul_one, Nat.add_zero]
    rw [World.cell?_alloc_mark]
    exact bytesRow_at ⟨bs.toArray⟩ cap k (by simpa using hk)
  | succ j => simp [encByte] at hu
theorem grownCap_in (w : World) (n : Nat) (e : TypeId) (hn : n ≤ 1000000) : n ≤ grownCap w n 0 e ∧ grownCap w n 0 e ≤ 9223372036854775807 :=
  ⟨grownCap_ge w n 0 e, grownCap_le_maxLen w n 0 e (by unfold maxLen; omega)⟩
theorem wpl_bytes {ops : Array Oper} {rest : List Oper} {o : Oper} {a : Act} {Q : Exit → Act → World → Prop} {w : World} {bs : List UInt8} (hgd : o.guard = none) (x : Operand) (ho : o.op = .convert 9 163 x)
    (hx : a.eval x = strV bs) (hn : bs.length ≤ 1000000) (h : ∀ v' w', Bytes w' v' bs → Kp w w' → wpList Try.prog ops Q rest (a.put o.dst v') w') : wpList Try.prog ops Q (o :: rest) a w := by
  refine wpList_plain hgd fun K hK => ?_
  have hr := run_bytes_of_string (P := Try.prog) w 9 163 5 ⟨bs.toArray⟩ Try.underlying9 Try.underlying163 Try.underlying5
  unfold Oper.wp execOp
  simp only [ho, hx, Sem.run_bind, hr, Sem.run_pure, Result.andThen_ok]
  refine hK _ _ (h _ _ ?_ ?_)
  · have h2 := grownCap_in w bs.length 5 hn
    have e : (⟨bs.toArray⟩ : ByteArray).size = bs.length := by simp [ByteArray.size]
    rw [e]
    exact bytes_new w.drew bs _ h2.1 h2.2 _
  · exact ((Kp.refl w).drew).alloc _
theorem Sl.byte {w : World} {A : Option Addr} {n c : Nat} {l : List UInt8} (h : Bytes w (.slice A n c) l) {k : Nat} (hk : k < l.length) :
    ∃ b o, A = some ⟨b, o, none⟩ ∧ b < w.heap.size ∧ w.cell? ⟨b, o + k, none⟩ = some (.int .u8 (l[k].toNat : Int)) := by
  obtain ⟨b, o, cs, hA, had, hcs, hc, hr⟩ := h.at_ hk
  unfold Pl encByte at hr
  subst hr
  exact ⟨b, o, hA, had, by simpa using hc 0 _ rfl⟩
theorem stInt' : SliceT Try.prog 24 3 1 8 := SliceT.mk' Try.underlying24 (z := .int .i64 0) (by kernel_rfl) rfl (by omega)
abbrev retD (v : Value) (e : Int) : Ending := .returned (.tuple #[v, .int .i64 e])
theorem dec_cons (zn sn : Nat) (xs : List Int) (x : UInt8) (R bs : List UInt8) (h : dec 0 0 bs = (dec zn sn (x :: R)).map fun l => xs ++ l) :
    dec 0 0 bs = (if sn = 9 ∨ (0 < sn ∧ x.toNat = 0) then none else if 128 ≤ x.toNat then dec (zn + x.toNat % 128 * 128 ^ sn) (sn + 1) R else (dec 0 0 R).map fun l => unzig (zn + x.toNat % 128 * 128 ^ sn) :: l).map fun l => xs ++ l := by
  rw [h, dec]
theorem bits_or_add (a b s : Nat) (ha : a < 128 ^ s) (hb : b * 128 ^ s < 9223372036854775808) (hs : s ≤ 8) : bits .or .u64 (a : Int) ((b : Int) * ((128 ^ s : Nat) : Int)) = ((a + b * 128 ^ s : Nat) : Int) := by
  have e1 : (b : Int) * ((128 ^ s : Nat) : Int) = ((b * 128 ^ s : Nat) : Int) := by simp
  have e2 : (128 : Nat) ^ s = 2 ^ (7 * s) := by rw [Nat.pow_mul]
  have ha2 : a < 72057594037927936 := Nat.lt_of_lt_of_le ha (by have := Nat.pow_le_pow_right (n := 128) (by omega) hs; simpa using this)
  rw [e1]
  rw [bits_or_u64_nat a _ (by omega) (by omega)]
  congr 1
  rw [e2] at ha ⊢
  have := Nat.two_pow_add_eq_or_of_lt ha b
  rw [Nat.or_comm, Nat.mul_comm b, ← this, Nat.add_comm]
theorem flat_int (n x : Int) (h : x = n) : (#[Value.int .i64 x] : Array Value).toList = flat encInt [n] := by subst h; rfl
set_option maxRecDepth 8000 in
set_option maxHeartbeats 2000000 in
theorem Decode_any (bs : List UInt8) (w : World) : Calls Try.prog 76 #[strV bs] w fun e w' => ∃ v, e = retD v (decE bs).2 ∧ Own encInt 3 1 w.heap.size w' v (decE bs).1 ∧ Kp w w' := by
  have HD : Hid (decE bs = if 65536 < bs.length then ([], 8) else decO (dec 0 0 bs)) := hid rfl
  generalize decE bs = r at *
  have hsz : (⟨bs.toArray⟩ : ByteArray).size = bs.length := by simp [ByteArray.size]
  by_cases hbig : 65536 < bs.length
  · have HR : Hid (r = ([], 8)) := hid (by rw [HD.out, if_pos hbig])
    go_enter Try.func76, Try.ntmps76
    go_wp2
    go_ret2
    exact ⟨_, by rw [HR.out]; rfl, by rw [HR.out]; exact Own.nil _ _ _ _ _, Kp.refl _⟩
  · have HR : Hid (r = decO (dec 0 0 bs)) := hid (by rw [HD.out, if_neg hbig])
    clear HD
    go_enter Try.func76, Try.ntmps76
    go_wp2_with (refine wpl_bytes rfl (.tmp 13) rfl rfl (by omega) ?_; intro vb w1 hb1 hk1; obtain ⟨A, c, rfl, hc, hm⟩ := hb1.form)
    go_loopw [4, 5, 6, 16] (fun v z s i wr => ∃ (k zn sn : Nat) (xs : List Int), k ≤ bs.length ∧ i = .int .i64 k ∧ z = .int .u64 zn ∧ s = .int .i64 (7 * sn) ∧ sn ≤ 9 ∧ zn < 128 ^ sn ∧ xs.length ≤ k ∧ Own encInt 3 1 w1.heap.size wr v xs ∧ Hid (dec 0 0 bs = (dec zn sn (bs.drop k)).map fun l => xs ++ l) ∧ Kp w1 wr) (fun _ _ _ i _ => bs.length - (intOf i).toNat)
    case atStart => exact ⟨0, 0, 0, [], Nat.zero_le _, rfl, rfl, rfl, by omega, by simp, Nat.le_refl _, Own.nil _ _ _ _ _, hid (by simp), Kp.refl _⟩
    case round =>
      obtain ⟨k, zn, sn, xs, hk, rfl, rfl, rfl, hsn, hzn, hxs, own, HB, hkr⟩ := hrel
      have hbr := hb1.keep (pl_stable _) hkr
      have hkw := hk1.trans hkr
      obtain ⟨A1, c1, rfl, hc1, hm1⟩ := own.form
      by_cases hlt : k < bs.length
      · obtain ⟨b, o, rfl, hb, h1⟩ := hbr.byte hlt
        have HX := hid (List.drop_eq_getElem_cons hlt)
        generalize bs[k] = x at *
        have hx := x.toNat_lt
        have HC := hid (dec_cons zn sn xs x (bs.drop (k + 1)) bs (by rw [HB.out, HX.out]))
        clear HB HX
        generalize x.toNat = m at *
        generalize hR : bs.drop (k + 1) = R at *
        have HRR := hid hR
        clear hR
        have hs9 : sn = 0 ∨ sn = 1 ∨ sn = 2 ∨ sn = 3 ∨ sn = 4 ∨ sn = 5 ∨ sn = 6 ∨ sn = 7 ∨ sn = 8 ∨ sn = 9 := by omega
        rcases hs9 with rfl | rfl | rfl | rfl | rfl | rfl | rfl | rfl | rfl | rfl
        · obtain rfl : zn = 0 := by simpa using hzn
          have hor : bits .or .u64 0 ((m : Int) % 128) = ((m % 128 : Nat) : Int) := by
            have := bits_or_add 0 (m % 128) 0 (by simp) (by simp; omega) (by omega)
            simpa using this
          have hZ : 0 + m % 128 * 128 ^ 0 = m % 128 := by simp
          rw [hZ] at HC
          have hZb : m % 128 < 128 ^ (0 + 1) := by simp; omega
          generalize hZd : m % 128 = Zn at *
          clear hZd
          by_cases h128 : 128 ≤ m
          · have HN : Hid (dec 0 0 bs = (dec Zn (0 + 1) R).map fun l => xs ++ l) := hid (by rw [HC.out, if_neg (by omega), if_pos h128])
            have e2 : decide (128 ≤ (m : Int)) = true := decide_eq_true (by omega)
            clear HC
            go_wp2
            go_roundw
            case rel => exact ⟨k + 1, Zn, 0 + 1, xs, by omega, by go_num, rfl, rfl, by omega, hZb, by omega, own, hid (by rw [HN.out, HRR.out]), hkr⟩
            case measure => simp [intOf]; omega
          · have HN : Hid (dec 0 0 bs = ((dec 0 0 R).map fun l => unzig Zn :: l).map fun l => xs ++ l) := hid (by rw [HC.out, if_neg (by omega), if_neg h128])
            have e2 : decide (128 ≤ (m : Int)) = false := decide_eq_false (by omega)
            have hZm : Zn < 9223372036854775808 := by simp at hZb; omega
            clear HC
            by_cases hodd : Zn % 2 = 1
            · have HU : Hid (-((Zn : Int) / 2) - 1 = unzig Zn) := hid (by unfold unzig; rw [if_pos hodd]; omega)
              have hod2 : ((Zn : Int) % 2) = 1 := by omega
              have e3 : ((Zn : Int) % 2 == 1) = true := by simp [hod2]
              go_wp2_with (at_builtin; refine wpl_append_flat rfl (.tmp 50) (.tmp 52) rfl stInt' encInt_len encInt_one rfl (own.alloc _) rfl (litInts [unzig Zn] _ (flat_int _ _ HU.out) (by simp) 1 rfl) (by simp; omega) (by simp; omega) (by have := hkr.size; simp; omega) ?_; intro v3 w3 hown3 hgrow3 hat3 hnil3)
              have hk3 : Kp w1 w3 := Kp.grown (hkr.alloc _) hgrow3 own.ge
              go_roundw
              case rel => exact ⟨k + 1, 0, 0, xs ++ [unzig Zn], by omega, by go_num, rfl, rfl, by omega, by simp, by simp; omega, hown3, hid (by rw [HN.out, HRR.out]; cases dec 0 0 R <;> simp), hk3⟩
              case measure => simp [intOf]; omega
            · have HU : Hid ((Zn : Int) / 2 = unzig Zn) := hid (by unfold unzig; rw [if_neg hodd]; omega)
              have hod2 : ¬ ((Zn : Int) % 2) = 1 := by omega
              have e3 : ((Zn : Int) % 2 == 1) = false := by simpa using hod2
              go_wp2_with (at_builtin; refine wpl_append_flat rfl (.tmp 50) (.tmp 52) rfl stInt' encInt_len encInt_one rfl (own.alloc _) rfl (litInts [unzig Zn] _ (flat_int _ _ HU.out) (by simp) 1 rfl) (by simp; omega) (by simp; omega) (by have := hkr.size; simp; omega) ?_; intro v3 w3 hown3 hgrow3 hat3 hnil3)
              have hk3 : Kp w1 w3 := Kp.grown (hkr.alloc _) hgrow3 own.ge
              go_roundw
              case rel => exact ⟨k + 1, 0, 0, xs ++ [unzig Zn], by omega, by go_num, rfl, rfl, by omega, by simp, by simp; omega, hown3, hid (by rw [HN.out, HRR.out]; cases dec 0 0 R <;> simp), hk3⟩
              case measure => simp [intOf]; omega
        · have hor : bits .or .u64 (zn : Int) ((m : Int) % 128 * 128) = ((zn + m % 128 * 128 ^ 1 : Nat) : Int) := by
            have := bits_or_add zn (m % 128) 1 hzn (by simp; omega) (by omega)
            simpa using this
          have hZb : zn + m % 128 * 128 ^ 1 < 128 ^ (1 + 1) := by simp at hzn ⊢; omega
          by_cases hm0 : m = 0
          · subst hm0
            have HN : Hid (r = ([], 13)) := hid (by rw [HR.out, HC.out, if_pos (.inr ⟨by omega, rfl⟩)]; rfl)
            clear HC HR hor
            go_wp2
            go_ret2
            exact ⟨_, by rw [HN.out]; rfl, by rw [HN.out]; exact Own.nil _ _ _ _ _, hkw⟩
          · have em : ((m : Int) == 0) = false := by simp; omega
            generalize zn + m % 128 * 128 ^ 1 = Zn at *
            by_cases h128 : 128 ≤ m
            · have HN : Hid (dec 0 0 bs = (dec Zn (1 + 1) R).map fun l => xs ++ l) := hid (by rw [HC.out, if_neg (by omega), if_pos h128])
              have e2 : decide (128 ≤ (m : Int)) = true := decide_eq_true (by omega)
              clear HC
              go_wp2
              go_roundw
              case rel => exact ⟨k + 1, Zn, 1 + 1, xs, by omega, by go_num, rfl, rfl, by omega, hZb, by omega, own, hid (by rw [HN.out, HRR.out]), hkr⟩
              case measure => simp [intOf]; omega
            · have HN : Hid (dec 0 0 bs = ((dec 0 0 R).map fun l => unzig Zn :: l).map fun l => xs ++ l) := hid (by rw [HC.out, if_neg (by omega), if_neg h128])
              have e2 : decide (128 ≤ (m : Int)) = false := decide_eq_false (by omega)
              have hZm : Zn < 9223372036854775808 := by simp at hZb; omega
              clear HC
              by_cases hodd : Zn % 2 = 1
              · have HU : Hid (-((Zn : Int) / 2) - 1 = unzig Zn) := hid (by unfold unzig; rw [if_pos hodd]; omega)
                have hod2 : ((Zn : Int) % 2) = 1 := by omega
                have e3 : ((Zn : Int) % 2 == 1) = true := by simp [hod2]
                go_wp2_with (at_builtin; refine wpl_append_flat rfl (.tmp 50) (.tmp 52) rfl stInt' encInt_len encInt_one rfl (own.alloc _) rfl (litInts [unzig Zn] _ (flat_int _ _ HU.out) (by simp) 1 rfl) (by simp; omega) (by simp; omega) (by have := hkr.size; simp; omega) ?_; intro v3 w3 hown3 hgrow3 hat3 hnil3)
                have hk3 : Kp w1 w3 := Kp.grown (hkr.alloc _) hgrow3 own.ge
                go_roundw
                case rel => exact ⟨k + 1, 0, 0, xs ++ [unzig Zn], by omega, by go_num, rfl, rfl, by omega, by simp, by simp; omega, hown3, hid (by rw [HN.out, HRR.out]; cases dec 0 0 R <;> simp), hk3⟩
                case measure => simp [intOf]; omega
              · have HU : Hid ((Zn : Int) / 2 = unzig Zn) := hid (by unfold unzig; rw [if_neg hodd]; omega)
                have hod2 : ¬ ((Zn : Int) % 2) = 1 := by omega
                have e3 : ((Zn : Int) % 2 == 1) = false := by simpa using hod2
                go_wp2_with (at_builtin; refine wpl_append_flat rfl (.tmp 50) (.tmp 52) rfl stInt' encInt_len encInt_one rfl (own.alloc _) rfl (litInts [unzig Zn] _ (flat_int _ _ HU.out) (by simp) 1 rfl) (by simp; omega) (by simp; omega) (by have := hkr.size; simp; omega) ?_; intro v3 w3 hown3 hgrow3 hat3 hnil3)
                have hk3 : Kp w1 w3 := Kp.grown (hkr.alloc _) hgrow3 own.ge
                go_roundw
                case rel => exact ⟨k + 1, 0, 0, xs ++ [unzig Zn], by omega, by go_num, rfl, rfl, by omega, by simp, by simp; omega, hown3, hid (by rw [HN.out, HRR.out]; cases dec 0 0 R <;> simp), hk3⟩
                case measure => simp [intOf]; omega
        · have hor : bits .or .u64 (zn : Int) ((m : Int) % 128 * 16384) = ((zn + m % 128 * 128 ^ 2 : Nat) : Int) := by
            have := bits_or_add zn (m % 128) 2 hzn (by simp; omega) (by omega)
            simpa using this
          have hZb : zn + m % 128 * 128 ^ 2 < 128 ^ (2 + 1) := by simp at hzn ⊢; omega
          by_cases hm0 : m = 0
          · subst hm0
            have HN : Hid (r = ([], 13)) := hid (by rw [HR.out, HC.out, if_pos (.inr ⟨by omega, rfl⟩)]; rfl)
            clear HC HR hor
            go_wp2
            go_ret2
            exact ⟨_, by rw [HN.out]; rfl, by rw [HN.out]; exact Own.nil _ _ _ _ _, hkw⟩
          · have em : ((m : Int) == 0) = false := by simp; omega
            generalize zn + m % 128 * 128 ^ 2 = Zn at *
            by_cases h128 : 128 ≤ m
            · have HN : Hid (dec 0 0 bs = (dec Zn (2 + 1) R).map fun l => xs ++ l) := hid (by rw [HC.out, if_neg (by omega), if_pos h128])
              have e2 : decide (128 ≤ (m : Int)) = true := decide_eq_true (by omega)
              clear HC
              go_wp2
              go_roundw
              case rel => exact ⟨k + 1, Zn, 2 + 1, xs, by omega, by go_num, rfl, rfl, by omega, hZb, by omega, own, hid (by rw [HN.out, HRR.out]), hkr⟩
              case measure => simp [intOf]; omega
            · have HN : Hid (dec 0 0 bs = ((dec 0 0 R).map fun l => unzig Zn :: l).map fun l => xs ++ l) := hid (by rw [HC.out, if_neg (by omega), if_neg h128])
              have e2 : decide (128 ≤ (m : Int)) = false := decide_eq_false (by omega)
              have hZm : Zn < 9223372036854775808 := by simp at hZb; omega
              clear HC
              by_cases hodd : Zn % 2 = 1
              · have HU : Hid (-((Zn : Int) / 2) - 1 = unzig Zn) := hid (by unfold unzig; rw [if_pos hodd]; omega)
                have hod2 : ((Zn : Int) % 2) = 1 := by omega
                have e3 : ((Zn : Int) % 2 == 1) = true := by simp [hod2]
                go_wp2_with (at_builtin; refine wpl_append_flat rfl (.tmp 50) (.tmp 52) rfl stInt' encInt_len encInt_one rfl (own.alloc _) rfl (litInts [unzig Zn] _ (flat_int _ _ HU.out) (by simp) 1 rfl) (by simp; omega) (by simp; omega) (by have := hkr.size; simp; omega) ?_; intro v3 w3 hown3 hgrow3 hat3 hnil3)
                have hk3 : Kp w1 w3 := Kp.grown (hkr.alloc _) hgrow3 own.ge
                go_roundw
                case rel => exact ⟨k + 1, 0, 0, xs ++ [unzig Zn], by omega, by go_num, rfl, rfl, by omega, by simp, by simp; omega, hown3, hid (by rw [HN.out, HRR.out]; cases dec 0 0 R <;> simp), hk3⟩
                case measure => simp [intOf]; omega
              · have HU : Hid ((Zn : Int) / 2 = unzig Zn) := hid (by unfold unzig; rw [if_neg hodd]; omega)
                have hod2 : ¬ ((Zn : Int) % 2) = 1 := by omega
                have e3 : ((Zn : Int) % 2 == 1) = false := by simpa using hod2
                go_wp2_with (at_builtin; refine wpl_append_flat rfl (.tmp 50) (.tmp 52) rfl stInt' encInt_len encInt_one rfl (own.alloc _) rfl (litInts [unzig Zn] _ (flat_int _ _ HU.out) (by simp) 1 rfl) (by simp; omega) (by simp; omega) (by have := hkr.size; simp; omega) ?_; intro v3 w3 hown3 hgrow3 hat3 hnil3)
                have hk3 : Kp w1 w3 := Kp.grown (hkr.alloc _) hgrow3 own.ge
                go_roundw
                case rel => exact ⟨k + 1, 0, 0, xs ++ [unzig Zn], by omega, by go_num, rfl, rfl, by omega, by simp, by simp; omega, hown3, hid (by rw [HN.out, HRR.out]; cases dec 0 0 R <;> simp), hk3⟩
                case measure => simp [intOf]; omega
        · have hor : bits .or .u64 (zn : Int) ((m : Int) % 128 * 2097152) = ((zn + m % 128 * 128 ^ 3 : Nat) : Int) := by
            have := bits_or_add zn (m % 128) 3 hzn (by simp; omega) (by omega)
            simpa using this
          have hZb : zn + m % 128 * 128 ^ 3 < 128 ^ (3 + 1) := by simp at hzn ⊢; omega
          by_cases hm0 : m = 0
          · subst hm0
            have HN : Hid (r = ([], 13)) := hid (by rw [HR.out, HC.out, if_pos (.inr ⟨by omega, rfl⟩)]; rfl)
            clear HC HR hor
            go_wp2
            go_ret2
            exact ⟨_, by rw [HN.out]; rfl, by rw [HN.out]; exact Own.nil _ _ _ _ _, hkw⟩
          · have em : ((m : Int) == 0) = false := by simp; omega
            generalize zn + m % 128 * 128 ^ 3 = Zn at *
            by_cases h128 : 128 ≤ m
            · have HN : Hid (dec 0 0 bs = (dec Zn (3 + 1) R).map fun l => xs ++ l) := hid (by rw [HC.out, if_neg (by omega), if_pos h128])
              have e2 : decide (128 ≤ (m : Int)) = true := decide_eq_true (by omega)
              clear HC
              go_wp2
              go_roundw
              case rel => exact ⟨k + 1, Zn, 3 + 1, xs, by omega, by go_num, rfl, rfl, by omega, hZb, by omega, own, hid (by rw [HN.out, HRR.out]), hkr⟩
              case measure => simp [intOf]; omega
            · have HN : Hid (dec 0 0 bs = ((dec 0 0 R).map fun l => unzig Zn :: l).map fun l => xs ++ l) := hid (by rw [HC.out, if_neg (by omega), if_neg h128])
              have e2 : decide (128 ≤ (m : Int)) = false := decide_eq_false (by omega)
              have hZm : Zn < 9223372036854775808 := by simp at hZb; omega
              clear HC
              by_cases hodd : Zn % 2 = 1
              · have HU : Hid (-((Zn : Int) / 2) - 1 = unzig Zn) := hid (by unfold unzig; rw [if_pos hodd]; omega)
                have hod2 : ((Zn : Int) % 2) = 1 := by omega
                have e3 : ((Zn : Int) % 2 == 1) = true := by simp [hod2]
                go_wp2_with (at_builtin; refine wpl_append_flat rfl (.tmp 50) (.tmp 52) rfl stInt' encInt_len encInt_one rfl (own.alloc _) rfl (litInts [unzig Zn] _ (flat_int _ _ HU.out) (by simp) 1 rfl) (by simp; omega) (by simp; omega) (by have := hkr.size; simp; omega) ?_; intro v3 w3 hown3 hgrow3 hat3 hnil3)
                have hk3 : Kp w1 w3 := Kp.grown (hkr.alloc _) hgrow3 own.ge
                go_roundw
                case rel => exact ⟨k + 1, 0, 0, xs ++ [unzig Zn], by omega, by go_num, rfl, rfl, by omega, by simp, by simp; omega, hown3, hid (by rw [HN.out, HRR.out]; cases dec 0 0 R <;> simp), hk3⟩
                case measure => simp [intOf]; omega
              · have HU : Hid ((Zn : Int) / 2 = unzig Zn) := hid (by unfold unzig; rw [if_neg hodd]; omega)
                have hod2 : ¬ ((Zn : Int) % 2) = 1 := by omega
                have e3 : ((Zn : Int) % 2 == 1) = false := by simpa using hod2
                go_wp2_with (at_builtin; refine wpl_append_flat rfl (.tmp 50) (.tmp 52) rfl stInt' encInt_len encInt_one rfl (own.alloc _) rfl (litInts [unzig Zn] _ (flat_int _ _ HU.out) (by simp) 1 rfl) (by simp; omega) (by simp; omega) (by have := hkr.size; simp; omega) ?_; intro v3 w3 hown3 hgrow3 hat3 hnil3)
                have hk3 : Kp w1 w3 := Kp.grown (hkr.alloc _) hgrow3 own.ge
                go_roundw
                case rel => exact ⟨k + 1, 0, 0, xs ++ [unzig Zn], by omega, by go_num, rfl, rfl, by omega, by simp, by simp; omega, hown3, hid (by rw [HN.out, HRR.out]; cases dec 0 0 R <;> simp), hk3⟩
                case measure => simp [intOf]; omega
        · have hor : bits .or .u64 (zn : Int) ((m : Int) % 128 * 268435456) = ((zn + m % 128 * 128 ^ 4 : Nat) : Int) := by
            have := bits_or_add zn (m % 128) 4 hzn (by simp; omega) (by omega)
            simpa using this
          have hZb : zn + m % 128 * 128 ^ 4 < 128 ^ (4 + 1) := by simp at hzn ⊢; omega
          by_cases hm0 : m = 0
          · subst hm0
            have HN : Hid (r = ([], 13)) := hid (by rw [HR.out, HC.out, if_pos (.inr ⟨by omega, rfl⟩)]; rfl)
            clear HC HR hor
            go_wp2
            go_ret2
            exact ⟨_, by rw [HN.out]; rfl, by rw [HN.out]; exact Own.nil _ _ _ _ _, hkw⟩
          · have em : ((m : Int) == 0) = false := by simp; omega
            generalize zn + m % 128 * 128 ^ 4 = Zn at *
            by_cases h128 : 128 ≤ m
            · have HN : Hid (dec 0 0 bs = (dec Zn (4 + 1) R).map fun l => xs ++ l) := hid (by rw [HC.out, if_neg (by omega), if_pos h128])
              have e2 : decide (128 ≤ (m : Int)) = true := decide_eq_true (by omega)
              clear HC
              go_wp2
              go_roundw
              case rel => exact ⟨k + 1, Zn, 4 + 1, xs, by omega, by go_num, rfl, rfl, by omega, hZb, by omega, own, hid (by rw [HN.out, HRR.out]), hkr⟩
              case measure => simp [intOf]; omega
            · have HN : Hid (dec 0 0 bs = ((dec 0 0 R).map fun l => unzig Zn :: l).map fun l => xs ++ l) := hid (by rw [HC.out, if_neg (by omega), if_neg h128])
              have e2 : decide (128 ≤ (m : Int)) = false := decide_eq_false (by omega)
              have hZm : Zn < 9223372036854775808 := by simp at hZb; omega
              clear HC
              by_cases hodd : Zn % 2 = 1
              · have HU : Hid (-((Zn : Int) / 2) - 1 = unzig Zn) := hid (by unfold unzig; rw [if_pos hodd]; omega)
                have hod2 : ((Zn : Int) % 2) = 1 := by omega
                have e3 : ((Zn : Int) % 2 == 1) = true := by simp [hod2]
                go_wp2_with (at_builtin; refine wpl_append_flat rfl (.tmp 50) (.tmp 52) rfl stInt' encInt_len encInt_one rfl (own.alloc _) rfl (litInts [unzig Zn] _ (flat_int _ _ HU.out) (by simp) 1 rfl) (by simp; omega) (by simp; omega) (by have := hkr.size; simp; omega) ?_; intro v3 w3 hown3 hgrow3 hat3 hnil3)
                have hk3 : Kp w1 w3 := Kp.grown (hkr.alloc _) hgrow3 own.ge
                go_roundw
                case rel => exact ⟨k + 1, 0, 0, xs ++ [unzig Zn], by omega, by go_num, rfl, rfl, by omega, by simp, by simp; omega, hown3, hid (by rw [HN.out, HRR.out]; cases dec 0 0 R <;> simp), hk3⟩
                case measure => simp [intOf]; omega
              · have HU : Hid ((Zn : Int) / 2 = unzig Zn) := hid (by unfold unzig; rw [if_neg hodd]; omega)
                have hod2 : ¬ ((Zn : Int) % 2) = 1 := by omega
                have e3 : ((Zn : Int) % 2 == 1) = false := by simpa using hod2
                go_wp2_with (at_builtin; refine wpl_append_flat rfl (.tmp 50) (.tmp 52) rfl stInt' encInt_len encInt_one rfl (own.alloc _) rfl (litInts [unzig Zn] _ (flat_int _ _ HU.out) (by simp) 1 rfl) (by simp; omega) (by simp; omega) (by have := hkr.size; simp; omega) ?_; intro v3 w3 hown3 hgrow3 hat3 hnil3)
                have hk3 : Kp w1 w3 := Kp.grown (hkr.alloc _) hgrow3 own.ge
                go_roundw
                case rel => exact ⟨k + 1, 0, 0, xs ++ [unzig Zn], by omega, by go_num, rfl, rfl, by omega, by simp, by simp; omega, hown3, hid (by rw [HN.out, HRR.out]; cases dec 0 0 R <;> simp), hk3⟩
                case measure => simp [intOf]; omega
        · have hor : bits .or .u64 (zn : Int) ((m : Int) % 128 * 34359738368) = ((zn + m % 128 * 128 ^ 5 : Nat) : Int) := by
            have := bits_or_add zn (m % 128) 5 hzn (by simp; omega) (by omega)
            simpa using this
          have hZb : zn + m % 128 * 128 ^ 5 < 128 ^ (5 + 1) := by simp at hzn ⊢; omega
          by_cases hm0 : m = 0
          · subst hm0
            have HN : Hid (r = ([], 13)) := hid (by rw [HR.out, HC.out, if_pos (.inr ⟨by omega, rfl⟩)]; rfl)
            clear HC HR hor
            go_wp2
            go_ret2
            exact ⟨_, by rw [HN.out]; rfl, by rw [HN.out]; exact Own.nil _ _ _ _ _, hkw⟩
          · have em : ((m : Int) == 0) = false := by simp; omega
            generalize zn + m % 128 * 128 ^ 5 = Zn at *
            by_cases h128 : 128 ≤ m
            · have HN : Hid (dec 0 0 bs = (dec Zn (5 + 1) R).map fun l => xs ++ l) := hid (by rw [HC.out, if_neg (by omega), if_pos h128])
              have e2 : decide (128 ≤ (m : Int)) = true := decide_eq_true (by omega)
              clear HC
              go_wp2
              go_roundw
              case rel => exact ⟨k + 1, Zn, 5 + 1, xs, by omega, by go_num, rfl, rfl, by omega, hZb, by omega, own, hid (by rw [HN.out, HRR.out]), hkr⟩
              case measure => simp [intOf]; omega
            · have HN : Hid (dec 0 0 bs = ((dec 0 0 R).map fun l => unzig Zn :: l).map fun l => xs ++ l) := hid (by rw [HC.out, if_neg (by omega), if_neg h128])
              have e2 : decide (128 ≤ (m : Int)) = false := decide_eq_false (by omega)
              have hZm : Zn < 9223372036854775808 := by simp at hZb; omega
              clear HC
              by_cases hodd : Zn % 2 = 1
              · have HU : Hid (-((Zn : Int) / 2) - 1 = unzig Zn) := hid (by unfold unzig; rw [if_pos hodd]; omega)
                have hod2 : ((Zn : Int) % 2) = 1 := by omega
                have e3 : ((Zn : Int) % 2 == 1) = true := by simp [hod2]
                go_wp2_with (at_builtin; refine wpl_append_flat rfl (.tmp 50) (.tmp 52) rfl stInt' encInt_len encInt_one rfl (own.alloc _) rfl (litInts [unzig Zn] _ (flat_int _ _ HU.out) (by simp) 1 rfl) (by simp; omega) (by simp; omega) (by have := hkr.size; simp; omega) ?_; intro v3 w3 hown3 hgrow3 hat3 hnil3)
                have hk3 : Kp w1 w3 := Kp.grown (hkr.alloc _) hgrow3 own.ge
                go_roundw
                case rel => exact ⟨k + 1, 0, 0, xs ++ [unzig Zn], by omega, by go_num, rfl, rfl, by omega, by simp, by simp; omega, hown3, hid (by rw [HN.out, HRR.out]; cases dec 0 0 R <;> simp), hk3⟩
                case measure => simp [intOf]; omega
              · have HU : Hid ((Zn : Int) / 2 = unzig Zn) := hid (by unfold unzig; rw [if_neg hodd]; omega)
                have hod2 : ¬ ((Zn : Int) % 2) = 1 := by omega
                have e3 : ((Zn : Int) % 2 == 1) = false := by simpa using hod2
                go_wp2_with (at_builtin; refine wpl_append_flat rfl (.tmp 50) (.tmp 52) rfl stInt' encInt_len encInt_one rfl (own.alloc _) rfl (litInts [unzig Zn] _ (flat_int _ _ HU.out) (by simp) 1 rfl) (by simp; omega) (by simp; omega) (by have := hkr.size; simp; omega) ?_; intro v3 w3 hown3 hgrow3 hat3 hnil3)
                have hk3 : Kp w1 w3 := Kp.grown (hkr.alloc _) hgrow3 own.ge
                go_roundw
                case rel => exact ⟨k + 1, 0, 0, xs ++ [unzig Zn], by omega, by go_num, rfl, rfl, by omega, by simp, by simp; omega, hown3, hid (by rw [HN.out, HRR.out]; cases dec 0 0 R <;> simp), hk3⟩
                case measure => simp [intOf]; omega
        · have hor : bits .or .u64 (zn : Int) ((m : Int) % 128 * 4398046511104) = ((zn + m % 128 * 128 ^ 6 : Nat) : Int) := by
            have := bits_or_add zn (m % 128) 6 hzn (by simp; omega) (by omega)
            simpa using this
          have hZb : zn + m % 128 * 128 ^ 6 < 128 ^ (6 + 1) := by simp at hzn ⊢; omega
          by_cases hm0 : m = 0
          · subst hm0
            have HN : Hid (r = ([], 13)) := hid (by rw [HR.out, HC.out, if_pos (.inr ⟨by omega, rfl⟩)]; rfl)
            clear HC HR hor
            go_wp2
            go_ret2
            exact ⟨_, by rw [HN.out]; rfl, by rw [HN.out]; exact Own.nil _ _ _ _ _, hkw⟩
          · have em : ((m : Int) == 0) = false := by simp; omega
            generalize zn + m % 128 * 128 ^ 6 = Zn at *
            by_cases h128 : 128 ≤ m
            · have HN : Hid (dec 0 0 bs = (dec Zn (6 + 1) R).map fun l => xs ++ l) := hid (by rw [HC.out, if_neg (by omega), if_pos h128])
              have e2 : decide (128 ≤ (m : Int)) = true := decide_eq_true (by omega)
              clear HC
              go_wp2
              go_roundw
              case rel => exact ⟨k + 1, Zn, 6 + 1, xs, by omega, by go_num, rfl, rfl, by omega, hZb, by omega, own, hid (by rw [HN.out, HRR.out]), hkr⟩
              case measure => simp [intOf]; omega
            · have HN : Hid (dec 0 0 bs = ((dec 0 0 R).map fun l => unzig Zn :: l).map fun l => xs ++ l) := hid (by rw [HC.out, if_neg (by omega), if_neg h128])
              have e2 : decide (128 ≤ (m : Int)) = false := decide_eq_false (by omega)
              have hZm : Zn < 9223372036854775808 := by simp at hZb; omega
              clear HC
              by_cases hodd : Zn % 2 = 1
              · have HU : Hid (-((Zn : Int) / 2) - 1 = unzig Zn) := hid (by unfold unzig; rw [if_pos hodd]; omega)
                have hod2 : ((Zn : Int) % 2) = 1 := by omega
                have e3 : ((Zn : Int) % 2 == 1) = true := by simp [hod2]
                go_wp2_with (at_builtin; refine wpl_append_flat rfl (.tmp 50) (.tmp 52) rfl stInt' encInt_len encInt_one rfl (own.alloc _) rfl (litInts [unzig Zn] _ (flat_int _ _ HU.out) (by simp) 1 rfl) (by simp; omega) (by simp; omega) (by have := hkr.size; simp; omega) ?_; intro v3 w3 hown3 hgrow3 hat3 hnil3)
                have hk3 : Kp w1 w3 := Kp.grown (hkr.alloc _) hgrow3 own.ge
                go_roundw
                case rel => exact ⟨k + 1, 0, 0, xs ++ [unzig Zn], by omega, by go_num, rfl, rfl, by omega, by simp, by simp; omega, hown3, hid (by rw [HN.out, HRR.out]; cases dec 0 0 R <;> simp), hk3⟩
                case measure => simp [intOf]; omega
              · have HU : Hid ((Zn : Int) / 2 = unzig Zn) := hid (by unfold unzig; rw [if_neg hodd]; omega)
                have hod2 : ¬ ((Zn : Int) % 2) = 1 := by omega
                have e3 : ((Zn : Int) % 2 == 1) = false := by simpa using hod2
                go_wp2_with (at_builtin; refine wpl_append_flat rfl (.tmp 50) (.tmp 52) rfl stInt' encInt_len encInt_one rfl (own.alloc _) rfl (litInts [unzig Zn] _ (flat_int _ _ HU.out) (by simp) 1 rfl) (by simp; omega) (by simp; omega) (by have := hkr.size; simp; omega) ?_; intro v3 w3 hown3 hgrow3 hat3 hnil3)
                have hk3 : Kp w1 w3 := Kp.grown (hkr.alloc _) hgrow3 own.ge
                go_roundw
                case rel => exact ⟨k + 1, 0, 0, xs ++ [unzig Zn], by omega, by go_num, rfl, rfl, by omega, by simp, by simp; omega, hown3, hid (by rw [HN.out, HRR.out]; cases dec 0 0 R <;> simp), hk3⟩
                case measure => simp [intOf]; omega
        · have hor : bits .or .u64 (zn : Int) ((m : Int) % 128 * 562949953421312) = ((zn + m % 128 * 128 ^ 7 : Nat) : Int) := by
            have := bits_or_add zn (m % 128) 7 hzn (by simp; omega) (by omega)
            simpa using this
          have hZb : zn + m % 128 * 128 ^ 7 < 128 ^ (7 + 1) := by simp at hzn ⊢; omega
          by_cases hm0 : m = 0
          · subst hm0
            have HN : Hid (r = ([], 13)) := hid (by rw [HR.out, HC.out, if_pos (.inr ⟨by omega, rfl⟩)]; rfl)
            clear HC HR hor
            go_wp2
            go_ret2
            exact ⟨_, by rw [HN.out]; rfl, by rw [HN.out]; exact Own.nil _ _ _ _ _, hkw⟩
          · have em : ((m : Int) == 0) = false := by simp; omega
            generalize zn + m % 128 * 128 ^ 7 = Zn at *
            by_cases h128 : 128 ≤ m
            · have HN : Hid (dec 0 0 bs = (dec Zn (7 + 1) R).map fun l => xs ++ l) := hid (by rw [HC.out, if_neg (by omega), if_pos h128])
              have e2 : decide (128 ≤ (m : Int)) = true := decide_eq_true (by omega)
              clear HC
              go_wp2
              go_roundw
              case rel => exact ⟨k + 1, Zn, 7 + 1, xs, by omega, by go_num, rfl, rfl, by omega, hZb, by omega, own, hid (by rw [HN.out, HRR.out]), hkr⟩
              case measure => simp [intOf]; omega
            · have HN : Hid (dec 0 0 bs = ((dec 0 0 R).map fun l => unzig Zn :: l).map fun l => xs ++ l) := hid (by rw [HC.out, if_neg (by omega), if_neg h128])
              have e2 : decide (128 ≤ (m : Int)) = false := decide_eq_false (by omega)
              have hZm : Zn < 9223372036854775808 := by simp at hZb; omega
              clear HC
              by_cases hodd : Zn % 2 = 1
              · have HU : Hid (-((Zn : Int) / 2) - 1 = unzig Zn) := hid (by unfold unzig; rw [if_pos hodd]; omega)
                have hod2 : ((Zn : Int) % 2) = 1 := by omega
                have e3 : ((Zn : Int) % 2 == 1) = true := by simp [hod2]
                go_wp2_with (at_builtin; refine wpl_append_flat rfl (.tmp 50) (.tmp 52) rfl stInt' encInt_len encInt_one rfl (own.alloc _) rfl (litInts [unzig Zn] _ (flat_int _ _ HU.out) (by simp) 1 rfl) (by simp; omega) (by simp; omega) (by have := hkr.size; simp; omega) ?_; intro v3 w3 hown3 hgrow3 hat3 hnil3)
                have hk3 : Kp w1 w3 := Kp.grown (hkr.alloc _) hgrow3 own.ge
                go_roundw
                case rel => exact ⟨k + 1, 0, 0, xs ++ [unzig Zn], by omega, by go_num, rfl, rfl, by omega, by simp, by simp; omega, hown3, hid (by rw [HN.out, HRR.out]; cases dec 0 0 R <;> simp), hk3⟩
                case measure => simp [intOf]; omega
              · have HU : Hid ((Zn : Int) / 2 = unzig Zn) := hid (by unfold unzig; rw [if_neg hodd]; omega)
                have hod2 : ¬ ((Zn : Int) % 2) = 1 := by omega
                have e3 : ((Zn : Int) % 2 == 1) = false := by simpa using hod2
                go_wp2_with (at_builtin; refine wpl_append_flat rfl (.tmp 50) (.tmp 52) rfl stInt' encInt_len encInt_one rfl (own.alloc _) rfl (litInts [unzig Zn] _ (flat_int _ _ HU.out) (by simp) 1 rfl) (by simp; omega) (by simp; omega) (by have := hkr.size; simp; omega) ?_; intro v3 w3 hown3 hgrow3 hat3 hnil3)
                have hk3 : Kp w1 w3 := Kp.grown (hkr.alloc _) hgrow3 own.ge
                go_roundw
                case rel => exact ⟨k + 1, 0, 0, xs ++ [unzig Zn], by omega, by go_num, rfl, rfl, by omega, by simp, by simp; omega, hown3, hid (by rw [HN.out, HRR.out]; cases dec 0 0 R <;> simp), hk3⟩
                case measure => simp [intOf]; omega
        · have hor : bits .or .u64 (zn : Int) ((m : Int) % 128 * 72057594037927936) = ((zn + m % 128 * 128 ^ 8 : Nat) : Int) := by
            have := bits_or_add zn (m % 128) 8 hzn (by simp; omega) (by omega)
            simpa using this
          have hZb : zn + m % 128 * 128 ^ 8 < 128 ^ (8 + 1) := by simp at hzn ⊢; omega
          by_cases hm0 : m = 0
          · subst hm0
            have HN : Hid (r = ([], 13)) := hid (by rw [HR.out, HC.out, if_pos (.inr ⟨by omega, rfl⟩)]; rfl)
            clear HC HR hor
            go_wp2
            go_ret2
            exact ⟨_, by rw [HN.out]; rfl, by rw [HN.out]; exact Own.nil _ _ _ _ _, hkw⟩
          · have em : ((m : Int) == 0) = false := by simp; omega
            generalize zn + m % 128 * 128 ^ 8 = Zn at *
            by_cases h128 : 128 ≤ m
            · have HN : Hid (dec 0 0 bs = (dec Zn (8 + 1) R).map fun l => xs ++ l) := hid (by rw [HC.out, if_neg (by omega), if_pos h128])
              have e2 : decide (128 ≤ (m : Int)) = true := decide_eq_true (by omega)
              clear HC
              go_wp2
              go_roundw
              case rel => exact ⟨k + 1, Zn, 8 + 1, xs, by omega, by go_num, rfl, rfl, by omega, hZb, by omega, own, hid (by rw [HN.out, HRR.out]), hkr⟩
              case measure => simp [intOf]; omega
            · have HN : Hid (dec 0 0 bs = ((dec 0 0 R).map fun l => unzig Zn :: l).map fun l => xs ++ l) := hid (by rw [HC.out, if_neg (by omega), if_neg h128])
              have e2 : decide (128 ≤ (m : Int)) = false := decide_eq_false (by omega)
              have hZm : Zn < 9223372036854775808 := by simp at hZb; omega
              clear HC
              by_cases hodd : Zn % 2 = 1
              · have HU : Hid (-((Zn : Int) / 2) - 1 = unzig Zn) := hid (by unfold unzig; rw [if_pos hodd]; omega)
                have hod2 : ((Zn : Int) % 2) = 1 := by omega
                have e3 : ((Zn : Int) % 2 == 1) = true := by simp [hod2]
                go_wp2_with (at_builtin; refine wpl_append_flat rfl (.tmp 50) (.tmp 52) rfl stInt' encInt_len encInt_one rfl (own.alloc _) rfl (litInts [unzig Zn] _ (flat_int _ _ HU.out) (by simp) 1 rfl) (by simp; omega) (by simp; omega) (by have := hkr.size; simp; omega) ?_; intro v3 w3 hown3 hgrow3 hat3 hnil3)
                have hk3 : Kp w1 w3 := Kp.grown (hkr.alloc _) hgrow3 own.ge
                go_roundw
                case rel => exact ⟨k + 1, 0, 0, xs ++ [unzig Zn], by omega, by go_num, rfl, rfl, by omega, by simp, by simp; omega, hown3, hid (by rw [HN.out, HRR.out]; cases dec 0 0 R <;> simp), hk3⟩
                case measure => simp [intOf]; omega
              · have HU : Hid ((Zn : Int) / 2 = unzig Zn) := hid (by unfold unzig; rw [if_neg hodd]; omega)
                have hod2 : ¬ ((Zn : Int) % 2) = 1 := by omega
                have e3 : ((Zn : Int) % 2 == 1) = false := by simpa using hod2
                go_wp2_with (at_builtin; refine wpl_append_flat rfl (.tmp 50) (.tmp 52) rfl stInt' encInt_len encInt_one rfl (own.alloc _) rfl (litInts [unzig Zn] _ (flat_int _ _ HU.out) (by simp) 1 rfl) (by simp; omega) (by simp; omega) (by have := hkr.size; simp; omega) ?_; intro v3 w3 hown3 hgrow3 hat3 hnil3)
                have hk3 : Kp w1 w3 := Kp.grown (hkr.alloc _) hgrow3 own.ge
                go_roundw
                case rel => exact ⟨k + 1, 0, 0, xs ++ [unzig Zn], by omega, by go_num, rfl, rfl, by omega, by simp, by simp; omega, hown3, hid (by rw [HN.out, HRR.out]; cases dec 0 0 R <;> simp), hk3⟩
                case measure => simp [intOf]; omega
        · have HN : Hid (r = ([], 13)) := hid (by rw [HR.out, HC.out, if_pos (.inl rfl)]; rfl)
          clear HC HR
          go_wp2
          go_ret2
          exact ⟨_, by rw [HN.out]; rfl, by rw [HN.out]; exact Own.nil _ _ _ _ _, hkw⟩
      · have HE : Hid (dec 0 0 bs = (dec zn sn []).map fun l => xs ++ l) := hid (by rw [HB.out, List.drop_of_length_le (by omega)])
        clear HB
        by_cases hs0 : sn = 0
        · subst hs0
          have HN : Hid (r = (xs, 0)) := hid (by rw [HR.out, HE.out]; simp [dec, decO])
          clear HR HE
          go_wp2
          go_ret2
          exact ⟨_, by rw [HN.out]; rfl, by rw [HN.out]; exact own.less hk1.size, hkw⟩
        · have HN : Hid (r = ([], 13)) := hid (by rw [HR.out, HE.out]; simp [dec, decO, hs0])
          clear HR HE
          have e0 : decide (0 < 7 * (sn : Int)) = true := decide_eq_true (by omega)
          go_wp2
          go_ret2
          exact ⟨_, by rw [HN.out]; rfl, by rw [HN.out]; exact Own.nil _ _ _ _ _, hkw⟩
end Go.Proofs.Ytmokpnkpfodppaa
