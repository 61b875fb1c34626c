
/-
The reference: the integers of bytes.
-/
import Derived.Test.YtmeafoakbkjifaaCodS1
import Derived.Test.YtmeafoakbkjifaaByte2
namespace Go.Proofs.Ytmeafoakbkjifaa
set_option linter.unusedSimpArgs false
set_option linter.unusedVariables false
open Go.RowKit

/-- where a run of digits that go on ends -/
theorem run_split (L : List UInt8) : ∃ (D R : List UInt8), L = D ++ R ∧ (∀ b ∈ D, 128 ≤ b.toNat) ∧ (R = [] ∨ ∃ c R', R = c :: R' ∧ c.toNat < 128) := by
  induction L with
  | nil => exact ⟨[], [], rfl, by simp, .inl rfl⟩
  | cons x L ih =>
    by_cases hx : 128 ≤ x.toNat
    · obtain ⟨D, R, rfl, h1, h2⟩ := ih
      exact ⟨x :: D, R, rfl, by simpa [hx] using h1, h2⟩
    · exact ⟨[], x :: L, rfl, by simp, .inr ⟨x, L, rfl, by omega⟩⟩
set_option maxRecDepth 100000 in
set_option maxHeartbeats 4000000 in
theorem rDecode_any (bs : List UInt8) (w : World) : Calls Try.prog 15 #[strV bs] w fun e w' => ∃ v, e = retD v (decE bs).2 ∧ Own encInt 3 1 w.heap.size w' v (decE bs).1 ∧ Kp w w' := by
  have HD : Hid (decE bs = if 65536 < bs.length then ([], 8) else decO (dec 0 0 bs)) := hid rfl
  generalize decE bs = r at *
  have hsz : (⟨bs.toArray⟩ : ByteArray).size = bs.length := by simp [ByteArray.size]
  by_cases hbig : 65536 < bs.length
  · have HR : Hid (r = ([], 8)) := hid (by rw [HD.out, if_pos hbig])
    go_enter Try.func15, Try.ntmps15
    go_wp2
    go_ret2
    exact ⟨_, by rw [HR.out]; rfl, by rw [HR.out]; exact Own.nil _ _ _ _ _, Kp.refl _⟩
  · have HR : Hid (r = decO (dec 0 0 bs)) := hid (by rw [HD.out, if_neg hbig])
    clear HD
    go_enter Try.func15, Try.ntmps15
    go_wp2
    go_loopw [4, 5] (fun v i wr => ∃ (k : Nat) (xs : List Int), k ≤ bs.length ∧ i = .int .i64 k ∧ xs.length ≤ k ∧ Own encInt 3 1 w.heap.size wr v xs ∧ Hid (dec 0 0 bs = (dec 0 0 (bs.drop k)).map fun l => xs ++ l) ∧ Kp w wr) (fun _ i _ => bs.length - (intOf i).toNat)
    case atStart => exact ⟨0, [], Nat.zero_le _, rfl, Nat.le_refl _, Own.nil _ _ _ _ _, hid (by simp), Kp.refl _⟩
    case round =>
      obtain ⟨k, xs, hk, rfl, hxs, own, HB, hkr⟩ := hrel
      obtain ⟨A1, c1, rfl, hc1, hm1⟩ := own.form
      by_cases hlt : k < bs.length
      · obtain ⟨D, R, hDR, hD, hR⟩ := run_split (bs.drop k)
        have hlen : bs.length = k + (D.length + R.length) := by
          have := congrArg List.length hDR
          rw [List.length_drop, List.length_append] at this
          omega
        have hat : ∀ j (hj : j < (D ++ R).length), ∃ h, (⟨bs.toArray⟩ : ByteArray)[k + j]'h = (D ++ R)[j] := fun j hj => by
          rw [List.length_append] at hj
          refine ⟨by rw [hsz]; omega, ?_⟩
          have h1 : (bs.drop k)[j]'(by rw [List.length_drop]; omega) = (D ++ R)[j]'(by rw [List.length_append]; exact hj) := by simp only [hDR]
          rw [List.getElem_drop] at h1
          rw [← h1]
          rfl
        have HDR := hid hDR
        have HL := hid hlen
        have HAT := hid hat
        have hgb : (k : Int) < (bs.length : Int) := by omega
        clear hDR hlen hat
        go_wp2
        go_loopw [6] (fun i wi => ∃ e : Nat, k ≤ e ∧ e ≤ k + D.length ∧ i = .int .i64 e ∧ wi = wr) (fun i _ => k + D.length - (intOf i).toNat)
        case atStart => exact ⟨k, Nat.le_refl _, by omega, rfl, rfl⟩
        case round =>
          obtain ⟨e, he1, he2, rfl, rfl⟩ := hrel
          by_cases hin : e < k + D.length
          · have hel : e < bs.length := by have := HL.out; omega
            have hix : ∃ (h : e < (⟨bs.toArray⟩ : ByteArray).size) (x : UInt8), (⟨bs.toArray⟩ : ByteArray)[e]'h = x ∧ 128 ≤ x.toNat := by
              obtain ⟨h, h2⟩ := HAT.out (e - k) (by rw [List.length_append]; omega)
              have hee : k + (e - k) = e := by omega
              refine ⟨by rw [hsz]; exact hel, D[e - k]'(by omega), ?_, hD _ (List.getElem_mem _)⟩
              rw [List.getElem_append_left (by omega)] at h2
              rw [← h2]
              congr 1
              exact hee.symm
            obtain ⟨h, x, hix, hx⟩ := hix
            have e2 : decide (128 ≤ (x.toNat : Int)) = true := decide_eq_true (by omega)
            go_wp2
            go_roundw
            case rel => exact ⟨e + 1, by omega, by omega, by go_num, by first | rfl | trivial⟩
            case measure => simp [intOf]; omega
          · have he : e = k + D.length := by omega
            have HEq := hid he
            clear hin he2
            rcases hR with rfl | ⟨c, R', rfl, hc⟩
            · have hel : e = bs.length := by have := HL.out; simp at this; omega
              have HN : Hid (r = ([], 13)) := hid (by
                rw [HR.out, HB.out, HDR.out, List.append_nil, dec_short hD (by have := HL.out; simp at this; omega)]
                rfl)
              have e2 : ((e : Int) == (bs.length : Int)) = true := by simp [hel]
              have e3 : decide ((e : Int) < (bs.length : Int)) = false := decide_eq_false (by omega)
              clear he HEq
              go_wp2
              go_ret2
              exact ⟨_, by rw [HN.out]; rfl, by rw [HN.out]; exact Own.nil _ _ _ _ _, hkr⟩
            · have hel : e < bs.length := by have := HL.out; simp at this; omega
              have hix : ∃ (h : e < (⟨bs.toArray⟩ : ByteArray).size), (⟨bs.toArray⟩ : ByteArray)[e]'h = c := by
                obtain ⟨h, h2⟩ := HAT.out D.length (by simp)
                refine ⟨by rw [hsz]; exact hel, ?_⟩
                rw [List.getElem_append_right (Nat.le_refl _)] at h2
                simp only [Nat.sub_self, List.getElem_cons_zero] at h2
                rw [← h2]
                congr 1
              obtain ⟨h, hix⟩ := hix
              have HTok := hid (dec_token (r := R') hD hc)
              have e1 : decide (128 ≤ (c.toNat : Int)) = false := decide_eq_false (by omega)
              have e2 : ((e : Int) == (bs.length : Int)) = false := by simp; omega
              by_cases h8 : 8 < D.length
              · have HN : Hid (r = ([], 13)) := hid (by rw [HR.out, HB.out, HDR.out, HTok.out, if_pos (.inl h8)]; rfl)
                have e3 : decide ((8 : Int) < (e : Int) - (k : Int)) = true := decide_eq_true (by omega)
                clear he HEq
                go_wp2
                go_ret2
                exact ⟨_, by rw [HN.out]; rfl, by rw [HN.out]; exact Own.nil _ _ _ _ _, hkr⟩
              · have e3 : decide ((8 : Int) < (e : Int) - (k : Int)) = false := decide_eq_false (by omega)
                by_cases hz : 0 < D.length ∧ c.toNat = 0
                · have HN : Hid (r = ([], 13)) := hid (by rw [HR.out, HB.out, HDR.out, HTok.out, if_pos (.inr hz)]; rfl)
                  have e4 : decide ((k : Int) < (e : Int)) = true := decide_eq_true (by omega)
                  have e4n : decide (k < e) = true := decide_eq_true (by omega)
                  have e5 : ((c.toNat : Int) == 0) = true := by simp [hz.2]
                  have e5n : (c.toNat == 0) = true := by simp [hz.2]
                  clear he HEq
                  go_wp2
                  go_ret2
                  exact ⟨_, by rw [HN.out]; rfl, by rw [HN.out]; exact Own.nil _ _ _ _ _, hkr⟩
                · have HN : Hid (dec 0 0 bs = ((dec 0 0 R').map fun l => unzig (val (D ++ [c])) :: l).map fun l => xs ++ l) := hid (by rw [HB.out, HDR.out, HTok.out, if_neg (by omega)])
                  have hRd : bs.drop (e + 1) = R' := by
                    have h1 : bs.drop (e + 1) = (bs.drop k).drop (D.length + 1) := by rw [List.drop_drop]; congr 1; omega
                    rw [h1, HDR.out, List.drop_append]
                    simp
                  have HRd := hid hRd
                  clear hRd HTok
                  have hgo : (decide ((k : Int) < (e : Int)) = false ∧ decide (k < e) = false) ∨ ((decide ((k : Int) < (e : Int)) = true ∧ decide (k < e) = true) ∧ ((c.toNat : Int) == 0) = false ∧ (c.toNat == 0) = false) := by
                    by_cases hk0 : D.length = 0
                    · exact .inl ⟨decide_eq_false (by omega), decide_eq_false (by omega)⟩
                    · exact .inr ⟨⟨decide_eq_true (by omega), decide_eq_true (by omega)⟩, by simp; omega, by simp; omega⟩
                  rcases hgo with ⟨e4, e4n⟩ | ⟨⟨e4, e4n⟩, e5, e5n⟩
                  all_goals
                    clear he
                    go_wp2
                    go_loopw [7, 8] (fun zv iv wi => ∃ (j : Nat) (ii : Int), k ≤ j ∧ j ≤ k + D.length + 1 ∧ ii = (j : Int) - 1 ∧ iv = .int .i64 ii ∧ zv = .int .u64 ((val ((D ++ [c]).drop (j - k)) : Nat) : Int) ∧ wi = wr) (fun _ iv _ => (intOf iv + 1).toNat)
                    case atStart => exact ⟨e + 1, _, by omega, by have := HEq.out; omega, by omega, rfl, by have := HEq.out; rw [List.drop_of_length_le (by simp; omega)]; rfl, rfl⟩
                    case round =>
                      obtain ⟨j, ii, hj1, hj2, hii, rfl, rfl, rfl⟩ := hrel
                      have hvl := val_lt ((D ++ [c]).drop (j - k))
                      have hpw : 128 ^ ((D ++ [c]).drop (j - k)).length ≤ 128 ^ (D.length + 1 - (j - k)) := Nat.le_of_eq (by congr 1; simp)
                      by_cases hjk : k < j
                      · obtain ⟨i, rfl⟩ : ∃ i, j = i + 1 := ⟨j - 1, by omega⟩
                        obtain rfl : ii = (i : Int) := by omega
                        clear hii
                        have hel2 : i < bs.length := by have := HL.out; simp at this; omega
                        have hpl : i - k < (D ++ [c]).length := by simp; omega
                        have hiy : ∃ (h : i < (⟨bs.toArray⟩ : ByteArray).size) (y : UInt8), (⟨bs.toArray⟩ : ByteArray)[i]'h = y ∧ (D ++ [c]).drop (i - k) = y :: (D ++ [c]).drop (i + 1 - k) := by
                          obtain ⟨h, h2⟩ := HAT.out (i - k) (by simp; omega)
                          refine ⟨by rw [hsz]; exact hel2, (D ++ [c])[i - k], ?_, ?_⟩
                          · have h3 : (D ++ c :: R')[i - k]'(by simp; omega) = (D ++ [c])[i - k] := by
                              have h4 : D ++ c :: R' = (D ++ [c]) ++ R' := by simp
                              simp only [h4]
                              rw [List.getElem_append_left hpl]
                            rw [← h3, ← h2]
                            congr 1
                            omega
                          · rw [List.drop_eq_getElem_cons hpl]
                            congr 2
                            omega
                        obtain ⟨h', y, hiy, hdr⟩ := hiy
                        have HV : Hid (val ((D ++ [c]).drop (i - k)) = y.toNat % 128 + 128 * val ((D ++ [c]).drop (i + 1 - k))) := hid (by rw [hdr]; rfl)
                        have hb9 : val ((D ++ [c]).drop (i + 1 - k)) < 72057594037927936 := Nat.lt_of_lt_of_le hvl (Nat.le_trans hpw (by have := Nat.pow_le_pow_right (n := 128) (by omega) (show D.length + 1 - (i + 1 - k) ≤ 8 by omega); simpa using this))
                        generalize val ((D ++ [c]).drop (i + 1 - k)) = Z at *
                        have e6 : decide ((k : Int) ≤ (i : Int)) = true := decide_eq_true (by omega)
                        clear hdr hix hvl hpw
                        go_wp2
                        go_roundw
                        case rel => exact ⟨i, _, by omega, by omega, rfl, by go_num, by rw [HV.out]; congr 1; omega, by first | rfl | trivial⟩
                        case measure => simp [intOf]
                      · obtain rfl : j = k := by omega
                        have e6 : decide ((j : Int) ≤ ii) = false := decide_eq_false (by omega)
                        have hvq : (D ++ [c]).drop (j - j) = D ++ [c] := by simp
                        rw [hvq] at hvl ⊢
                        have hZm : val (D ++ [c]) < 9223372036854775808 := Nat.lt_of_lt_of_le hvl (by have := Nat.pow_le_pow_right (n := 128) (by omega) (show (D ++ [c]).length ≤ 9 by simp; omega); simpa using this)
                        clear hvl hpw hvq hix
                        generalize val (D ++ [c]) = Zn at *
                        by_cases hodd : Zn % 2 = 1
                        · have HU : Hid (-((Zn : Int) / 2) - 1 = unzig Zn) := hid (by unfold unzig; rw [if_pos hodd]; omega)
                          have hod2 : ((Zn : Int) % 2) = 1 := by omega
                          have e7 : ((Zn : Int) % 2 == 1) = true := by simp [hod2]
                          go_wp2_with (at_builtin; refine wpl_append_flat rfl (.tmp 74) (.tmp 76) rfl stInt' encInt_len encInt_one rfl (own.alloc _) rfl (litInts [unzig Zn] _ (flat_int _ _ HU.out) (by simp) 1 rfl) (by simp; omega) (by simp; omega) (by have := hkr.size; simp; omega) ?_; intro v3 w3 hown3 hgrow3 hat3 hnil3)
                          have hk3 : Kp w w3 := Kp.grown (hkr.alloc _) hgrow3 own.ge
                          go_roundw
                          case rel => exact ⟨e + 1, xs ++ [unzig Zn], by omega, by go_num, by simp; omega, hown3, hid (by rw [HN.out, HRd.out]; cases dec 0 0 R' <;> simp), hk3⟩
                          case measure => simp [intOf]; omega
                        · have HU : Hid ((Zn : Int) / 2 = unzig Zn) := hid (by unfold unzig; rw [if_neg hodd]; omega)
                          have hod2 : ¬ ((Zn : Int) % 2) = 1 := by omega
                          have e7 : ((Zn : Int) % 2 == 1) = false := by simpa using hod2
                          go_wp2_with (at_builtin; refine wpl_append_flat rfl (.tmp 74) (.tmp 76) rfl stInt' encInt_len encInt_one rfl (own.alloc _) rfl (litInts [unzig Zn] _ (flat_int _ _ HU.out) (by simp) 1 rfl) (by simp; omega) (by simp; omega) (by have := hkr.size; simp; omega) ?_; intro v3 w3 hown3 hgrow3 hat3 hnil3)
                          have hk3 : Kp w w3 := Kp.grown (hkr.alloc _) hgrow3 own.ge
                          go_roundw
                          case rel => exact ⟨e + 1, xs ++ [unzig Zn], by omega, by go_num, by simp; omega, hown3, hid (by rw [HN.out, HRd.out]; cases dec 0 0 R' <;> simp), hk3⟩
                          case measure => simp [intOf]; omega
      · have HF : Hid (r = (xs, 0)) := hid (by rw [HR.out, HB.out, List.drop_of_length_le (by omega)]; simp [dec, decO])
        go_wp2
        go_ret2
        exact ⟨_, by rw [HF.out]; rfl, by rw [HF.out]; exact own, hkr⟩
end Go.Proofs.Ytmeafoakbkjifaa
