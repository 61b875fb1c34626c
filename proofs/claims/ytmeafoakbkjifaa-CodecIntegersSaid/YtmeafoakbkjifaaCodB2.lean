
/-
The bytes of integers, as the code makes them.
-/
import Derived.Test.YtmeafoakbkjifaaCodB1
import Derived.Laws.IdiomStrings
import Derived.Laws.BytesArg
import Derived.Deep.MidRow
namespace Go.Proofs.Ytmeafoakbkjifaa
set_option linter.unusedSimpArgs false
set_option linter.unusedVariables false
open Go.RowKit

abbrev strV (l : List UInt8) : Value := .string ⟨l.toArray⟩
theorem bytes_str {w : World} {v : Value} {l : List UInt8} (h : Bytes w v l) : (convert 90 9 v).run Try.prog w = .ok (strV l) w := by
  obtain ⟨A, c, rfl, hc, hm⟩ := h.form
  cases l with
  | nil =>
    cases A with
    | none => exact run_convert_bytes_nil w 90 5 Try.underlying90 Try.underlying5 0 c 9 Try.underlying9
    | some a => exact run_convert_bytes_back w 90 9 5 a c [] Try.underlying90 Try.underlying5 Try.underlying9 (fun j hj => by simp at hj)
  | cons x l =>
    obtain ⟨b, o, cs, rfl, -, -, -, -⟩ := h.at_ (k := 0) (by simp)
    refine run_convert_bytes_back w 90 9 5 ⟨b, o, none⟩ c (x :: l) Try.underlying90 Try.underlying5 Try.underlying9 (fun j hj => ?_)
    obtain ⟨b', o', cs, hA, -, -, h2, h3⟩ := h.at_ hj
    injection hA with hA
    injection hA with e1 e2 _
    subst e1 e2
    unfold Pl encByte at h3
    subst h3
    have := h2 0 _ rfl
    rw [Addr.add_mid]
    simpa using this
theorem wpl_str {ops : Array Oper} {rest : List Oper} {o : Oper} {a : Act} {Q : Exit → Act → World → Prop} {w : World} {v : Value} {l : List UInt8} (hgd : o.guard = none) (x : Operand) (ho : o.op = .convert 90 9 x)
    (hx : a.eval x = v) (hb : Bytes w v l) (h : wpList Try.prog ops Q rest (a.put o.dst (strV l)) w) : wpList Try.prog ops Q (o :: rest) a w := by
  refine wpList_plain hgd fun K hK => ?_
  unfold Oper.wp execOp
  simp only [ho, hx, Sem.run_bind, bytes_str hb, Sem.run_pure, Result.andThen_ok]
  exact hK _ _ h
/-- which integers cannot be written -/
def outI (n : Int) : Bool := decide (n < -4611686018427387904) || decide (4611686018427387903 < n)
theorem outI_ok {n : Int} (h : outI n = false) : OkI n := by
  unfold outI at h
  unfold OkI
  simp only [Bool.or_eq_false_iff, decide_eq_false_iff_not] at h
  omega
/-- what is answered when integers are written: the bytes and the error -/
def encE (l : List Int) : List UInt8 × Int := if l.any outI then ([], 2) else if 65536 < (encB l).length then ([], 8) else (encB l, 0)
theorem Encode1_any (x : Int) (w : World) : Calls Try.prog 43 #[.int .i64 x] w fun e w' => e = .returned (.bool (outI x)) ∧ Kp w w' := by
  unfold outI
  by_cases h : x < -4611686018427387904
  · have h1 : decide (x < -4611686018427387904) = true := decide_eq_true h
    go_enter Try.func43, Try.ntmps43
    go_wp2
    go_ret
    exact ⟨ret_bool (by simp [h]), (by repeat (first | assumption | exact Kp.refl _ | apply Kp.alloc | apply Kp.drew | apply Kp.drewN))⟩
  · have h1 : decide (x < -4611686018427387904) = false := decide_eq_false h
    by_cases h2 : 4611686018427387903 < x
    · have h3 : decide (4611686018427387903 < x) = true := decide_eq_true h2
      go_enter Try.func43, Try.ntmps43
      go_wp2
      go_ret
      exact ⟨ret_bool (by simp [h, h2]), (by repeat (first | assumption | exact Kp.refl _ | apply Kp.alloc | apply Kp.drew | apply Kp.drewN))⟩
    · have h3 : decide (4611686018427387903 < x) = false := decide_eq_false h2
      go_enter Try.func43, Try.ntmps43
      go_wp2
      go_ret
      exact ⟨ret_bool (by simp [h, h2]), (by repeat (first | assumption | exact Kp.refl _ | apply Kp.alloc | apply Kp.drew | apply Kp.drewN))⟩
theorem Encode1_real : Real Try.prog 43 := ⟨_, Try.func43, by kernel_rfl, by kernel_rfl⟩
abbrev retE (r : List UInt8 × Int) : Ending := .returned (.tuple #[strV r.1, .int .i64 r.2])
theorem encB_take (l : List Int) (k : Nat) (h : k < l.length) : encB (l.take (k + 1)) = encB (l.take k) ++ digs (zig l[k]) := by
  rw [take_snoc' l k h, encB_append]
  simp [encB]
theorem encB_take_le (l : List Int) (k : Nat) : (encB (l.take k)).length ≤ (encB l).length := by
  have : encB l = encB (l.take k) ++ encB (l.drop k) := by rw [← encB_append, List.take_append_drop]
  rw [this, List.length_append]
  omega
set_option maxRecDepth 8000 in
set_option maxHeartbeats 1000000 in
theorem Encode_any (v : Value) (l : List Int) (w : World) (hl : Ints w v l) :
    Calls Try.prog 12 #[v] w fun e w' => e = retE (encE l) ∧ Kp w w' := by
  obtain ⟨A, c, rfl, hc, hm⟩ := hl.form
  by_cases hout : l.any outI = true
  · have HF : Hid (encE l = ([], 2)) := hid (by unfold encE; rw [if_pos hout])
    have HO := hid hout
    clear hout
    go_enter Try.func12, Try.ntmps12
    go_wp2_with fail
    refine (ContainsFuncI_any outI 43 [] _ l _ hl Encode1_real (fun w' r _ => Encode1_any r w')).mono ?_
    rintro e w1 ⟨rfl, hk1⟩
    rw [HO.out]
    go_wp2
    go_ret2
    exact ⟨by rw [HF.out]; rfl, hk1⟩
  · have hok : ∀ n ∈ l, OkI n := fun n hn => outI_ok (by
      by_cases h : outI n = true
      · exact absurd (List.any_eq_true.2 ⟨n, hn, h⟩) hout
      · simpa using h)
    have HE : Hid (encE l = if 65536 < (encB l).length then ([], 8) else (encB l, 0)) := hid (by unfold encE; rw [if_neg hout])
    have HO : Hid (l.any outI = false) := hid (by simpa using hout)
    clear hout
    generalize encE l = r at *
    go_enter Try.func12, Try.ntmps12
    go_wp2_with fail
    refine (ContainsFuncI_any outI 43 [] _ l _ hl Encode1_real (fun w' r _ => Encode1_any r w')).mono ?_
    rintro e w1 ⟨rfl, hk1⟩
    rw [HO.out]
    have hl1 := hl.keep (pl_stable _) hk1
    go_wp2
    go_loopw [4, 11] (fun v i wr => ∃ k : Nat, k ≤ l.length ∧ i = .int .i64 k ∧ Own encByte 5 1 w.heap.size wr v (encB (l.take k)) ∧ (encB (l.take k)).length ≤ 65536 ∧ Kp w wr) (fun _ i _ => l.length - (intOf i).toNat)
    case atStart => exact ⟨0, Nat.zero_le _, rfl, Own.nil _ _ _ _ _, by simp [encB], hk1⟩
    case round =>
      clear hk1 hl1
      obtain ⟨k, hkl, rfl, own, hlen, hk⟩ := hrel
      obtain ⟨A1, c1, rfl, hc1, hm1⟩ := own.form
      have hlr := hl.keep (pl_stable _) hk
      by_cases hlt : k < l.length
      · obtain ⟨b, o, rfl, hb, h1⟩ := hlr.ints hlt
        have HT := hid (encB_take l k hlt)
        have hnk := hok l[k] (by simp)
        have HN := hid (digs_nine hnk)
        have HL := hid (encB_take_le l (k + 1))
        generalize l[k] = n at *
        clear hlr
        go_wp2_with fail
        refine (digits_any n _ hnk).mono ?_
        rintro e w2 ⟨v2, rfl, own2, hk2⟩
        have own1 := own.kp hk2
        have own2' := own2.sl encByte_len
        clear own
        have hN := HN.out
        have hkk := hk.trans hk2
        generalize digs (zig n) = D at *
        generalize encB (l.take k) = T at *
        obtain ⟨A2, c2, rfl, hc2, hm2⟩ := own2.form
        clear own2 hnk
        have hTL := hid (show (T ++ D).length = T.length + D.length from List.length_append)
        by_cases hbig : 65536 < T.length + D.length
        · have HF : Hid (r = ([], 8)) := hid (by
            have := HL.out
            rw [HT.out, List.length_append] at this
            rw [HE.out, if_pos (by omega)])
          have hbd : decide ((65536 : Int) < (T.length : Int) + (D.length : Int)) = true := decide_eq_true (by omega)
          go_wp2_with (at_builtin; refine wpl_append_flat rfl (.tmp 15) (.tmp 17) rfl stBytes encByte_len encByte_one rfl own1 rfl own2' (by omega) (by omega) hkk.size ?_; intro v3 w3 hown3 hgrow3 hat3 hnil3; obtain ⟨A3, c3, rfl, hc3, hm3⟩ := hown3.form)
          have hk3 : Kp w w3 := Kp.grown hkk hgrow3 own1.ge
          go_ret2
          exact ⟨by rw [HF.out]; rfl, hk3⟩
        · have hbd : decide ((65536 : Int) < (T.length : Int) + (D.length : Int)) = false := decide_eq_false (by omega)
          go_wp2_with (at_builtin; refine wpl_append_flat rfl (.tmp 15) (.tmp 17) rfl stBytes encByte_len encByte_one rfl own1 rfl own2' (by omega) (by omega) hkk.size ?_; intro v3 w3 hown3 hgrow3 hat3 hnil3; obtain ⟨A3, c3, rfl, hc3, hm3⟩ := hown3.form)
          have hk3 : Kp w w3 := Kp.grown hkk hgrow3 own1.ge
          go_roundw
          case rel => exact ⟨k + 1, by omega, by go_num, by rw [HT.out]; simpa using hown3, by rw [HT.out, hTL.out]; omega, hk3⟩
          case measure => simp [intOf]; omega
      · have HF : Hid (l.take k = l) := hid (List.take_of_length_le (by omega))
        have HR : Hid (r = (encB l, 0)) := hid (by
          rw [HF.out] at hlen
          rw [HE.out, if_neg (by omega)])
        have ob := own.sl encByte_len
        clear own
        go_wp2_with (refine wpl_str rfl (.tmp 23) rfl rfl ob ?_)
        go_ret2
        exact ⟨by rw [HR.out, HF.out]; rfl, hk⟩
end Go.Proofs.Ytmeafoakbkjifaa
