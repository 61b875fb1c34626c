/-
The bytes of an integer, as the code makes them.
The bytes of integers, as the code makes them.
What is answered when an event, a base, a message, a record is written.
What is answered when a list of records is written.
-/
import Derived.Test.YtmokpnkpfodppaaWC
import Derived.Test.YtmokpnkpfodppaaByte1
import Derived.Laws.IdiomStrings
import Derived.Laws.BytesArg
import Derived.Deep.MidRow
namespace Go.Proofs.Ytmokpnkpfodppaa
set_option linter.unusedSimpArgs false
set_option linter.unusedVariables false
open Go.RowKit

def encByte (b : UInt8) : List Value := [.int .u8 (b.toNat : Int)]
theorem encByte_len (n : UInt8) : (encByte n).length = 1 := rfl
theorem encByte_one (n : UInt8) : ∀ u ∈ encByte n, u.oneCell' = true := by simp [encByte, Value.oneCell']
abbrev Bytes := Sl (Pl encByte) 1
theorem stBytes : SliceT Try.prog 163 5 1 1 := SliceT.mk' Try.underlying163 (z := .int .u8 0) (by kernel_rfl) rfl (by omega)
/-- a fresh slice of bytes -/
theorem litBytes {w : World} (l : List UInt8) (cs : Array Value) (h : cs.toList = flat encByte l) (hl : l.length ≤ 1000) (n : Nat) (hn : n = l.length) : Bytes (w.alloc (.cells cs 5)) (.slice (some ⟨w.heap.size, 0, none⟩) n n) l := by
  subst hn
  have hs : cs.size = l.length * 1 := by
    have := flat_length encByte_len l
    rw [← h] at this
    simpa using this
  exact (Own.lit (base := w.heap.size) encByte w cs l (Nat.le_refl _) (by omega) hs h).sl encByte_len
theorem flat_byte (b : UInt8) (x : Int) (h : x = (b.toNat : Int)) : (#[Value.int .u8 x] : Array Value).toList = flat encByte [b] := by subst h; rfl
set_option maxRecDepth 8000 in
set_option maxHeartbeats 1000000 in
theorem digits_any (n : Int) (w : World) (hn : OkI n) :
    Calls Try.prog 90 #[.int .i64 n] w fun e w' => ∃ v, e = .returned v ∧ Own encByte 5 1 w.heap.size w' v (digs (zig n)) ∧ Kp w w' := by
  have hlen := hid (digs_nine hn)
  obtain ⟨hn1, hn2⟩ := hn
  by_cases h0 : n < 0
  case pos =>
    have hz : zig n = 2 * (-(n + 1)).toNat + 1 := by unfold zig; rw [if_pos h0]
    generalize zig n = z0 at *
    go_enter Try.func90, Try.ntmps90
    go_wp2
    go_loopw [3, 4] (fun zv v wr => ∃ (zn : Nat) (D : List UInt8), zv = .int .u64 (zn : Int) ∧ zn < 9223372036854775808 ∧ Own encByte 5 1 w.heap.size wr v D ∧ Hid (digs z0 = D ++ digs zn) ∧ Kp w wr) (fun zv _ _ => (intOf zv).toNat)
    case atStart => exact ⟨z0, [], by congr 1; omega, by omega, Own.nil _ _ _ _ _, rfl, (by repeat (first | assumption | exact Kp.refl _ | apply Kp.alloc | apply Kp.drew | apply Kp.drewN))⟩
    case round =>
      clear hz
      obtain ⟨zn, D, rfl, hzn, own, HD, hk⟩ := hrel
      have hL : D.length + (digs zn).length ≤ 9 := by
        have := hlen.out
        rw [HD.out, List.length_append] at this
        exact this
      have hp := digs_pos zn
      have hL2 : D.length ≤ 8 := by omega
      clear hL hp
      obtain ⟨A, c, rfl, hc, hm⟩ := own.form
      by_cases hlt : zn < 128
      · have HG := hid (digs_lt hlt)
        have HB := hid (nat_byte (z := zn) (by omega))
        go_wp2_with (at_builtin; refine wpl_append_flat rfl (.tmp 27) (.tmp 30) rfl stBytes encByte_len encByte_one rfl (own.alloc _) rfl (litBytes [UInt8.ofNat zn] _ (flat_byte _ _ ?hb) (by simp) 1 rfl) (by simp; omega) (by simp; omega) (by have := hk.size; simp; omega) ?_; rotate_left; intro v1 w1 hown1 hgrow1 hat1 hnil1)
        case hb => rw [HB.out]
        have k1 : Kp w w1 := Kp.grown (hk.alloc _) hgrow1 own.ge
        go_ret
        exact ⟨_, rfl, by rw [HD.out, HG.out]; exact hown1, k1⟩
      · have HG := hid (digs_ge hlt)
        have HB := hid (nat_byte (z := zn % 128 + 128) (by omega))
        go_wp2_with (at_builtin; refine wpl_append_flat rfl (.tmp 18) (.tmp 23) rfl stBytes encByte_len encByte_one rfl (own.alloc _) rfl (litBytes [UInt8.ofNat (zn % 128 + 128)] _ (flat_byte _ _ ?hb) (by simp) 1 rfl) (by simp; omega) (by simp; omega) (by have := hk.size; simp; omega) ?_; rotate_left; intro v1 w1 hown1 hgrow1 hat1 hnil1)
        case hb => rw [HB.out]; omega
        have k1 : Kp w w1 := Kp.grown (hk.alloc _) hgrow1 own.ge
        go_roundw
        case rel => exact ⟨zn / 128, _, by congr 1, by omega, hown1, hid (by rw [HD.out, HG.out]; simp), k1⟩
        case measure => simp [intOf]; omega
  case neg =>
    have hz : zig n = 2 * n.toNat := by unfold zig; rw [if_neg h0]
    generalize zig n = z0 at *
    go_enter Try.func90, Try.ntmps90
    go_wp2
    go_loopw [3, 4] (fun zv v wr => ∃ (zn : Nat) (D : List UInt8), zv = .int .u64 (zn : Int) ∧ zn < 9223372036854775808 ∧ Own encByte 5 1 w.heap.size wr v D ∧ Hid (digs z0 = D ++ digs zn) ∧ Kp w wr) (fun zv _ _ => (intOf zv).toNat)
    case atStart => exact ⟨z0, [], by congr 1; omega, by omega, Own.nil _ _ _ _ _, rfl, (by repeat (first | assumption | exact Kp.refl _ | apply Kp.alloc | apply Kp.drew | apply Kp.drewN))⟩
    case round =>
      clear hz
      obtain ⟨zn, D, rfl, hzn, own, HD, hk⟩ := hrel
      have hL : D.length + (digs zn).length ≤ 9 := by
        have := hlen.out
        rw [HD.out, List.length_append] at this
        exact this
      have hp := digs_pos zn
      have hL2 : D.length ≤ 8 := by omega
      clear hL hp
      obtain ⟨A, c, rfl, hc, hm⟩ := own.form
      by_cases hlt : zn < 128
      · have HG := hid (digs_lt hlt)
        have HB := hid (nat_byte (z := zn) (by omega))
        go_wp2_with (at_builtin; refine wpl_append_flat rfl (.tmp 27) (.tmp 30) rfl stBytes encByte_len encByte_one rfl (own.alloc _) rfl (litBytes [UInt8.ofNat zn] _ (flat_byte _ _ ?hb) (by simp) 1 rfl) (by simp; omega) (by simp; omega) (by have := hk.size; simp; omega) ?_; rotate_left; intro v1 w1 hown1 hgrow1 hat1 hnil1)
        case hb => rw [HB.out]
        have k1 : Kp w w1 := Kp.grown (hk.alloc _) hgrow1 own.ge
        go_ret
        exact ⟨_, rfl, by rw [HD.out, HG.out]; exact hown1, k1⟩
      · have HG := hid (digs_ge hlt)
        have HB := hid (nat_byte (z := zn % 128 + 128) (by omega))
        go_wp2_with (at_builtin; refine wpl_append_flat rfl (.tmp 18) (.tmp 23) rfl stBytes encByte_len encByte_one rfl (own.alloc _) rfl (litBytes [UInt8.ofNat (zn % 128 + 128)] _ (flat_byte _ _ ?hb) (by simp) 1 rfl) (by simp; omega) (by simp; omega) (by have := hk.size; simp; omega) ?_; rotate_left; intro v1 w1 hown1 hgrow1 hat1 hnil1)
        case hb => rw [HB.out]; omega
        have k1 : Kp w w1 := Kp.grown (hk.alloc _) hgrow1 own.ge
        go_roundw
        case rel => exact ⟨zn / 128, _, by congr 1, by omega, hown1, hid (by rw [HD.out, HG.out]; simp), k1⟩
        case measure => simp [intOf]; omega
end Go.Proofs.Ytmokpnkpfodppaa
namespace Go.Proofs.Ytmokpnkpfodppaa
set_option linter.unusedSimpArgs false
set_option linter.unusedVariables false
open Go.RowKit

abbrev strV (l : List UInt8) : Value := .string ⟨l.toArray⟩
theorem bytes_str {w : World} {v : Value} {l : List UInt8} (h : Bytes w v l) : (convert 163 9 v).run Try.prog w = .ok (strV l) w := by
  obtain ⟨A, c, rfl, hc, hm⟩ := h.form
  cases l with
  | nil =>
    cases A with
    | none => exact run_convert_bytes_nil w 163 5 Try.underlying163 Try.underlying5 0 c 9 Try.underlying9
    | some a => exact run_convert_bytes_back w 163 9 5 a c [] Try.underlying163 Try.underlying5 Try.underlying9 (fun j hj => by simp at hj)
  | cons x l =>
    obtain ⟨b, o, cs, rfl, -, -, -, -⟩ := h.at_ (k := 0) (by simp)
    refine run_convert_bytes_back w 163 9 5 ⟨b, o, none⟩ c (x :: l) Try.underlying163 Try.underlying5 Try.underlying9 (fun j hj => ?_)
    obtain ⟨b', o', cs, hA, -, -, h2, h3⟩ := h.at_ hj
    injection hA with hA
    injection hA with e1 e2 _
    subst e1 e2
    unfold Pl encByte at h3
    subst h3
    have := h2 0 _ rfl
    rw [Addr.add_mid]
    simpa using this
theorem wpl_str {ops : Array Oper} {rest : List Oper} {o : Oper} {a : Act} {Q : Exit → Act → World → Prop} {w : World} {v : Value} {l : List UInt8} (hgd : o.guard = none) (x : Operand) (ho : o.op = .convert 163 9 x)
    (hx : a.eval x = v) (hb : Bytes w v l) (h : wpList Try.prog ops Q rest (a.put o.dst (strV l)) w) : wpList Try.prog ops Q (o :: rest) a w := by
  refine wpList_plain hgd fun K hK => ?_
  unfold Oper.wp execOp
  simp only [ho, hx, Sem.run_bind, bytes_str hb, Sem.run_pure, Result.andThen_ok]
  exact hK _ _ h
/-- which integers cannot be written -/
def outI (n : Int) : Bool := decide (n < -4611686018427387904) || decide (4611686018427387903 < n)
theorem outI_ok {n : Int} (h : outI n = false) : OkI n := by
  unfold outI at h
  unfold OkI
  simp only [Bool.or_eq_false_iff, decide_eq_false_iff_not] at h
  omega
/-- what is answered when integers are written: the bytes and the error -/
def encE (l : List Int) : List UInt8 × Int := if l.any outI then ([], 2) else if 65536 < (encB l).length then ([], 8) else (encB l, 0)
theorem Encode1_any (x : Int) (w : World) : Calls Try.prog 89 #[.int .i64 x] w fun e w' => e = .returned (.bool (outI x)) ∧ Kp w w' := by
  unfold outI
  by_cases h : x < -4611686018427387904
  · have h1 : decide (x < -4611686018427387904) = true := decide_eq_true h
    go_enter Try.func89, Try.ntmps89
    go_wp2
    go_ret
    exact ⟨ret_bool (by simp [h]), (by repeat (first | assumption | exact Kp.refl _ | apply Kp.alloc | apply Kp.drew | apply Kp.drewN))⟩
  · have h1 : decide (x < -4611686018427387904) = false := decide_eq_false h
    by_cases h2 : 4611686018427387903 < x
    · have h3 : decide (4611686018427387903 < x) = true := decide_eq_true h2
      go_enter Try.func89, Try.ntmps89
      go_wp2
      go_ret
      exact ⟨ret_bool (by simp [h, h2]), (by repeat (first | assumption | exact Kp.refl _ | apply Kp.alloc | apply Kp.drew | apply Kp.drewN))⟩
    · have h3 : decide (4611686018427387903 < x) = false := decide_eq_false h2
      go_enter Try.func89, Try.ntmps89
      go_wp2
      go_ret
      exact ⟨ret_bool (by simp [h, h2]), (by repeat (first | assumption | exact Kp.refl _ | apply Kp.alloc | apply Kp.drew | apply Kp.drewN))⟩
theorem Encode1_real : Real Try.prog 89 := ⟨_, Try.func89, by kernel_rfl, by kernel_rfl⟩
abbrev retE (r : List UInt8 × Int) : Ending := .returned (.tuple #[strV r.1, .int .i64 r.2])
theorem encB_take (l : List Int) (k : Nat) (h : k < l.length) : encB (l.take (k + 1)) = encB (l.take k) ++ digs (zig l[k]) := by
  rw [take_snoc' l k h, encB_append]
  simp [encB]
theorem encB_take_le (l : List Int) (k : Nat) : (encB (l.take k)).length ≤ (encB l).length := by
  have : encB l = encB (l.take k) ++ encB (l.drop k) := by rw [← encB_append, List.take_append_drop]
  rw [this, List.length_append]
  omega
set_option maxRecDepth 8000 in
set_option maxHeartbeats 1000000 in
theorem Encode_any (v : Value) (l : List Int) (w : World) (hl : Ints w v l) :
    Calls Try.prog 65 #[v] w fun e w' => e = retE (encE l) ∧ Kp w w' := by
  obtain ⟨A, c, rfl, hc, hm⟩ := hl.form
  by_cases hout : l.any outI = true
  · have HF : Hid (encE l = ([], 2)) := hid (by unfold encE; rw [if_pos hout])
    have HO := hid hout
    clear hout
    go_enter Try.func65, Try.ntmps65
    go_wp2_with fail
    refine (ContainsFuncI_any outI 89 [] _ l _ hl Encode1_real (fun w' r _ => Encode1_any r w')).mono ?_
    rintro e w1 ⟨rfl, hk1⟩
    rw [HO.out]
    go_wp2
    go_ret2
    exact ⟨by rw [HF.out]; rfl, hk1⟩
  · have hok : ∀ n ∈ l, OkI n := fun n hn => outI_ok (by
      by_cases h : outI n = true
      · exact absurd (List.any_eq_true.2 ⟨n, hn, h⟩) hout
      · simpa using h)
    have HE : Hid (encE l = if 65536 < (encB l).length then ([], 8) else (encB l, 0)) := hid (by unfold encE; rw [if_neg hout])
    have HO : Hid (l.any outI = false) := hid (by simpa using hout)
    clear hout
    generalize encE l = r at *
    go_enter Try.func65, Try.ntmps65
    go_wp2_with fail
    refine (ContainsFuncI_any outI 89 [] _ l _ hl Encode1_real (fun w' r _ => Encode1_any r w')).mono ?_
    rintro e w1 ⟨rfl, hk1⟩
    rw [HO.out]
    have hl1 := hl.keep (pl_stable _) hk1
    go_wp2
    go_loopw [4, 11] (fun v i wr => ∃ k : Nat, k ≤ l.length ∧ i = .int .i64 k ∧ Own encByte 5 1 w.heap.size wr v (encB (l.take k)) ∧ (encB (l.take k)).length ≤ 65536 ∧ Kp w wr) (fun _ i _ => l.length - (intOf i).toNat)
    case atStart => exact ⟨0, Nat.zero_le _, rfl, Own.nil _ _ _ _ _, by simp [encB], hk1⟩
    case round =>
      clear hk1 hl1
      obtain ⟨k, hkl, rfl, own, hlen, hk⟩ := hrel
      obtain ⟨A1, c1, rfl, hc1, hm1⟩ := own.form
      have hlr := hl.keep (pl_stable _) hk
      by_cases hlt : k < l.length
      · obtain ⟨b, o, rfl, hb, h1⟩ := hlr.ints hlt
        have HT := hid (encB_take l k hlt)
        have hnk := hok l[k] (by simp)
        have HN := hid (digs_nine hnk)
        have HL := hid (encB_take_le l (k + 1))
        generalize l[k] = n at *
        clear hlr
        go_wp2_with fail
        refine (digits_any n _ hnk).mono ?_
        rintro e w2 ⟨v2, rfl, own2, hk2⟩
        have own1 := own.kp hk2
        have own2' := own2.sl encByte_len
        clear own
        have hN := HN.out
        have hkk := hk.trans hk2
        generalize digs (zig n) = D at *
        generalize encB (l.take k) = T at *
        obtain ⟨A2, c2, rfl, hc2, hm2⟩ := own2.form
        clear own2 hnk
        have hTL := hid (show (T ++ D).length = T.length + D.length from List.length_append)
        by_cases hbig : 65536 < T.length + D.length
        · have HF : Hid (r = ([], 8)) := hid (by
            have := HL.out
            rw [HT.out, List.length_append] at this
            rw [HE.out, if_pos (by omega)])
          have hbd : decide ((65536 : Int) < (T.length : Int) + (D.length : Int)) = true := decide_eq_true (by omega)
          go_wp2_with (at_builtin; refine wpl_append_flat rfl (.tmp 15) (.tmp 17) rfl stBytes encByte_len encByte_one rfl own1 rfl own2' (by omega) (by omega) hkk.size ?_; intro v3 w3 hown3 hgrow3 hat3 hnil3; obtain ⟨A3, c3, rfl, hc3, hm3⟩ := hown3.form)
          have hk3 : Kp w w3 := Kp.grown hkk hgrow3 own1.ge
          go_ret2
          exact ⟨by rw [HF.out]; rfl, hk3⟩
        · have hbd : decide ((65536 : Int) < (T.length : Int) + (D.length : Int)) = false := decide_eq_false (by omega)
          go_wp2_with (at_builtin; refine wpl_append_flat rfl (.tmp 15) (.tmp 17) rfl stBytes encByte_len encByte_one rfl own1 rfl own2' (by omega) (by omega) hkk.size ?_; intro v3 w3 hown3 hgrow3 hat3 hnil3; obtain ⟨A3, c3, rfl, hc3, hm3⟩ := hown3.form)
          have hk3 : Kp w w3 := Kp.grown hkk hgrow3 own1.ge
          go_roundw
          case rel => exact ⟨k + 1, by omega, by go_num, by rw [HT.out]; simpa using hown3, by rw [HT.out, hTL.out]; omega, hk3⟩
          case measure => simp [intOf]; omega
      · have HF : Hid (l.take k = l) := hid (List.take_of_length_le (by omega))
        have HR : Hid (r = (encB l, 0)) := hid (by
          rw [HF.out] at hlen
          rw [HE.out, if_neg (by omega)])
        have ob := own.sl encByte_len
        clear own
        go_wp2_with (refine wpl_str rfl (.tmp 23) rfl rfl ob ?_)
        go_ret2
        exact ⟨by rw [HR.out, HF.out]; rfl, hk⟩
end Go.Proofs.Ytmokpnkpfodppaa
namespace Go.Proofs.Ytmokpnkpfodppaa
set_option linter.unusedSimpArgs false
set_option linter.unusedVariables false
open Go.RowKit

theorem EventV.kp {w w' : World} {val : Value} {x : Event} (h : EventV w val x) (hb : Kp w w') : EventV w' val x := by
  obtain ⟨v, rfl, h1⟩ := h
  exact ⟨v, rfl, h1.keep (pl_stable _) hb⟩
theorem BaseV.kp {w w' : World} {val : Value} {x : Base} (h : BaseV w val x) (hb : Kp w w') : BaseV w' val x := by
  obtain ⟨v0, v2, v3, v4, v5, v6, rfl, p0, p2, p3, p4, p5, p6⟩ := h
  exact ⟨v0, v2, v3, v4, v5, v6, rfl, p0.keep (pl_stable _) hb, p2.keep (pl_stable _) hb, p3.keep rdMerged_stable hb, p4.keep rdInts_stable hb, p5.keep rdIntss_stable hb, p6.keep (pl_stable _) hb⟩
theorem MessageV.kp {w w' : World} {val : Value} {x : Message} (h : MessageV w val x) (hb : Kp w w') : MessageV w' val x := by
  obtain ⟨v3, v4, v5, v6, v7, rfl, p3, p4, p5, p6, p7⟩ := h
  exact ⟨v3, v4, v5, v6, v7, rfl, p3.keep (pl_stable _) hb, p4.keep rdEvent_stable hb, p5.keep (pl_stable _) hb, p6.keep (pl_stable _) hb, p7.keep rdEntry_stable hb⟩
theorem EventV.cells {w : World} {val : Value} {x : Event} (h : EventV w val x) : ∃ cs : List Value, val = .agg cs.toArray ∧ cs.length = 13 := by
  obtain ⟨v, rfl, h1⟩ := h
  exact ⟨_, rfl, rfl⟩
theorem BaseV.cells {w : World} {val : Value} {x : Base} (h : BaseV w val x) : ∃ cs : List Value, val = .agg cs.toArray ∧ cs.length = 7 := by
  obtain ⟨v0, v2, v3, v4, v5, v6, rfl, p0, p2, p3, p4, p5, p6⟩ := h
  exact ⟨_, rfl, rfl⟩
theorem MessageV.cells {w : World} {val : Value} {x : Message} (h : MessageV w val x) : ∃ cs : List Value, val = .agg cs.toArray ∧ cs.length = 18 := by
  obtain ⟨v3, v4, v5, v6, v7, rfl, p3, p4, p5, p6, p7⟩ := h
  exact ⟨_, rfl, rfl⟩
theorem RecordV.cells {w : World} {val : Value} {x : Record} (h : RecordV w val x) : ∃ cs : List Value, val = .agg cs.toArray ∧ cs.length = 30 := by
  obtain ⟨v0, v1, v2, v3, v4, v5, v6, v7, rfl, p0, p1, p2, p3, p4, p5, p6, p7⟩ := h
  exact ⟨_, rfl, rfl⟩
theorem range_box (w : World) (cs : List Value) (t : TypeId) : (w.alloc (.cells cs.toArray t)).rangeAt w.heap.size 0 cs := fun j v hv => by rw [Nat.zero_add]; exact alloc_cell w _ t j (by simpa using hv)
theorem Kp.range {w w' : World} (hk : Kp w w') {b o : Nat} {cs : List Value} (h : w.rangeAt b o cs) : w'.rangeAt b o cs := fun j u hu => hk.cellS (h j u hu)
set_option maxHeartbeats 400000 in
theorem written_any (m : List Int) (F : FuncId) (cap : List Value) (w : World) (hr : Real Try.prog F)
    (hf : ∀ (w' : World) (g : Nat), Kp w w' → Wr w.heap.size w' g [] → Writes w g [] m F (.pointer (some ⟨g, 0, none⟩) :: cap).toArray w') :
    Calls Try.prog 56 #[.func (.func F) #[] cap.toArray] w fun e w' => e = retE (encE m) ∧ Kp w w' := by
  have HC := hid hf
  clear hf
  generalize hE : encE m = r
  have HE := hid hE
  clear hE
  have hcf := fun args w => hr.run args w
  have hw0 := wr_new w.heap.size w (Nat.le_refl _)
  have hk0 := (Kp.refl w).alloc (.cells #[.slice none 0 0] 137)
  go_enter Try.func56, Try.ntmps56
  go_wp2_with fail
  refine (HC.out _ _ hk0 hw0).mono ?_
  rintro e w1 ⟨rfl, hw1, hx1⟩
  have k1 := hx1.to_kp hk0 hw0
  clear hx1 hw0 hk0
  obtain ⟨v, f1, f2, f3, f4, own⟩ := hw1
  have hi := own.sl encInt_len
  clear own f4 f3
  rw [List.nil_append] at hi
  obtain ⟨A, c, rfl, hc, hm⟩ := hi.form
  go_wp2_with fail
  refine (Encode_any _ m _ hi).mono ?_
  rintro e w2 ⟨rfl, hk2⟩
  have k2 := k1.trans hk2
  clear hi f1
  rw [HE.out]
  obtain ⟨rb, re⟩ := r
  go_wp2
  go_ret2
  exact ⟨rfl, k2⟩
set_option maxHeartbeats 400000 in
theorem EncodeMessage1_any (W0 : World) (g b : Nat) (l : List Int) (cs : List Value) (x : Message) (w : World) (hk : Kp W0 w) (hw : Wr W0.heap.size w g l) (hv : MessageV W0 (.agg cs.toArray) x) (hroom : Room l (numMessage x).length) (hrg : w.rangeAt b 0 cs)
    (hi : (Try.prog.info? 34).map (·.size) = some cs.length) : Writes W0 g l (numMessage x) 57 #[.pointer (some ⟨g, 0, none⟩), .pointer (some ⟨b, 0, none⟩)] w := by
  go_enter Try.func57, Try.ntmps57
  go_wp2_with (refine wpList_load_mid rfl 34 (.tmp 1) rfl b 0 rfl cs _ hrg Try.underlying34 rfl hi ?_)
  refine (wMessage_any W0 g l _ x w hk hw hv hroom).mono ?_
  rintro e w1 ⟨rfl, hw1, hx1⟩
  go_wp2
  go_end0
  exact ⟨rfl, hw1, hx1⟩
theorem EncodeMessage1_real : Real Try.prog 57 := ⟨_, Try.func57, by kernel_rfl, by kernel_rfl⟩
set_option maxHeartbeats 400000 in
theorem EncodeMessage_any (val : Value) (x : Message) (w : World) (hv : MessageV w val x) (hroom : Room [] (numMessage x).length) :
    Calls Try.prog 39 #[val] w fun e w' => e = retE (encE (numMessage x)) ∧ Kp w w' := by
  obtain ⟨cs, rfl, hcs⟩ := hv.cells
  generalize hE : encE (numMessage x) = r
  have HE := hid hE
  clear hE
  have k0 := (Kp.refl w).alloc (.cells cs.toArray 34)
  have r0 := range_box w cs 34
  have hi : (Try.prog.info? 34).map (·.size) = some cs.length := by rw [hcs]; kernel_rfl
  go_enter Try.func39, Try.ntmps39
  go_wp2_with fail
  refine (written_any (numMessage x) 57 [.pointer (some ⟨w.heap.size, 0, none⟩)] (w.alloc (.cells cs.toArray 34)) EncodeMessage1_real (fun w' g hk' hw' => EncodeMessage1_any _ g _ [] cs x w' hk' hw' (hv.kp k0) hroom (hk'.range r0) hi)).mono ?_
  rintro e w1 ⟨rfl, hk1⟩
  have k1 := k0.trans hk1
  rw [HE.out]
  obtain ⟨rb, re⟩ := r
  go_wp2
  go_ret2
  exact ⟨rfl, k1⟩
/-- what is answered when a record is written -/
def encR (x : Record) : List UInt8 × Int := if formedB x then encE (numRecord x) else ([], 1)
end Go.Proofs.Ytmokpnkpfodppaa
namespace Go.Proofs.Ytmokpnkpfodppaa
set_option linter.unusedSimpArgs false
set_option linter.unusedVariables false
open Go.RowKit

/-- what is answered when a list of records is written -/
def encRs (xs : List Record) : List UInt8 × Int := if xs.all formedB then encE (numL numRecord xs) else ([], 1)
end Go.Proofs.Ytmokpnkpfodppaa
