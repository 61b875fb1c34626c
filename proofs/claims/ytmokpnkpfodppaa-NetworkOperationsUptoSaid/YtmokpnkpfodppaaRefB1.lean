
/-
The reference: the bytes of integers.
-/
import Derived.Test.YtmokpnkpfodppaaCodS1
import Derived.Laws.MakeOwn
namespace Go.Proofs.Ytmokpnkpfodppaa
set_option linter.unusedSimpArgs false
set_option linter.unusedVariables false
open Go.RowKit

theorem wpl_cat {ops : Array Oper} {rest : List Oper} {o : Oper} {a : Act} {Q : Exit → Act → World → Prop} {w : World} {l m : List UInt8} (hgd : o.guard = none) (x y : Operand) (ho : o.op = .binOp .add 9 x y 9)
    (hx : a.eval x = strV l) (hy : a.eval y = strV m) (hl : l.length + m.length ≤ 1000000) (h : wpList Try.prog ops Q rest (a.put o.dst (strV (l ++ m))) w) : wpList Try.prog ops Q (o :: rest) a w := by
  refine wpList_plain hgd fun K hK => ?_
  have hr := run_string_add_lists (P := Try.prog) w l m (by omega) (by omega)
  unfold Oper.wp execOp
  simp only [ho, hx, hy, binOp, eqGuard, ite_self, Sem.run_bind, hr, Sem.run_pure, Result.andThen_ok]
  exact hK _ _ h
set_option maxRecDepth 8000 in
set_option maxHeartbeats 1000000 in
theorem rInteger_any (n : Int) (w : World) (hn : OkI n) : Calls Try.prog 87 #[.int .i64 n] w fun e w' => e = .returned (strV (digs (zig n))) ∧ Kp w w' := by
  have hlen := hid (digs_nine hn)
  obtain ⟨hn1, hn2⟩ := hn
  by_cases h0 : n < 0
  case pos =>
    have hz : zig n = 2 * (-(n + 1)).toNat + 1 := by unfold zig; rw [if_pos h0]
    generalize zig n = z0 at *
    go_enter Try.func87, Try.ntmps87
    go_wp2
    go_loopw [3, 4] (fun zv v wr => ∃ (zn : Nat) (D : List UInt8), zv = .int .u64 (zn : Int) ∧ zn < 9223372036854775808 ∧ v = strV D ∧ Hid (digs z0 = D ++ digs zn) ∧ Kp w wr) (fun zv _ _ => (intOf zv).toNat)
    case atStart => exact ⟨z0, [], by congr 1; omega, by omega, rfl, rfl, (by repeat (first | assumption | exact Kp.refl _ | apply Kp.alloc | apply Kp.drew | apply Kp.drewN))⟩
    case round =>
      clear hz
      obtain ⟨zn, D, rfl, hzn, rfl, HD, hk⟩ := hrel
      have hL : D.length + (digs zn).length ≤ 9 := by
        have := hlen.out
        rw [HD.out, List.length_append] at this
        exact this
      have hp := digs_pos zn
      have hL2 : D.length ≤ 8 := by omega
      clear hL hp
      by_cases hlt : zn < 128
      · have HG := hid (digs_lt hlt)
        have HB := hid (nat_byte (z := zn) (by omega))
        go_wp2_with (first | (refine wpl_str rfl (.tmp 31) rfl rfl (litBytes [UInt8.ofNat zn] _ (flat_byte _ _ ?hb) (by simp) 1 rfl) ?_; rotate_left) | (refine wpl_cat rfl (.tmp 28) (.tmp 32) rfl rfl rfl (by simp; omega) ?_))
        case hb => rw [HB.out]
        go_ret
        exact ⟨by rw [HD.out, HG.out]; rfl, hk.alloc _⟩
      · have HG := hid (digs_ge hlt)
        have HB := hid (nat_byte (z := zn % 128 + 128) (by omega))
        go_wp2_with (first | (refine wpl_str rfl (.tmp 23) rfl rfl (litBytes [UInt8.ofNat (zn % 128 + 128)] _ (flat_byte _ _ ?hb) (by simp) 1 rfl) ?_; rotate_left) | (refine wpl_cat rfl (.tmp 18) (.tmp 24) rfl rfl rfl (by simp; omega) ?_))
        case hb => rw [HB.out]; omega
        go_roundw
        case rel => exact ⟨zn / 128, _, by congr 1, by omega, rfl, hid (by rw [HD.out, HG.out]; simp), hk.alloc _⟩
        case measure => simp [intOf]; omega
  case neg =>
    have hz : zig n = 2 * n.toNat := by unfold zig; rw [if_neg h0]
    generalize zig n = z0 at *
    go_enter Try.func87, Try.ntmps87
    go_wp2
    go_loopw [3, 4] (fun zv v wr => ∃ (zn : Nat) (D : List UInt8), zv = .int .u64 (zn : Int) ∧ zn < 9223372036854775808 ∧ v = strV D ∧ Hid (digs z0 = D ++ digs zn) ∧ Kp w wr) (fun zv _ _ => (intOf zv).toNat)
    case atStart => exact ⟨z0, [], by congr 1; omega, by omega, rfl, rfl, (by repeat (first | assumption | exact Kp.refl _ | apply Kp.alloc | apply Kp.drew | apply Kp.drewN))⟩
    case round =>
      clear hz
      obtain ⟨zn, D, rfl, hzn, rfl, HD, hk⟩ := hrel
      have hL : D.length + (digs zn).length ≤ 9 := by
        have := hlen.out
        rw [HD.out, List.length_append] at this
        exact this
      have hp := digs_pos zn
      have hL2 : D.length ≤ 8 := by omega
      clear hL hp
      by_cases hlt : zn < 128
      · have HG := hid (digs_lt hlt)
        have HB := hid (nat_byte (z := zn) (by omega))
        go_wp2_with (first | (refine wpl_str rfl (.tmp 31) rfl rfl (litBytes [UInt8.ofNat zn] _ (flat_byte _ _ ?hb) (by simp) 1 rfl) ?_; rotate_left) | (refine wpl_cat rfl (.tmp 28) (.tmp 32) rfl rfl rfl (by simp; omega) ?_))
        case hb => rw [HB.out]
        go_ret
        exact ⟨by rw [HD.out, HG.out]; rfl, hk.alloc _⟩
      · have HG := hid (digs_ge hlt)
        have HB := hid (nat_byte (z := zn % 128 + 128) (by omega))
        go_wp2_with (first | (refine wpl_str rfl (.tmp 23) rfl rfl (litBytes [UInt8.ofNat (zn % 128 + 128)] _ (flat_byte _ _ ?hb) (by simp) 1 rfl) ?_; rotate_left) | (refine wpl_cat rfl (.tmp 18) (.tmp 24) rfl rfl rfl (by simp; omega) ?_))
        case hb => rw [HB.out]; omega
        go_roundw
        case rel => exact ⟨zn / 128, _, by congr 1, by omega, rfl, hid (by rw [HD.out, HG.out]; simp), hk.alloc _⟩
        case measure => simp [intOf]; omega
theorem wpl_make {ops : Array Oper} {rest : List Oper} {o : Oper} {a : Act} {Q : Exit → Act → World → Prop} {w : World} {base n : Nat} (hgd : o.guard = none) (x y : Operand) (ho : o.op = .makeSlice 163 x y)
    (hx : a.eval x = .int .i64 0) (hy : a.eval y = .int .i64 (n : Int)) (hn : n ≤ 1000000) (hb : base ≤ w.heap.size)
    (h : ∀ v' w', Own encByte 5 1 base w' v' [] → Kp w w' → wpList Try.prog ops Q rest (a.put o.dst v') w') : wpList Try.prog ops Q (o :: rest) a w := by
  refine wpList_plain hgd fun K hK => ?_
  have hinf : ∃ i z, Try.prog.info? 5 = some i ∧ i.zero = some z ∧ i.size = 1 ∧ i.bytes = 1 := by
    have : (Try.prog.info? 5).map (fun i => (i.zero.isSome, i.size, i.bytes)) = some (true, 1, 1) := by kernel_rfl
    cases hi : Try.prog.info? 5 with
    | none => rw [hi] at this; cases this
    | some i =>
      rw [hi] at this
      simp only [Option.map_some, Option.some.injEq, Prod.mk.injEq] at this
      obtain ⟨h1, h2, h3⟩ := this
      obtain ⟨z, hz⟩ := Option.isSome_iff_exists.1 h1
      exact ⟨i, z, rfl, hz, h2, h3⟩
  obtain ⟨i, z, hi, hz, hs, hby⟩ := hinf
  obtain ⟨w', hr, ho2, hg⟩ := run_make_own (P := Try.prog) w base 163 5 i z 1 Try.underlying163 hi hz hs .i64 .i64 n (by rw [hby]; omega) (by unfold maxLen; omega) hb
  unfold Oper.wp execOp
  simp only [ho, hx, hy, Sem.run_bind, hr, Sem.run_pure, Result.andThen_ok]
  exact hK _ _ (h _ _ ho2 ((Kp.refl w).grown hg (fun k hk => by cases hk)))
theorem encB_len9 (l : List Int) (h : ∀ n ∈ l, OkI n) : (encB l).length ≤ 9 * l.length := by
  induction l with
  | nil => simp [encB]
  | cons n l ih =>
    have h1 := digs_nine (h n (by simp))
    have h2 := ih fun m hm => h m (by simp [hm])
    rw [encB_cons, List.length_append, List.length_cons]
    omega
set_option maxRecDepth 8000 in
set_option maxHeartbeats 2000000 in
theorem rEncode_any (v : Value) (l : List Int) (w : World) (hl : Ints w v l) (hlen : l.length ≤ 100000) : Calls Try.prog 63 #[v] w fun e w' => e = retE (encE l) ∧ Kp w w' := by
  obtain ⟨A, c, rfl, hc, hm⟩ := hl.form
  have HE : Hid (encE l = if l.any outI then ([], 2) else if 65536 < (encB l).length then ([], 8) else (encB l, 0)) := hid rfl
  generalize encE l = r at *
  go_enter Try.func63, Try.ntmps63
  go_wp2
  go_loopw [4, 5] (fun s i wr => ∃ k : Nat, k ≤ l.length ∧ i = .int .i64 k ∧ s = .int .i64 ((encB (l.take k)).length : Int) ∧ Hid (∀ n ∈ l.take k, outI n = false) ∧ Kp w wr) (fun _ i _ => l.length - (intOf i).toNat)
  case atStart => exact ⟨0, Nat.zero_le _, rfl, rfl, hid (by simp), Kp.refl _⟩
  case round =>
    obtain ⟨k, hk, rfl, rfl, HO, hkr⟩ := hrel
    have hlr := hl.keep (pl_stable _) hkr
    have h9 := encB_len9 (l.take k) fun n hn => outI_ok (HO.out n hn)
    have htk : (l.take k).length ≤ l.length := by rw [List.length_take]; omega
    by_cases hlt : k < l.length
    · obtain ⟨b, o, rfl, hb, h1⟩ := hlr.ints hlt
      have HT := hid (encB_take l k hlt)
      have HS := hid (take_snoc' l k hlt)
      have hmem : l[k] ∈ l := by simp
      have HM := hid hmem
      clear hmem
      generalize l[k] = n at *
      generalize hT : (encB (l.take k)).length = t at *
      have HTt := hid hT
      clear hT
      by_cases h2 : n < -4611686018427387904
      · have e2 : decide (n < -4611686018427387904) = true := decide_eq_true h2
        have HR : Hid (r = ([], 2)) := hid (by
          have : l.any outI = true := List.any_eq_true.2 ⟨n, HM.out, by unfold outI; simp [h2]⟩
          rw [HE.out, if_pos this])
        go_wp2
        go_ret2
        exact ⟨by rw [HR.out]; rfl, hkr⟩
      · have e2 : decide (n < -4611686018427387904) = false := decide_eq_false h2
        by_cases h3 : 4611686018427387903 < n
        · have e3 : decide (4611686018427387903 < n) = true := decide_eq_true h3
          have HR : Hid (r = ([], 2)) := hid (by
            have : l.any outI = true := List.any_eq_true.2 ⟨n, HM.out, by unfold outI; simp [h3]⟩
            rw [HE.out, if_pos this])
          go_wp2
          go_ret2
          exact ⟨by rw [HR.out]; rfl, hkr⟩
        · have e3 : decide (4611686018427387903 < n) = false := decide_eq_false h3
          have hok : OkI n := by unfold OkI; omega
          have hn9 := digs_nine hok
          go_wp2_with fail
          refine (rInteger_any n _ hok).mono ?_
          rintro e w2 ⟨rfl, hk2⟩
          have hsz : (⟨(digs (zig n)).toArray⟩ : ByteArray).size = (digs (zig n)).length := by simp [ByteArray.size]
          have HD : Hid ((encB (l.take (k + 1))).length = t + (digs (zig n)).length) := hid (by rw [HT.out, List.length_append, HTt.out])
          generalize digs (zig n) = D at *
          go_wp2
          go_roundw
          case rel => exact ⟨k + 1, by omega, by go_num, by rw [HD.out]; go_num, hid (by rw [HS.out]; intro m hm; rcases List.mem_append.1 hm with hm | hm; exact HO.out m hm; obtain rfl := List.mem_singleton.1 hm; unfold outI; simp; omega), hkr.trans hk2⟩
          case measure => simp [intOf]; omega
    · have HF : Hid (l.take k = l) := hid (List.take_of_length_le (by omega))
      rw [HF.out] at HO h9 ⊢
      have hok : ∀ n ∈ l, OkI n := fun n hn => outI_ok (HO.out n hn)
      have HA : Hid (r = if 65536 < (encB l).length then ([], 8) else (encB l, 0)) := hid (by
        have : ¬ l.any outI = true := by
          intro h
          obtain ⟨n, hn, ho⟩ := List.any_eq_true.1 h
          rw [HO.out n hn] at ho
          cases ho
        rw [HE.out, if_neg this])
      clear HE HO HF
      by_cases hbig : 65536 < (encB l).length
      · have HR : Hid (r = ([], 8)) := hid (by rw [HA.out, if_pos hbig])
        have e2 : decide ((65536 : Int) < ((encB l).length : Int)) = true := decide_eq_true (by omega)
        go_wp2
        go_ret2
        exact ⟨by rw [HR.out]; rfl, hkr⟩
      · have HR : Hid (r = (encB l, 0)) := hid (by rw [HA.out, if_neg hbig])
        have e2 : decide ((65536 : Int) < ((encB l).length : Int)) = false := decide_eq_false (by omega)
        clear HA
        go_wp2_with (refine wpl_make (base := w.heap.size) rfl (.const (.int .i64 0)) (.tmp 36) rfl rfl rfl (by omega) hkr.size ?_; intro vm wm ownm hkm; obtain ⟨Am, cm, rfl, hcm, hmm⟩ := ownm.form)
        have hk0 := hkr.trans hkm
        go_loopw [6, 7] (fun v i wr => ∃ k : Nat, k ≤ l.length ∧ i = .int .i64 k ∧ Own encByte 5 1 w.heap.size wr v (encB (l.take k)) ∧ Kp w wr) (fun _ i _ => l.length - (intOf i).toNat)
        case atStart => exact ⟨0, Nat.zero_le _, rfl, ownm, hk0⟩
        case round =>
          clear hk0 ownm hkm hkr hlr hk hlt
          obtain ⟨k, hk, rfl, own, hkr⟩ := hrel
          have hlr := hl.keep (pl_stable _) hkr
          have hle := encB_take_le l k
          obtain ⟨A1, c1, rfl, hc1, hm1⟩ := own.form
          by_cases hlt : k < l.length
          · obtain ⟨b, o, rfl, hb, h1⟩ := hlr.ints hlt
            have HT := hid (encB_take l k hlt)
            have hnk := hok l[k] (by simp)
            generalize l[k] = n at *
            have hn9 := digs_nine hnk
            generalize encB (l.take k) = T at *
            go_wp2_with fail
            refine (rInteger_any n _ hnk).mono ?_
            rintro e w2 ⟨rfl, hk2⟩
            have own2 := own.kp hk2
            have hkk := hkr.trans hk2
            generalize digs (zig n) = D at *
            clear own hlr hl
            go_wp2_with (first | (refine wpl_bytes rfl (.tmp 49) rfl rfl (by omega) ?_; intro vb w3 hb3 hk3; have own3 := own2.kp hk3; have hk33 := hkk.trans hk3; obtain ⟨A3, c3, rfl, hc3, hm3⟩ := hb3.form) | (at_builtin; refine wpl_append_flat rfl (.tmp 44) (.tmp 50) rfl stBytes encByte_len encByte_one rfl own3 rfl hb3 (by omega) (by omega) hk33.size ?_; intro v4 w4 hown4 hgrow4 hat4 hnil4; obtain ⟨A4, c4, rfl, hc4, hm4⟩ := hown4.form))
            have hk4 : Kp w w4 := Kp.grown hk33 hgrow4 own3.ge
            go_roundw
            case rel => exact ⟨k + 1, by omega, by go_num, by rw [HT.out]; simpa using hown4, hk4⟩
            case measure => simp [intOf]; omega
          · have HF : Hid (l.take k = l) := hid (List.take_of_length_le (by omega))
            have ob := own.sl encByte_len
            clear own
            go_wp2_with (refine wpl_str rfl (.tmp 52) rfl rfl ob ?_)
            go_ret2
            exact ⟨by rw [HR.out, HF.out]; rfl, hkr⟩
end Go.Proofs.Ytmokpnkpfodppaa
