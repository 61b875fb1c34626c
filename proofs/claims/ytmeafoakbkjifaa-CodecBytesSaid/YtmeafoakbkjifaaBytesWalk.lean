
/-
Whatever the bytes are, the decoders return what the reference returns: the walk.
-/
import Derived.Test.YtmeafoakbkjifaaNC
import Derived.Test.YtmeafoakbkjifaaQB
namespace Go.Proofs.Ytmeafoakbkjifaa
set_option linter.unusedSimpArgs false
set_option linter.unusedVariables false
open Go.RowKit

theorem readE_ne {α : Type} {P : Ps α} {bs : List UInt8} (h : (readE P bs).2 ≠ 0) : (readE P bs).1 = none := by
  unfold readE at *
  split at h
  · rename_i h0
    rw [if_pos h0]
    split at h
    · exact absurd rfl h
    · rfl
  · rename_i h0
    rw [if_neg h0]
theorem readE_num {α : Type} {P : Ps α} {f : α → List Int} (hg : Good P f) (z : α) (hz : (f z).length ≤ 100) (bs : List UInt8) : (f ((readE P bs).1.getD z)).length ≤ 100000 := by
  by_cases h : (readE P bs).2 = 0
  · obtain ⟨x, l, h1, h2, h3, h4, h5⟩ := readE_zero (P := P) (bs := bs) (o := (readE P bs).1) (by rw [← h])
    rw [h1, Option.getD_some]
    have h6 := (hg _ _ _).1 h2
    rw [List.append_nil] at h6
    subst h6
    have := enc_len (f x) h3
    omega
  · rw [readE_ne h, Option.getD_none]
    omega
theorem parts_len (r : Record) : (numEvent r.event).length ≤ (numPart r true).length + (numPart r false).length ∧ (numBase r.base).length ≤ (numPart r true).length + (numPart r false).length ∧ (numEntry r.entry).length ≤ (numPart r true).length + (numPart r false).length := by
  unfold numPart
  simp only [List.length_append]
  refine ⟨?_, ?_, ?_⟩
  · by_cases h : r.kind = 0 <;> simp [h] <;> omega
  · by_cases h : r.kind = 1 <;> simp [h] <;> omega
  · by_cases h : r.kind = 3 <;> simp [h] <;> omega
theorem readE_short (bs : List UInt8) : ShortR ((readE recordP bs).1.getD zR) := by
  by_cases h : (readE recordP bs).2 = 0
  · obtain ⟨x, l, h1, h2, h3, h4, h5⟩ := readE_zero (P := recordP) (bs := bs) (o := (readE recordP bs).1) (by rw [← h])
    rw [h1, Option.getD_some]
    obtain ⟨hf, h6⟩ := (recordP_some _ _ _).1 h2
    rw [List.append_nil] at h6
    subst h6
    have h7 := enc_len (numRecord x) h3
    have h8 := formed_small hf
    have h9 := parts_len x
    simp only [numRecord, List.length_cons] at h7
    unfold ShortR
    omega
  · rw [readE_ne h, Option.getD_none]
    unfold ShortR
    decide
theorem zE_va (w : World) : VA rdEvent w (.agg #[.int .i64 0, .int .i64 0, .int .i64 0, .slice none 0 0, .int .i64 0, .int .i64 0, .int .i64 0, .int .i64 0, .int .i64 0, .int .i64 0, .int .i64 0, .int .i64 0, .int .i64 0]) zE := ⟨_, rfl, _, rfl, Sl.nil _ _ _⟩
theorem zB_va (w : World) : VA rdBaseC w (.agg #[.slice none 0 0, .int .i64 0, .slice none 0 0, .slice none 0 0, .slice none 0 0, .slice none 0 0, .slice none 0 0]) zB := ⟨_, rfl, _, _, _, _, _, _, rfl, Sl.nil _ _ _, Sl.nil _ _ _, Sl.nil _ _ _, Sl.nil _ _ _, Sl.nil _ _ _, Sl.nil _ _ _⟩
theorem zR_va (w : World) : VA rdRecord w (.agg #[.int .i64 0, .int .i64 0, .int .i64 0, .int .i64 0, .slice none 0 0, .int .i64 0, .int .i64 0, .int .i64 0, .int .i64 0, .int .i64 0, .int .i64 0, .int .i64 0, .int .i64 0, .int .i64 0, .slice none 0 0, .int .i64 0, .slice none 0 0, .slice none 0 0, .slice none 0 0, .slice none 0 0, .slice none 0 0, .int .i64 0, .int .i64 0, .int .i64 0, .int .i64 0, .int .i64 0, .int .i64 0, .int .i64 0, .int .i64 0, .slice none 0 0]) zR := ⟨_, rfl, _, _, _, _, _, _, _, _, rfl, Sl.nil _ _ _, Sl.nil _ _ _, Sl.nil _ _ _, Sl.nil _ _ _, Sl.nil _ _ _, Sl.nil _ _ _, Sl.nil _ _ _, Sl.nil _ _ _⟩
theorem zM_va (w : World) : MessageV w (.agg #[.int .i64 0, .int .i64 0, .int .i64 0, .slice none 0 0, .slice none 0 0, .slice none 0 0, .int .i64 0, .int .i64 0, .int .i64 0, .int .i64 0, .int .i64 0, .slice none 0 0, .int .i64 0, .int .i64 0, .int .i64 0, .int .i64 0, .bool false, .slice none 0 0]) zM := ⟨_, _, _, _, _, rfl, Sl.nil _ _ _, Sl.nil _ _ _, Sl.nil _ _ _, Sl.nil _ _ _, Sl.nil _ _ _⟩
set_option maxRecDepth 100000 in
set_option maxHeartbeats 16000000 in
theorem bytes_walk (bs : List UInt8) (w : World) : Calls Try.prog 7 #[strV bs] w fun e w' => e = .returned (.bool true) ∧ Kp w w' := by
  have hsz : (⟨bs.toArray⟩ : ByteArray).size = bs.length := by simp [ByteArray.size]
  by_cases hlen : 600 < bs.length
  · have e1 : decide ((600 : Int) < (bs.length : Int)) = true := decide_eq_true (by omega)
    go_enter Try.func7, Try.ntmps7
    go_wp2_with fail
    refine (awake_any _).mono ?_
    rintro e w1 ⟨rfl, k1⟩
    go_wp2
    go_ret
    exact ⟨rfl, k1⟩
  · have e1 : decide ((600 : Int) < (bs.length : Int)) = false := decide_eq_false (by omega)
    have HLE := readE_num eventP_good zE (by decide) bs
    have HLB := readE_num baseP_good zB (by decide) bs
    have HLM := readE_num messageP_good zM (by decide) bs
    have HLR := readE_short bs
    go_enter Try.func7, Try.ntmps7
    go_wp2_with fail
    refine (awake_any _).mono ?_
    rintro e w1 ⟨rfl, k1⟩
    go_wp2_with fail
    refine (decodeEvent bs _).mono ?_
    rintro e w2 ⟨v2, rfl, ho, k2⟩
    replace k2 := k1.trans k2
    obtain ⟨cm, rfl, hl2, h12⟩ := (va_cells fun _ _ _ h => event_one h) _ _ _ ho.here
    have hV2 := EventV.va ho.here
    have hth := there_new w2 #[.int .i64 0, .int .i64 0, .int .i64 0, .slice none 0 0, .int .i64 0, .int .i64 0, .int .i64 0, .int .i64 0, .int .i64 0, .int .i64 0, .int .i64 0, .int .i64 0, .int .i64 0] 37 cm.length (by rw [hl2]; rfl)
    have hin : (Try.prog.info? 37).map (·.size) = some cm.length := by rw [hl2]; kernel_rfl
    have hB2 := (Bx.new w2 #[.int .i64 0, .int .i64 0, .int .i64 0, .slice none 0 0, .int .i64 0, .int .i64 0, .int .i64 0, .int .i64 0, .int .i64 0, .int .i64 0, .int .i64 0, .int .i64 0, .int .i64 0] 37).all (cs := cm) (by rw [hl2]; rfl)
    have kq : Kp w2 ((w2.alloc (.cells #[.int .i64 0, .int .i64 0, .int .i64 0, .slice none 0 0, .int .i64 0, .int .i64 0, .int .i64 0, .int .i64 0, .int .i64 0, .int .i64 0, .int .i64 0, .int .i64 0, .int .i64 0] 37)).setCells w2.heap.size 0 cm) := Kp.setCells (Nat.le_refl _) cm 0 _ ((Kp.refl w2).alloc _)
    replace hV2 := hV2.kp kq
    replace k2 := k2.trans kq
    clear ho kq k1
    go_wp2_with (refine wpList_store_mid rfl 37 (.tmp 3) (.tmp 21) rfl w2.heap.size 0 cm.toArray rfl rfl hth hin (all_oneCell_toArray h12) ?_; generalize (w2.alloc (.cells #[.int .i64 0, .int .i64 0, .int .i64 0, .slice none 0 0, .int .i64 0, .int .i64 0, .int .i64 0, .int .i64 0, .int .i64 0, .int .i64 0, .int .i64 0, .int .i64 0, .int .i64 0] 37)).setCells w2.heap.size 0 cm = w3 at *)
    generalize w2.heap.size = b2 at *
    clear hth
    refine (rDecodeEvent_any bs w3 zE_va).mono ?_
    rintro e w4 ⟨v4, rfl, ho, k4⟩
    obtain ⟨cn, rfl, hl4, h14⟩ := (va_cells fun _ _ _ h => event_one h) _ _ _ ho.here
    have hV4 := EventV.va ho.here
    have hth := there_new w4 #[.int .i64 0, .int .i64 0, .int .i64 0, .slice none 0 0, .int .i64 0, .int .i64 0, .int .i64 0, .int .i64 0, .int .i64 0, .int .i64 0, .int .i64 0, .int .i64 0, .int .i64 0] 37 cn.length (by rw [hl4]; rfl)
    have hin4 : (Try.prog.info? 37).map (·.size) = some cn.length := by rw [hl4]; kernel_rfl
    have hB4 := (Bx.new w4 #[.int .i64 0, .int .i64 0, .int .i64 0, .slice none 0 0, .int .i64 0, .int .i64 0, .int .i64 0, .int .i64 0, .int .i64 0, .int .i64 0, .int .i64 0, .int .i64 0, .int .i64 0] 37).all (cs := cn) (by rw [hl4]; rfl)
    have kq : Kp w4 ((w4.alloc (.cells #[.int .i64 0, .int .i64 0, .int .i64 0, .slice none 0 0, .int .i64 0, .int .i64 0, .int .i64 0, .int .i64 0, .int .i64 0, .int .i64 0, .int .i64 0, .int .i64 0, .int .i64 0] 37)).setCells w4.heap.size 0 cn) := Kp.setCells (Nat.le_refl _) cn 0 _ ((Kp.refl w4).alloc _)
    replace hV4 := hV4.kp kq
    replace hV2 := hV2.kp (k4.trans kq)
    have rB2 := (k4.trans kq).range hB2.range
    replace k4 := k2.trans (k4.trans kq)
    clear ho kq k2 hB2
    generalize (readE eventP bs).2 = er at *
    generalize hxx : (readE eventP bs).1.getD zE = x at *
    replace hxx := hid hxx
    have HL : x.past.length ≤ 1000000000 := by
      have h1 := numIs_len x.past
      simp only [numEvent, List.length_append, List.length_cons, List.length_nil] at HLE
      omega
    go_wp2_with (refine wpList_store_mid rfl 37 (.tmp 5) (.tmp 26) rfl w4.heap.size 0 cn.toArray rfl rfl hth hin4 (all_oneCell_toArray h14) ?_; generalize (w4.alloc (.cells #[.int .i64 0, .int .i64 0, .int .i64 0, .slice none 0 0, .int .i64 0, .int .i64 0, .int .i64 0, .int .i64 0, .int .i64 0, .int .i64 0, .int .i64 0, .int .i64 0, .int .i64 0] 37)).setCells w4.heap.size 0 cn = w5 at *)
    generalize w4.heap.size = b4 at *
    have hS : ∀ W, Kp w5 W → (W.rangeAt b2 0 cm ∧ W.rangeAt b4 0 cn ∧ Kp w5 W) := fun W hk => ⟨hk.range rB2, hk.range hB4.range, hk⟩
    refine wp_region_held_drew (S := fun W => W.rangeAt b2 0 cm ∧ W.rangeAt b4 0 cn ∧ Kp w5 W) (by kernel_rfl) (hS _ (Kp.refl _).drew) (fun hHeld => ?_)
    refine take_at 0 28 (v := ?_) rfl rfl (by kernel_rfl) (by kernel_rfl) (by kernel_rfl) (fun _ _ _ h => h) hHeld (Or.inl ⟨by kernel_rfl, ?_⟩) ?_
    rotate_left
    · intro w hSw; (try dsimp only at hSw); go_simp; try with_reducible rfl
    simp only [Act.put, List.setIfInBounds_toArray, List.set_cons_zero, List.set_cons_succ]
    refine take_at 1 29 (v := ?_) rfl rfl (by kernel_rfl) (by kernel_rfl) (by kernel_rfl) (fun _ _ _ h => h) hHeld (Or.inl ⟨by kernel_rfl, ?_⟩) ?_
    rotate_left
    · intro w hSw; (try dsimp only at hSw); go_simp; try with_reducible rfl
    simp only [Act.put, List.setIfInBounds_toArray, List.set_cons_zero, List.set_cons_succ]
    refine take_at 2 30 (v := ?_) rfl rfl (by kernel_rfl) (by kernel_rfl) (by kernel_rfl) (fun _ _ _ h => h) hHeld (Or.inl ⟨by kernel_rfl, ?_⟩) ?_
    rotate_left
    · intro w hSw; (try dsimp only at hSw); go_simp; try with_reducible rfl
    simp only [Act.put, List.setIfInBounds_toArray, List.set_cons_zero, List.set_cons_succ]
    refine take_at 3 31 (v := ?_) rfl rfl (by kernel_rfl) (by kernel_rfl) (by kernel_rfl) (fun _ _ _ h => h) hHeld (Or.inl ⟨by kernel_rfl, ?_⟩) ?_
    rotate_left
    · intro w hSw; (try dsimp only at hSw); go_simp; try with_reducible rfl
    simp only [Act.put, List.setIfInBounds_toArray, List.set_cons_zero, List.set_cons_succ]
    refine take_at 4 32 (v := _) rfl rfl (by kernel_rfl) (by kernel_rfl) (by kernel_rfl) (fun _ _ _ h => h) hHeld (yieldsIf_load_mid (by kernel_rfl) 37 _ rfl _ 0 rfl cm _ (fun _ h => h.1) Try.underlying37 rfl (by assumption)) ?_
    simp only [Act.put, List.setIfInBounds_toArray, List.set_cons_zero, List.set_cons_succ]
    refine take_at 6 34 (v := _) rfl rfl (by kernel_rfl) (by kernel_rfl) (by kernel_rfl) (fun _ _ _ h => h) hHeld (yieldsIf_load_mid (by kernel_rfl) 37 _ rfl _ 0 rfl cn _ (fun _ h => h.2.1) Try.underlying37 rfl (by assumption)) ?_
    simp only [Act.put, List.setIfInBounds_toArray, List.set_cons_zero, List.set_cons_succ]
    refine wpAnyH_ready (rs := [5]) (by kernel_rfl) (by simp) ?_
    refine AllReadyH.cons (o := _) rfl (fun K hK => ?_) AllReadyH.nil
    go_simp
    refine (nEvent_any _ x _ (hV2.kp hHeld.2.2) HL).mono ?_
    rintro e w9 ⟨v9, rfl, own9, h9⟩
    obtain ⟨D1, z1, rfl, zz1, zf1⟩ := own9.form
    refine hK.out _ _ (hS _ (hHeld.2.2.trans h9)) (fun hHeld2 => ?_)
    clear hK K hHeld
    have hHeld := hHeld2
    clear hHeld2
    refine wpAnyH_ready (rs := [7]) (by kernel_rfl) (by simp) ?_
    refine AllReadyH.cons (o := _) rfl (fun K hK => ?_) AllReadyH.nil
    go_simp
    refine (nEvent_any _ x _ (hV4.kp hHeld.2.2) HL).mono ?_
    rintro e wa ⟨v10, rfl, own10, h10⟩
    obtain ⟨D2, z2, rfl, zz2, zf2⟩ := own10.form
    refine hK.out _ _ (hS _ (hHeld.2.2.trans h10)) (fun hHeld2 => ?_)
    clear hK K hHeld
    have hHeld := hHeld2
    clear hHeld2
    refine wpAnyH_ready (rs := [8]) (by kernel_rfl) (by simp) ?_
    refine AllReadyH.cons (o := _) rfl (fun K hK => ?_) AllReadyH.nil
    go_simp
    refine (Same_any _ _ (numEvent x) (numEvent x) _ ((own9.sl encInt_len).keep (pl_stable _) h10) (own10.sl encInt_len)).mono ?_
    rintro e wb ⟨rfl, h11⟩
    refine hK.out _ _ (hS _ (hHeld.2.2.trans h11)) (fun hHeld2 => ?_)
    clear hK K hHeld
    have hHeld := hHeld2
    clear hHeld2
    rw [decide_eq_true rfl]
    refine take_at 9 37 (v := ?_) rfl rfl (by kernel_rfl) (by kernel_rfl) (by kernel_rfl) (fun _ _ _ h => h) hHeld (Or.inl ⟨by kernel_rfl, ?_⟩) ?_
    rotate_left
    · intro w hSw; (try dsimp only at hSw); go_simp; try with_reducible rfl
    simp only [Act.put, List.setIfInBounds_toArray, List.set_cons_zero, List.set_cons_succ]
    refine take_at 10 38 (v := ?_) rfl rfl (by kernel_rfl) (by kernel_rfl) (by kernel_rfl) (fun _ _ _ h => h) hHeld (Or.inl ⟨by kernel_rfl, ?_⟩) ?_
    rotate_left
    · intro w hSw; (try dsimp only at hSw); go_simp; try with_reducible rfl
    simp only [Act.put, List.setIfInBounds_toArray, List.set_cons_zero, List.set_cons_succ]
    refine wpAnyH_done (by kernel_rfl) ?_ _
    have k1 := k4.trans hHeld.2.2
    clear hS hHeld own9 own10 h9 h10 h11 rB2 hB4 hV2 hV4 hin hin4 hth h12 h14 hl2 hl4 k4 HL hxx
    go_wp2_with fail
    refine (decodeBase bs _).mono ?_
    rintro e w2 ⟨v2, rfl, ho, k2⟩
    replace k2 := k1.trans k2
    obtain ⟨cm, rfl, hl2, h12⟩ := (va_cells fun _ _ _ h => base_one h) _ _ _ ho.here
    have hV2 := BaseV.va ho.here
    have hth := there_new w2 #[.slice none 0 0, .int .i64 0, .slice none 0 0, .slice none 0 0, .slice none 0 0, .slice none 0 0, .slice none 0 0] 42 cm.length (by rw [hl2]; rfl)
    have hin : (Try.prog.info? 42).map (·.size) = some cm.length := by rw [hl2]; kernel_rfl
    have hB2 := (Bx.new w2 #[.slice none 0 0, .int .i64 0, .slice none 0 0, .slice none 0 0, .slice none 0 0, .slice none 0 0, .slice none 0 0] 42).all (cs := cm) (by rw [hl2]; rfl)
    have kq : Kp w2 ((w2.alloc (.cells #[.slice none 0 0, .int .i64 0, .slice none 0 0, .slice none 0 0, .slice none 0 0, .slice none 0 0, .slice none 0 0] 42)).setCells w2.heap.size 0 cm) := Kp.setCells (Nat.le_refl _) cm 0 _ ((Kp.refl w2).alloc _)
    replace hV2 := hV2.kp kq
    replace k2 := k2.trans kq
    clear ho kq k1
    go_wp2_with (refine wpList_store_mid rfl 42 (.tmp 7) (.tmp 42) rfl w2.heap.size 0 cm.toArray rfl rfl hth hin (all_oneCell_toArray h12) ?_; generalize (w2.alloc (.cells #[.slice none 0 0, .int .i64 0, .slice none 0 0, .slice none 0 0, .slice none 0 0, .slice none 0 0, .slice none 0 0] 42)).setCells w2.heap.size 0 cm = w3 at *)
    generalize w2.heap.size = b2 at *
    clear hth
    refine (rDecodeBase_any bs w3 zB_va).mono ?_
    rintro e w4 ⟨v4, rfl, ho, k4⟩
    obtain ⟨cn, rfl, hl4, h14⟩ := (va_cells fun _ _ _ h => base_one h) _ _ _ ho.here
    have hV4 := BaseV.va ho.here
    have hth := there_new w4 #[.slice none 0 0, .int .i64 0, .slice none 0 0, .slice none 0 0, .slice none 0 0, .slice none 0 0, .slice none 0 0] 42 cn.length (by rw [hl4]; rfl)
    have hin4 : (Try.prog.info? 42).map (·.size) = some cn.length := by rw [hl4]; kernel_rfl
    have hB4 := (Bx.new w4 #[.slice none 0 0, .int .i64 0, .slice none 0 0, .slice none 0 0, .slice none 0 0, .slice none 0 0, .slice none 0 0] 42).all (cs := cn) (by rw [hl4]; rfl)
    have kq : Kp w4 ((w4.alloc (.cells #[.slice none 0 0, .int .i64 0, .slice none 0 0, .slice none 0 0, .slice none 0 0, .slice none 0 0, .slice none 0 0] 42)).setCells w4.heap.size 0 cn) := Kp.setCells (Nat.le_refl _) cn 0 _ ((Kp.refl w4).alloc _)
    replace hV4 := hV4.kp kq
    replace hV2 := hV2.kp (k4.trans kq)
    have rB2 := (k4.trans kq).range hB2.range
    replace k4 := k2.trans (k4.trans kq)
    clear ho kq k2 hB2
    generalize (readE baseP bs).2 = er at *
    generalize hxx : (readE baseP bs).1.getD zB = x at *
    replace hxx := hid hxx
    have HL : (numBase x).length ≤ 1000000000 := by omega
    go_wp2_with (refine wpList_store_mid rfl 42 (.tmp 8) (.tmp 47) rfl w4.heap.size 0 cn.toArray rfl rfl hth hin4 (all_oneCell_toArray h14) ?_; generalize (w4.alloc (.cells #[.slice none 0 0, .int .i64 0, .slice none 0 0, .slice none 0 0, .slice none 0 0, .slice none 0 0, .slice none 0 0] 42)).setCells w4.heap.size 0 cn = w5 at *)
    generalize w4.heap.size = b4 at *
    have hS : ∀ W, Kp w5 W → (W.rangeAt b2 0 cm ∧ W.rangeAt b4 0 cn ∧ Kp w5 W) := fun W hk => ⟨hk.range rB2, hk.range hB4.range, hk⟩
    refine wp_region_held_drew (S := fun W => W.rangeAt b2 0 cm ∧ W.rangeAt b4 0 cn ∧ Kp w5 W) (by kernel_rfl) (hS _ (Kp.refl _).drew) (fun hHeld => ?_)
    refine take_at 0 49 (v := ?_) rfl rfl (by kernel_rfl) (by kernel_rfl) (by kernel_rfl) (fun _ _ _ h => h) hHeld (Or.inl ⟨by kernel_rfl, ?_⟩) ?_
    rotate_left
    · intro w hSw; (try dsimp only at hSw); go_simp; try with_reducible rfl
    simp only [Act.put, List.setIfInBounds_toArray, List.set_cons_zero, List.set_cons_succ]
    refine take_at 1 50 (v := ?_) rfl rfl (by kernel_rfl) (by kernel_rfl) (by kernel_rfl) (fun _ _ _ h => h) hHeld (Or.inl ⟨by kernel_rfl, ?_⟩) ?_
    rotate_left
    · intro w hSw; (try dsimp only at hSw); go_simp; try with_reducible rfl
    simp only [Act.put, List.setIfInBounds_toArray, List.set_cons_zero, List.set_cons_succ]
    refine take_at 2 51 (v := ?_) rfl rfl (by kernel_rfl) (by kernel_rfl) (by kernel_rfl) (fun _ _ _ h => h) hHeld (Or.inl ⟨by kernel_rfl, ?_⟩) ?_
    rotate_left
    · intro w hSw; (try dsimp only at hSw); go_simp; try with_reducible rfl
    simp only [Act.put, List.setIfInBounds_toArray, List.set_cons_zero, List.set_cons_succ]
    refine take_at 3 52 (v := ?_) rfl rfl (by kernel_rfl) (by kernel_rfl) (by kernel_rfl) (fun _ _ _ h => h) hHeld (Or.inl ⟨by kernel_rfl, ?_⟩) ?_
    rotate_left
    · intro w hSw; (try dsimp only at hSw); go_simp; try with_reducible rfl
    simp only [Act.put, List.setIfInBounds_toArray, List.set_cons_zero, List.set_cons_succ]
    refine take_at 4 53 (v := _) rfl rfl (by kernel_rfl) (by kernel_rfl) (by kernel_rfl) (fun _ _ _ h => h) hHeld (yieldsIf_load_mid (by kernel_rfl) 42 _ rfl _ 0 rfl cm _ (fun _ h => h.1) Try.underlying42 rfl (by assumption)) ?_
    simp only [Act.put, List.setIfInBounds_toArray, List.set_cons_zero, List.set_cons_succ]
    refine take_at 6 55 (v := _) rfl rfl (by kernel_rfl) (by kernel_rfl) (by kernel_rfl) (fun _ _ _ h => h) hHeld (yieldsIf_load_mid (by kernel_rfl) 42 _ rfl _ 0 rfl cn _ (fun _ h => h.2.1) Try.underlying42 rfl (by assumption)) ?_
    simp only [Act.put, List.setIfInBounds_toArray, List.set_cons_zero, List.set_cons_succ]
    refine wpAnyH_ready (rs := [5]) (by kernel_rfl) (by simp) ?_
    refine AllReadyH.cons (o := _) rfl (fun K hK => ?_) AllReadyH.nil
    go_simp
    refine (nBase_any _ x _ (hV2.kp hHeld.2.2) HL).mono ?_
    rintro e w9 ⟨v9, rfl, own9, h9⟩
    obtain ⟨D1, z1, rfl, zz1, zf1⟩ := own9.form
    refine hK.out _ _ (hS _ (hHeld.2.2.trans h9)) (fun hHeld2 => ?_)
    clear hK K hHeld
    have hHeld := hHeld2
    clear hHeld2
    refine wpAnyH_ready (rs := [7]) (by kernel_rfl) (by simp) ?_
    refine AllReadyH.cons (o := _) rfl (fun K hK => ?_) AllReadyH.nil
    go_simp
    refine (nBase_any _ x _ (hV4.kp hHeld.2.2) HL).mono ?_
    rintro e wa ⟨v10, rfl, own10, h10⟩
    obtain ⟨D2, z2, rfl, zz2, zf2⟩ := own10.form
    refine hK.out _ _ (hS _ (hHeld.2.2.trans h10)) (fun hHeld2 => ?_)
    clear hK K hHeld
    have hHeld := hHeld2
    clear hHeld2
    refine wpAnyH_ready (rs := [8]) (by kernel_rfl) (by simp) ?_
    refine AllReadyH.cons (o := _) rfl (fun K hK => ?_) AllReadyH.nil
    go_simp
    refine (Same_any _ _ (numBase x) (numBase x) _ ((own9.sl encInt_len).keep (pl_stable _) h10) (own10.sl encInt_len)).mono ?_
    rintro e wb ⟨rfl, h11⟩
    refine hK.out _ _ (hS _ (hHeld.2.2.trans h11)) (fun hHeld2 => ?_)
    clear hK K hHeld
    have hHeld := hHeld2
    clear hHeld2
    rw [decide_eq_true rfl]
    refine take_at 9 58 (v := ?_) rfl rfl (by kernel_rfl) (by kernel_rfl) (by kernel_rfl) (fun _ _ _ h => h) hHeld (Or.inl ⟨by kernel_rfl, ?_⟩) ?_
    rotate_left
    · intro w hSw; (try dsimp only at hSw); go_simp; try with_reducible rfl
    simp only [Act.put, List.setIfInBounds_toArray, List.set_cons_zero, List.set_cons_succ]
    refine take_at 10 59 (v := ?_) rfl rfl (by kernel_rfl) (by kernel_rfl) (by kernel_rfl) (fun _ _ _ h => h) hHeld (Or.inl ⟨by kernel_rfl, ?_⟩) ?_
    rotate_left
    · intro w hSw; (try dsimp only at hSw); go_simp; try with_reducible rfl
    simp only [Act.put, List.setIfInBounds_toArray, List.set_cons_zero, List.set_cons_succ]
    refine wpAnyH_done (by kernel_rfl) ?_ _
    have k1 := k4.trans hHeld.2.2
    clear hS hHeld own9 own10 h9 h10 h11 rB2 hB4 hV2 hV4 hin hin4 hth h12 h14 hl2 hl4 k4 HL hxx
    go_wp2_with fail
    refine (decodeRecord bs _).mono ?_
    rintro e w2 ⟨v2, rfl, ho, k2⟩
    replace k2 := k1.trans k2
    obtain ⟨cm, rfl, hl2, h12⟩ := (va_cells fun _ _ _ h => rdRecord_one h) _ _ _ ho.here
    have hV2 := RecordV.va ho.here
    have hth := there_new w2 #[.int .i64 0, .int .i64 0, .int .i64 0, .int .i64 0, .slice none 0 0, .int .i64 0, .int .i64 0, .int .i64 0, .int .i64 0, .int .i64 0, .int .i64 0, .int .i64 0, .int .i64 0, .int .i64 0, .slice none 0 0, .int .i64 0, .slice none 0 0, .slice none 0 0, .slice none 0 0, .slice none 0 0, .slice none 0 0, .int .i64 0, .int .i64 0, .int .i64 0, .int .i64 0, .int .i64 0, .int .i64 0, .int .i64 0, .int .i64 0, .slice none 0 0] 46 cm.length (by rw [hl2]; rfl)
    have hin : (Try.prog.info? 46).map (·.size) = some cm.length := by rw [hl2]; kernel_rfl
    have hB2 := (Bx.new w2 #[.int .i64 0, .int .i64 0, .int .i64 0, .int .i64 0, .slice none 0 0, .int .i64 0, .int .i64 0, .int .i64 0, .int .i64 0, .int .i64 0, .int .i64 0, .int .i64 0, .int .i64 0, .int .i64 0, .slice none 0 0, .int .i64 0, .slice none 0 0, .slice none 0 0, .slice none 0 0, .slice none 0 0, .slice none 0 0, .int .i64 0, .int .i64 0, .int .i64 0, .int .i64 0, .int .i64 0, .int .i64 0, .int .i64 0, .int .i64 0, .slice none 0 0] 46).all (cs := cm) (by rw [hl2]; rfl)
    have kq : Kp w2 ((w2.alloc (.cells #[.int .i64 0, .int .i64 0, .int .i64 0, .int .i64 0, .slice none 0 0, .int .i64 0, .int .i64 0, .int .i64 0, .int .i64 0, .int .i64 0, .int .i64 0, .int .i64 0, .int .i64 0, .int .i64 0, .slice none 0 0, .int .i64 0, .slice none 0 0, .slice none 0 0, .slice none 0 0, .slice none 0 0, .slice none 0 0, .int .i64 0, .int .i64 0, .int .i64 0, .int .i64 0, .int .i64 0, .int .i64 0, .int .i64 0, .int .i64 0, .slice none 0 0] 46)).setCells w2.heap.size 0 cm) := Kp.setCells (Nat.le_refl _) cm 0 _ ((Kp.refl w2).alloc _)
    replace hV2 := hV2.kp kq
    replace k2 := k2.trans kq
    clear ho kq k1
    go_wp2_with (refine wpList_store_mid rfl 46 (.tmp 9) (.tmp 63) rfl w2.heap.size 0 cm.toArray rfl rfl hth hin (all_oneCell_toArray h12) ?_; generalize (w2.alloc (.cells #[.int .i64 0, .int .i64 0, .int .i64 0, .int .i64 0, .slice none 0 0, .int .i64 0, .int .i64 0, .int .i64 0, .int .i64 0, .int .i64 0, .int .i64 0, .int .i64 0, .int .i64 0, .int .i64 0, .slice none 0 0, .int .i64 0, .slice none 0 0, .slice none 0 0, .slice none 0 0, .slice none 0 0, .slice none 0 0, .int .i64 0, .int .i64 0, .int .i64 0, .int .i64 0, .int .i64 0, .int .i64 0, .int .i64 0, .int .i64 0, .slice none 0 0] 46)).setCells w2.heap.size 0 cm = w3 at *)
    generalize w2.heap.size = b2 at *
    clear hth
    refine (rDecodeRecord_any bs w3 zR_va).mono ?_
    rintro e w4 ⟨v4, rfl, ho, k4⟩
    obtain ⟨cn, rfl, hl4, h14⟩ := (va_cells fun _ _ _ h => rdRecord_one h) _ _ _ ho.here
    have hV4 := RecordV.va ho.here
    have hth := there_new w4 #[.int .i64 0, .int .i64 0, .int .i64 0, .int .i64 0, .slice none 0 0, .int .i64 0, .int .i64 0, .int .i64 0, .int .i64 0, .int .i64 0, .int .i64 0, .int .i64 0, .int .i64 0, .int .i64 0, .slice none 0 0, .int .i64 0, .slice none 0 0, .slice none 0 0, .slice none 0 0, .slice none 0 0, .slice none 0 0, .int .i64 0, .int .i64 0, .int .i64 0, .int .i64 0, .int .i64 0, .int .i64 0, .int .i64 0, .int .i64 0, .slice none 0 0] 46 cn.length (by rw [hl4]; rfl)
    have hin4 : (Try.prog.info? 46).map (·.size) = some cn.length := by rw [hl4]; kernel_rfl
    have hB4 := (Bx.new w4 #[.int .i64 0, .int .i64 0, .int .i64 0, .int .i64 0, .slice none 0 0, .int .i64 0, .int .i64 0, .int .i64 0, .int .i64 0, .int .i64 0, .int .i64 0, .int .i64 0, .int .i64 0, .int .i64 0, .slice none 0 0, .int .i64 0, .slice none 0 0, .slice none 0 0, .slice none 0 0, .slice none 0 0, .slice none 0 0, .int .i64 0, .int .i64 0, .int .i64 0, .int .i64 0, .int .i64 0, .int .i64 0, .int .i64 0, .int .i64 0, .slice none 0 0] 46).all (cs := cn) (by rw [hl4]; rfl)
    have kq : Kp w4 ((w4.alloc (.cells #[.int .i64 0, .int .i64 0, .int .i64 0, .int .i64 0, .slice none 0 0, .int .i64 0, .int .i64 0, .int .i64 0, .int .i64 0, .int .i64 0, .int .i64 0, .int .i64 0, .int .i64 0, .int .i64 0, .slice none 0 0, .int .i64 0, .slice none 0 0, .slice none 0 0, .slice none 0 0, .slice none 0 0, .slice none 0 0, .int .i64 0, .int .i64 0, .int .i64 0, .int .i64 0, .int .i64 0, .int .i64 0, .int .i64 0, .int .i64 0, .slice none 0 0] 46)).setCells w4.heap.size 0 cn) := Kp.setCells (Nat.le_refl _) cn 0 _ ((Kp.refl w4).alloc _)
    replace hV4 := hV4.kp kq
    replace hV2 := hV2.kp (k4.trans kq)
    have rB2 := (k4.trans kq).range hB2.range
    replace k4 := k2.trans (k4.trans kq)
    clear ho kq k2 hB2
    generalize (readE recordP bs).2 = er at *
    generalize hxx : (readE recordP bs).1.getD zR = x at *
    replace hxx := hid hxx
    go_wp2_with (first | (refine wpList_store_mid rfl 46 (.tmp 10) (.tmp 68) rfl w4.heap.size 0 cn.toArray rfl rfl hth hin4 (all_oneCell_toArray h14) ?_; generalize (w4.alloc (.cells #[.int .i64 0, .int .i64 0, .int .i64 0, .int .i64 0, .slice none 0 0, .int .i64 0, .int .i64 0, .int .i64 0, .int .i64 0, .int .i64 0, .int .i64 0, .int .i64 0, .int .i64 0, .int .i64 0, .slice none 0 0, .int .i64 0, .slice none 0 0, .slice none 0 0, .slice none 0 0, .slice none 0 0, .slice none 0 0, .int .i64 0, .int .i64 0, .int .i64 0, .int .i64 0, .int .i64 0, .int .i64 0, .int .i64 0, .int .i64 0, .slice none 0 0] 46)).setCells w4.heap.size 0 cn = w5 at *) | (refine wpList_load_mid_g (by kernel_rfl) 46 (.tmp 9) rfl b2 0 rfl cm _ rB2 Try.underlying46 rfl hin ?_) | (refine wpList_load_mid_g (by kernel_rfl) 46 (.tmp 10) rfl w4.heap.size 0 rfl cn _ hB4.range Try.underlying46 rfl hin4 ?_))
    refine (SameRecord_any _ _ x x _ hV2 hV4 HLR HLR).mono ?_
    rintro e w9 ⟨rfl, h9⟩
    have k1 := k4.trans h9
    have hSR : sameR x x = true := by simp [sameR]
    rw [hSR]
    clear rB2 hB4 hV2 hV4 hin hin4 hth h12 h14 hl2 hl4 k4 hxx h9 HLR hSR
    go_wp2_with fail
    refine (decodeMessage bs _).mono ?_
    rintro e w2 ⟨v2, rfl, ho, k2⟩
    replace k2 := k1.trans k2
    obtain ⟨cm, rfl, hl2, h12⟩ := message_cells _ _ _ ho.here
    have hV2 := id ho.here
    have hth := there_new w2 #[.int .i64 0, .int .i64 0, .int .i64 0, .slice none 0 0, .slice none 0 0, .slice none 0 0, .int .i64 0, .int .i64 0, .int .i64 0, .int .i64 0, .int .i64 0, .slice none 0 0, .int .i64 0, .int .i64 0, .int .i64 0, .int .i64 0, .bool false, .slice none 0 0] 78 cm.length (by rw [hl2]; rfl)
    have hin : (Try.prog.info? 78).map (·.size) = some cm.length := by rw [hl2]; kernel_rfl
    have hB2 := (Bx.new w2 #[.int .i64 0, .int .i64 0, .int .i64 0, .slice none 0 0, .slice none 0 0, .slice none 0 0, .int .i64 0, .int .i64 0, .int .i64 0, .int .i64 0, .int .i64 0, .slice none 0 0, .int .i64 0, .int .i64 0, .int .i64 0, .int .i64 0, .bool false, .slice none 0 0] 78).all (cs := cm) (by rw [hl2]; rfl)
    have kq : Kp w2 ((w2.alloc (.cells #[.int .i64 0, .int .i64 0, .int .i64 0, .slice none 0 0, .slice none 0 0, .slice none 0 0, .int .i64 0, .int .i64 0, .int .i64 0, .int .i64 0, .int .i64 0, .slice none 0 0, .int .i64 0, .int .i64 0, .int .i64 0, .int .i64 0, .bool false, .slice none 0 0] 78)).setCells w2.heap.size 0 cm) := Kp.setCells (Nat.le_refl _) cm 0 _ ((Kp.refl w2).alloc _)
    replace hV2 := hV2.kp kq
    replace k2 := k2.trans kq
    clear ho kq k1
    go_wp2_with (refine wpList_store_mid rfl 78 (.tmp 11) (.tmp 82) rfl w2.heap.size 0 cm.toArray rfl rfl hth hin (all_oneCell_toArray h12) ?_; generalize (w2.alloc (.cells #[.int .i64 0, .int .i64 0, .int .i64 0, .slice none 0 0, .slice none 0 0, .slice none 0 0, .int .i64 0, .int .i64 0, .int .i64 0, .int .i64 0, .int .i64 0, .slice none 0 0, .int .i64 0, .int .i64 0, .int .i64 0, .int .i64 0, .bool false, .slice none 0 0] 78)).setCells w2.heap.size 0 cm = w3 at *)
    generalize w2.heap.size = b2 at *
    clear hth
    refine (rDecodeMessage_any bs w3 zM_va).mono ?_
    rintro e w4 ⟨v4, rfl, ho, k4⟩
    obtain ⟨cn, rfl, hl4, h14⟩ := message_cells _ _ _ ho.here
    have hV4 := id ho.here
    have hth := there_new w4 #[.int .i64 0, .int .i64 0, .int .i64 0, .slice none 0 0, .slice none 0 0, .slice none 0 0, .int .i64 0, .int .i64 0, .int .i64 0, .int .i64 0, .int .i64 0, .slice none 0 0, .int .i64 0, .int .i64 0, .int .i64 0, .int .i64 0, .bool false, .slice none 0 0] 78 cn.length (by rw [hl4]; rfl)
    have hin4 : (Try.prog.info? 78).map (·.size) = some cn.length := by rw [hl4]; kernel_rfl
    have hB4 := (Bx.new w4 #[.int .i64 0, .int .i64 0, .int .i64 0, .slice none 0 0, .slice none 0 0, .slice none 0 0, .int .i64 0, .int .i64 0, .int .i64 0, .int .i64 0, .int .i64 0, .slice none 0 0, .int .i64 0, .int .i64 0, .int .i64 0, .int .i64 0, .bool false, .slice none 0 0] 78).all (cs := cn) (by rw [hl4]; rfl)
    have kq : Kp w4 ((w4.alloc (.cells #[.int .i64 0, .int .i64 0, .int .i64 0, .slice none 0 0, .slice none 0 0, .slice none 0 0, .int .i64 0, .int .i64 0, .int .i64 0, .int .i64 0, .int .i64 0, .slice none 0 0, .int .i64 0, .int .i64 0, .int .i64 0, .int .i64 0, .bool false, .slice none 0 0] 78)).setCells w4.heap.size 0 cn) := Kp.setCells (Nat.le_refl _) cn 0 _ ((Kp.refl w4).alloc _)
    replace hV4 := hV4.kp kq
    replace hV2 := hV2.kp (k4.trans kq)
    have rB2 := (k4.trans kq).range hB2.range
    replace k4 := k2.trans (k4.trans kq)
    clear ho kq k2 hB2
    generalize (readE messageP bs).2 = er at *
    generalize hxx : (readE messageP bs).1.getD zM = x at *
    replace hxx := hid hxx
    go_wp2_with (first | (refine wpList_store_mid rfl 78 (.tmp 12) (.tmp 87) rfl w4.heap.size 0 cn.toArray rfl rfl hth hin4 (all_oneCell_toArray h14) ?_; generalize (w4.alloc (.cells #[.int .i64 0, .int .i64 0, .int .i64 0, .slice none 0 0, .slice none 0 0, .slice none 0 0, .int .i64 0, .int .i64 0, .int .i64 0, .int .i64 0, .int .i64 0, .slice none 0 0, .int .i64 0, .int .i64 0, .int .i64 0, .int .i64 0, .bool false, .slice none 0 0] 78)).setCells w4.heap.size 0 cn = w5 at *) | (refine wpList_load_mid_g (by kernel_rfl) 78 (.tmp 11) rfl b2 0 rfl cm _ rB2 Try.underlying78 rfl hin ?_) | (refine wpList_load_mid_g (by kernel_rfl) 78 (.tmp 12) rfl w4.heap.size 0 rfl cn _ hB4.range Try.underlying78 rfl hin4 ?_))
    refine (SameMessage_any _ _ x x _ hV2 hV4 (by omega) (by omega)).mono ?_
    rintro e w9 ⟨rfl, h9⟩
    rw [decide_eq_true rfl]
    go_wp2
    go_ret
    exact ⟨rfl, k4.trans h9⟩
end Go.Proofs.Ytmeafoakbkjifaa
