
/-
Events and bases: what the code writes is what the reference writes, and reading it gives them: the walk.
-/
import Derived.Test.YtmeafoakbkjifaaNC
namespace Go.Proofs.Ytmeafoakbkjifaa
set_option linter.unusedSimpArgs false
set_option linter.unusedVariables false
open Go.RowKit

set_option maxRecDepth 100000 in
set_option maxHeartbeats 8000000 in
theorem events_walk (va vb : Value) (x : Event) (y : Base) (w : World) (hx : EventV w va x) (hy : BaseV w vb y) (lx : (numEvent x).length ≤ 1000000000) (ly : (numBase y).length ≤ 1000000000) :
    Calls Try.prog 5 #[va, vb] w fun e w' => e = .returned (.bool true) ∧ Kp w w' := by
  have hpx : x.past.length ≤ 1000000000 := by
    have h1 := numIs_len x.past
    simp only [numEvent, List.length_append, List.length_cons, List.length_nil] at lx
    omega
  obtain ⟨ca, rfl, hca⟩ := hx.cells
  obtain ⟨cb, rfl, hcb⟩ := hy.cells
  have kk := ((Kp.refl w).alloc (.cells ca.toArray 37)).alloc (.cells cb.toArray 42)
  have r0 := ((Kp.refl _).alloc (.cells cb.toArray 42)).range (range_box w ca 37)
  have q0 := range_box (w.alloc (.cells ca.toArray 37)) cb 42
  rw [World.size_alloc] at q0
  have hia : (Try.prog.info? 37).map (·.size) = some ca.length := by rw [hca]; kernel_rfl
  have hib : (Try.prog.info? 42).map (·.size) = some cb.length := by rw [hcb]; kernel_rfl
  have hx0 := hx.kp kk
  have hy0 := hy.kp kk
  clear hx hy
  go_enter Try.func5, Try.ntmps5
  go_wp2_with fail
  generalize (w.alloc (.cells ca.toArray 37)).alloc (.cells cb.toArray 42) = w0 at *
  generalize w.heap.size + 1 = bb at *
  generalize w.heap.size = b at *
  refine (awake_any _).mono ?_
  rintro e w1 ⟨rfl, k1⟩
  have r1 := k1.range r0
  go_wp2_with (refine wpList_load_mid rfl 37 (.tmp 2) rfl b 0 rfl ca _ r1 Try.underlying37 rfl hia ?_)
  refine (nEvent_any _ x _ (hx0.kp k1) hpx).mono ?_
  rintro e w2 ⟨v2, rfl, own2, k2⟩
  have s2 := own2.sl encInt_len
  obtain ⟨A2, c2, rfl, hc2, hm2⟩ := own2.form
  replace k2 := k1.trans k2
  go_wp2_with fail
  refine (Small_any _ (numEvent x) _ s2).mono ?_
  rintro e w3 ⟨rfl, k3⟩
  replace k3 := k2.trans k3
  have q3 := k3.range q0
  clear own2 s2 r1 k1 k2
  by_cases h6 : (numEvent x).length ≤ 600
  · rw [decide_eq_true h6]
    go_wp2_with (refine wpList_load_mid_g (by kernel_rfl) 42 (.tmp 3) rfl bb 0 rfl cb _ q3 Try.underlying42 rfl hib ?_)
    refine (nBase_any _ y _ (hy0.kp k3) ly).mono ?_
    rintro e w2 ⟨v2, rfl, own2, k2⟩
    have s2 := own2.sl encInt_len
    obtain ⟨A2, c2, rfl, hc2, hm2⟩ := own2.form
    replace k2 := k3.trans k2
    clear k3 q3
    go_wp2_with fail
    refine (Small_any _ (numBase y) _ s2).mono ?_
    rintro e w3 ⟨rfl, k3⟩
    replace k3 := k2.trans k3
    have r3 := k3.range r0
    clear own2 s2 k2
    by_cases h7 : (numBase y).length ≤ 600
    · rw [decide_eq_true h7]
      go_wp2_with (refine wpList_load_mid rfl 37 (.tmp 2) rfl b 0 rfl ca _ r3 Try.underlying37 rfl hia ?_)
      refine (EncodeEvent_any _ x _ (hx0.kp k3) (by unfold Room; simp; omega)).mono ?_
      rintro e w4 ⟨rfl, k4⟩
      replace k4 := k3.trans k4
      have r4 := k4.range r0
      generalize he : encE (numEvent x) = r at *
      have HE := hid he
      clear he r3 k3
      obtain ⟨ab, er⟩ := r
      go_wp2_with (refine wpList_load_mid rfl 37 (.tmp 2) rfl b 0 rfl ca _ r4 Try.underlying37 rfl hia ?_)
      refine (nEvent_any _ x _ (hx0.kp k4) hpx).mono ?_
      rintro e w5 ⟨v5, rfl, own5, k5⟩
      have s5 := own5.sl encInt_len
      obtain ⟨A5, c5, rfl, hc5, hm5⟩ := own5.form
      replace k5 := k4.trans k5
      clear own5 r4 k4
      go_wp2_with fail
      refine (rEncode_any _ (numEvent x) _ s5 (by omega)).mono ?_
      rintro e w6 ⟨rfl, k6⟩
      replace k6 := k5.trans k6
      have q6 := k6.range q0
      rw [HE.out]
      clear s5 k5
      go_wp2_with (refine wpList_load_mid rfl 42 (.tmp 3) rfl bb 0 rfl cb _ q6 Try.underlying42 rfl hib ?_)
      refine (EncodeBase_any _ y _ (hy0.kp k6) (by unfold Room; simp; omega)).mono ?_
      rintro e w4 ⟨rfl, k4⟩
      replace k4 := k6.trans k4
      have q4 := k4.range q0
      generalize he : encE (numBase y) = r at *
      have HG := hid he
      clear he q6 k6
      obtain ⟨ub, gr⟩ := r
      go_wp2_with (refine wpList_load_mid rfl 42 (.tmp 3) rfl bb 0 rfl cb _ q4 Try.underlying42 rfl hib ?_)
      refine (nBase_any _ y _ (hy0.kp k4) ly).mono ?_
      rintro e w5 ⟨v5, rfl, own5, k5⟩
      have s5 := own5.sl encInt_len
      obtain ⟨A5, c5, rfl, hc5, hm5⟩ := own5.form
      replace k5 := k4.trans k5
      clear own5 q4 k4
      go_wp2_with fail
      refine (rEncode_any _ (numBase y) _ s5 (by omega)).mono ?_
      rintro e w6 ⟨rfl, k6⟩
      replace k6 := k5.trans k6
      rw [HG.out]
      clear s5 k5
      have r6 := k6.range r0
      go_upto_if 69 with (fail)
      go_cut [] from 13 (fun wx => Kp w0 wx)
      case first =>
        by_cases h0 : er = 0
        · subst h0
          have HB := hid (read_enc eventP_good HE.out)
          go_wp2_with fail
          refine (decodeEvent ab w6).mono ?_
          rintro e w7 ⟨v7, rfl, ho, k7⟩
          rw [HB.out] at ho ⊢
          dsimp only [Option.getD_some] at ho ⊢
          have hv7 := EventV.va ho.here
          obtain ⟨cm, rfl, hrd⟩ := ho.here
          obtain ⟨hl7, h17⟩ := event_one hrd
          clear hrd
          replace k7 := k6.trans k7
          have r7 := k7.range r0
          clear ho k6 r6
          have hth := there_new w7 #[.int .i64 0, .int .i64 0, .int .i64 0, .slice none 0 0, .int .i64 0, .int .i64 0, .int .i64 0, .int .i64 0, .int .i64 0, .int .i64 0, .int .i64 0, .int .i64 0, .int .i64 0] 37 cm.length (by rw [hl7]; rfl)
          have hin : (Try.prog.info? 37).map (·.size) = some cm.length := by rw [hl7]; kernel_rfl
          have hB := (Bx.new w7 #[.int .i64 0, .int .i64 0, .int .i64 0, .slice none 0 0, .int .i64 0, .int .i64 0, .int .i64 0, .int .i64 0, .int .i64 0, .int .i64 0, .int .i64 0, .int .i64 0, .int .i64 0] 37).all (cs := cm) (by rw [hl7]; rfl)
          have k8 : Kp w7 ((w7.alloc (.cells #[.int .i64 0, .int .i64 0, .int .i64 0, .slice none 0 0, .int .i64 0, .int .i64 0, .int .i64 0, .int .i64 0, .int .i64 0, .int .i64 0, .int .i64 0, .int .i64 0, .int .i64 0] 37)).setCells w7.heap.size 0 cm) := Kp.setCells (Nat.le_refl _) cm 0 _ ((Kp.refl w7).alloc _)
          have hv8 := hv7.kp k8
          have r8 := k8.range r7
          replace k8 := k7.trans k8
          clear r7 k7
          go_wp2_with (refine wpList_store_mid rfl 37 (.tmp 13) (.tmp 73) rfl w7.heap.size 0 cm.toArray rfl rfl hth hin (all_oneCell_toArray h17) ?_; generalize (w7.alloc (.cells #[.int .i64 0, .int .i64 0, .int .i64 0, .slice none 0 0, .int .i64 0, .int .i64 0, .int .i64 0, .int .i64 0, .int .i64 0, .int .i64 0, .int .i64 0, .int .i64 0, .int .i64 0] 37)).setCells w7.heap.size 0 cm = w8 at *)
          generalize w7.heap.size = b7 at *
          have hS : ∀ W, Kp w8 W → (W.rangeAt b7 0 cm ∧ W.rangeAt b 0 ca ∧ Kp w8 W) := fun W hk => ⟨hk.range hB.range, hk.range r8, hk⟩
          refine wp_region_held_drew (S := fun W => W.rangeAt b7 0 cm ∧ W.rangeAt b 0 ca ∧ Kp w8 W) (by kernel_rfl) (hS _ (Kp.refl _).drew) (fun hHeld => ?_)
          refine take_at 0 75 (v := ?_) rfl rfl (by kernel_rfl) (by kernel_rfl) (by kernel_rfl) (fun _ _ _ h => h) hHeld (Or.inl ⟨by kernel_rfl, ?_⟩) ?_
          rotate_left
          · intro w hSw; (try dsimp only at hSw); go_simp; try with_reducible rfl
          simp only [Act.put, List.setIfInBounds_toArray, List.set_cons_zero, List.set_cons_succ]
          refine take_at 1 76 (v := ?_) rfl rfl (by kernel_rfl) (by kernel_rfl) (by kernel_rfl) (fun _ _ _ h => h) hHeld (Or.inl ⟨by kernel_rfl, ?_⟩) ?_
          rotate_left
          · intro w hSw; (try dsimp only at hSw); go_simp; try with_reducible rfl
          simp only [Act.put, List.setIfInBounds_toArray, List.set_cons_zero, List.set_cons_succ]
          refine take_at 2 77 (v := ?_) rfl rfl (by kernel_rfl) (by kernel_rfl) (by kernel_rfl) (fun _ _ _ h => h) hHeld (Or.inl ⟨by kernel_rfl, ?_⟩) ?_
          rotate_left
          · intro w hSw; (try dsimp only at hSw); go_simp; try with_reducible rfl
          simp only [Act.put, List.setIfInBounds_toArray, List.set_cons_zero, List.set_cons_succ]
          refine take_at 3 78 (v := _) rfl rfl (by kernel_rfl) (by kernel_rfl) (by kernel_rfl) (fun _ _ _ h => h) hHeld (yieldsIf_load_mid (by kernel_rfl) 37 _ rfl _ 0 rfl cm _ (fun _ h => h.1) Try.underlying37 rfl (by assumption)) ?_
          simp only [Act.put, List.setIfInBounds_toArray, List.set_cons_zero, List.set_cons_succ]
          refine take_at 5 80 (v := _) rfl rfl (by kernel_rfl) (by kernel_rfl) (by kernel_rfl) (fun _ _ _ h => h) hHeld (yieldsIf_load_mid (by kernel_rfl) 37 _ rfl _ 0 rfl ca _ (fun _ h => h.2.1) Try.underlying37 rfl (by assumption)) ?_
          simp only [Act.put, List.setIfInBounds_toArray, List.set_cons_zero, List.set_cons_succ]
          refine wpAnyH_ready (rs := [4]) (by kernel_rfl) (by simp) ?_
          refine AllReadyH.cons (o := _) rfl (fun K hK => ?_) AllReadyH.nil
          go_simp
          refine (nEvent_any _ x _ (hv8.kp hHeld.2.2) hpx).mono ?_
          rintro e w9 ⟨v9, rfl, own9, h9⟩
          obtain ⟨D1, z1, rfl, zz1, zf1⟩ := own9.form
          refine hK.out _ _ (hS _ (hHeld.2.2.trans h9)) (fun hHeld2 => ?_)
          clear hK K hHeld
          have hHeld := hHeld2
          clear hHeld2
          refine wpAnyH_ready (rs := [6]) (by kernel_rfl) (by simp) ?_
          refine AllReadyH.cons (o := _) rfl (fun K hK => ?_) AllReadyH.nil
          go_simp
          refine (nEvent_any _ x _ (hx0.kp (k8.trans hHeld.2.2)) hpx).mono ?_
          rintro e wa ⟨v10, rfl, own10, h10⟩
          obtain ⟨D2, z2, rfl, zz2, zf2⟩ := own10.form
          refine hK.out _ _ (hS _ (hHeld.2.2.trans h10)) (fun hHeld2 => ?_)
          clear hK K hHeld
          have hHeld := hHeld2
          clear hHeld2
          refine wpAnyH_ready (rs := [7]) (by kernel_rfl) (by simp) ?_
          refine AllReadyH.cons (o := _) rfl (fun K hK => ?_) AllReadyH.nil
          go_simp
          refine (Same_any _ _ (numEvent x) (numEvent x) _ ((own9.sl encInt_len).keep (pl_stable _) h10) (own10.sl encInt_len)).mono ?_
          rintro e wc ⟨rfl, h11⟩
          refine hK.out _ _ (hS _ (hHeld.2.2.trans h11)) (fun hHeld2 => ?_)
          clear hK K hHeld
          have hHeld := hHeld2
          clear hHeld2
          rw [decide_eq_true rfl]
          refine take_at 8 83 (v := ?_) rfl rfl (by kernel_rfl) (by kernel_rfl) (by kernel_rfl) (fun _ _ _ h => h) hHeld (Or.inl ⟨by kernel_rfl, ?_⟩) ?_
          rotate_left
          · intro w hSw; (try dsimp only at hSw); go_simp; try with_reducible rfl
          simp only [Act.put, List.setIfInBounds_toArray, List.set_cons_zero, List.set_cons_succ]
          refine take_at 9 84 (v := ?_) rfl rfl (by kernel_rfl) (by kernel_rfl) (by kernel_rfl) (fun _ _ _ h => h) hHeld (Or.inl ⟨by kernel_rfl, ?_⟩) ?_
          rotate_left
          · intro w hSw; (try dsimp only at hSw); go_simp; try with_reducible rfl
          simp only [Act.put, List.setIfInBounds_toArray, List.set_cons_zero, List.set_cons_succ]
          refine wpAnyH_done (by kernel_rfl) ?_ _
          have k9 := k8.trans hHeld.2.2
          go_wp2
          go_meet
          case rel => exact k9
        · have e3 : (er == 0) = false := by simpa using h0
          go_wp2
          go_meet
          case rel => exact k6
      case rest =>
        clear k6 r6
        by_cases h0 : gr = 0
        · subst h0
          have HB := hid (read_enc baseP_good HG.out)
          go_wp2_with fail
          refine (decodeBase ub wc).mono ?_
          rintro e w7 ⟨v7, rfl, ho, k7⟩
          rw [HB.out] at ho ⊢
          dsimp only [Option.getD_some] at ho ⊢
          have hv7 := BaseV.va ho.here
          obtain ⟨cm, rfl, hrd⟩ := ho.here
          obtain ⟨hl7, h17⟩ := base_one hrd
          clear hrd
          replace k7 := hcut.trans k7
          have r7 := k7.range q0
          clear ho hcut
          have hth := there_new w7 #[.slice none 0 0, .int .i64 0, .slice none 0 0, .slice none 0 0, .slice none 0 0, .slice none 0 0, .slice none 0 0] 42 cm.length (by rw [hl7]; rfl)
          have hin : (Try.prog.info? 42).map (·.size) = some cm.length := by rw [hl7]; kernel_rfl
          have hB := (Bx.new w7 #[.slice none 0 0, .int .i64 0, .slice none 0 0, .slice none 0 0, .slice none 0 0, .slice none 0 0, .slice none 0 0] 42).all (cs := cm) (by rw [hl7]; rfl)
          have k8 : Kp w7 ((w7.alloc (.cells #[.slice none 0 0, .int .i64 0, .slice none 0 0, .slice none 0 0, .slice none 0 0, .slice none 0 0, .slice none 0 0] 42)).setCells w7.heap.size 0 cm) := Kp.setCells (Nat.le_refl _) cm 0 _ ((Kp.refl w7).alloc _)
          have hv8 := hv7.kp k8
          have r8 := k8.range r7
          replace k8 := k7.trans k8
          clear r7 k7
          go_wp2_with (refine wpList_store_mid rfl 42 (.tmp 15) (.tmp 90) rfl w7.heap.size 0 cm.toArray rfl rfl hth hin (all_oneCell_toArray h17) ?_; generalize (w7.alloc (.cells #[.slice none 0 0, .int .i64 0, .slice none 0 0, .slice none 0 0, .slice none 0 0, .slice none 0 0, .slice none 0 0] 42)).setCells w7.heap.size 0 cm = w8 at *)
          generalize w7.heap.size = b7 at *
          have hS : ∀ W, Kp w8 W → (W.rangeAt b7 0 cm ∧ W.rangeAt bb 0 cb ∧ Kp w8 W) := fun W hk => ⟨hk.range hB.range, hk.range r8, hk⟩
          refine wp_region_held_drew (S := fun W => W.rangeAt b7 0 cm ∧ W.rangeAt bb 0 cb ∧ Kp w8 W) (by kernel_rfl) (hS _ (Kp.refl _).drew) (fun hHeld => ?_)
          refine take_at 0 92 (v := ?_) rfl rfl (by kernel_rfl) (by kernel_rfl) (by kernel_rfl) (fun _ _ _ h => h) hHeld (Or.inl ⟨by kernel_rfl, ?_⟩) ?_
          rotate_left
          · intro w hSw; (try dsimp only at hSw); go_simp; try with_reducible rfl
          simp only [Act.put, List.setIfInBounds_toArray, List.set_cons_zero, List.set_cons_succ]
          refine take_at 1 93 (v := ?_) rfl rfl (by kernel_rfl) (by kernel_rfl) (by kernel_rfl) (fun _ _ _ h => h) hHeld (Or.inl ⟨by kernel_rfl, ?_⟩) ?_
          rotate_left
          · intro w hSw; (try dsimp only at hSw); go_simp; try with_reducible rfl
          simp only [Act.put, List.setIfInBounds_toArray, List.set_cons_zero, List.set_cons_succ]
          refine take_at 2 94 (v := ?_) rfl rfl (by kernel_rfl) (by kernel_rfl) (by kernel_rfl) (fun _ _ _ h => h) hHeld (Or.inl ⟨by kernel_rfl, ?_⟩) ?_
          rotate_left
          · intro w hSw; (try dsimp only at hSw); go_simp; try with_reducible rfl
          simp only [Act.put, List.setIfInBounds_toArray, List.set_cons_zero, List.set_cons_succ]
          refine take_at 3 95 (v := _) rfl rfl (by kernel_rfl) (by kernel_rfl) (by kernel_rfl) (fun _ _ _ h => h) hHeld (yieldsIf_load_mid (by kernel_rfl) 42 _ rfl _ 0 rfl cm _ (fun _ h => h.1) Try.underlying42 rfl (by assumption)) ?_
          simp only [Act.put, List.setIfInBounds_toArray, List.set_cons_zero, List.set_cons_succ]
          refine take_at 5 97 (v := _) rfl rfl (by kernel_rfl) (by kernel_rfl) (by kernel_rfl) (fun _ _ _ h => h) hHeld (yieldsIf_load_mid (by kernel_rfl) 42 _ rfl _ 0 rfl cb _ (fun _ h => h.2.1) Try.underlying42 rfl (by assumption)) ?_
          simp only [Act.put, List.setIfInBounds_toArray, List.set_cons_zero, List.set_cons_succ]
          refine wpAnyH_ready (rs := [4]) (by kernel_rfl) (by simp) ?_
          refine AllReadyH.cons (o := _) rfl (fun K hK => ?_) AllReadyH.nil
          go_simp
          refine (nBase_any _ y _ (hv8.kp hHeld.2.2) ly).mono ?_
          rintro e w9 ⟨v9, rfl, own9, h9⟩
          obtain ⟨D1, z1, rfl, zz1, zf1⟩ := own9.form
          refine hK.out _ _ (hS _ (hHeld.2.2.trans h9)) (fun hHeld2 => ?_)
          clear hK K hHeld
          have hHeld := hHeld2
          clear hHeld2
          refine wpAnyH_ready (rs := [6]) (by kernel_rfl) (by simp) ?_
          refine AllReadyH.cons (o := _) rfl (fun K hK => ?_) AllReadyH.nil
          go_simp
          refine (nBase_any _ y _ (hy0.kp (k8.trans hHeld.2.2)) ly).mono ?_
          rintro e wa ⟨v10, rfl, own10, h10⟩
          obtain ⟨D2, z2, rfl, zz2, zf2⟩ := own10.form
          refine hK.out _ _ (hS _ (hHeld.2.2.trans h10)) (fun hHeld2 => ?_)
          clear hK K hHeld
          have hHeld := hHeld2
          clear hHeld2
          refine wpAnyH_ready (rs := [7]) (by kernel_rfl) (by simp) ?_
          refine AllReadyH.cons (o := _) rfl (fun K hK => ?_) AllReadyH.nil
          go_simp
          refine (Same_any _ _ (numBase y) (numBase y) _ ((own9.sl encInt_len).keep (pl_stable _) h10) (own10.sl encInt_len)).mono ?_
          rintro e we ⟨rfl, h11⟩
          refine hK.out _ _ (hS _ (hHeld.2.2.trans h11)) (fun hHeld2 => ?_)
          clear hK K hHeld
          have hHeld := hHeld2
          clear hHeld2
          rw [decide_eq_true rfl]
          refine take_at 8 100 (v := ?_) rfl rfl (by kernel_rfl) (by kernel_rfl) (by kernel_rfl) (fun _ _ _ h => h) hHeld (Or.inl ⟨by kernel_rfl, ?_⟩) ?_
          rotate_left
          · intro w hSw; (try dsimp only at hSw); go_simp; try with_reducible rfl
          simp only [Act.put, List.setIfInBounds_toArray, List.set_cons_zero, List.set_cons_succ]
          refine wpAnyH_ready (rs := [9]) (by kernel_rfl) (by simp) ?_
          refine AllReadyH.cons (o := _) rfl (fun K hK => ?_) AllReadyH.nil
          go_simp
          refine hK.out _ _ hHeld (fun hHeld2 => ?_)
          clear hK K hHeld
          have hHeld := hHeld2
          clear hHeld2
          refine wpAnyH_done (by kernel_rfl) ?_ _
          have k9 := k8.trans hHeld.2.2
          go_wp2
          go_ret
          exact ⟨rfl, kk.trans k9⟩
        · have e3 : (gr != 0) = true := by simpa using h0
          go_wp2
          go_ret
          exact ⟨rfl, kk.trans hcut⟩
    · rw [decide_eq_false h7]
      go_wp2
      go_ret
      exact ⟨rfl, kk.trans k3⟩
  · rw [decide_eq_false h6]
    go_wp2
    go_ret
    exact ⟨rfl, kk.trans k3⟩
end Go.Proofs.Ytmeafoakbkjifaa
