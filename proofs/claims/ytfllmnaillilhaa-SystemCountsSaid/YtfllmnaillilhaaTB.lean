/-
The reference of systems: when a system is valid.
The reference of systems: equal systems are the same.
-/
import Derived.Test.YtfllmnaillilhaaTA
namespace Go.Proofs.Ytfllmnaillilhaa
set_option linter.unusedSimpArgs false
set_option linter.unusedVariables false
open Go.RowKit

theorem validS_box {s : Sys} (h : boxB s.box = false) : validS s = false := by unfold validS; rw [h]; simp
theorem validS_rows {s : Sys} (h : rowsOk s.box s.rows 1024 = false) : validS s = false := by unfold validS; rw [h]; simp
theorem validS_eq {s : Sys} (h1 : validB s.box s.rows = true) (h2 : s.box.any emptyR = false) (h3 : s.rows.length ≤ 1024) (h4 : s.graphs.length ≤ 64) (h5 : s.cases.length ≤ 1024) :
    validS s = (s.graphs.all (grOk s.box.length) && !s.cases.any (fun l => !rowsOk s.box l 64)) := by
  have hb : boxB s.box = true := by
    unfold validB at h1
    simp only [Bool.and_eq_true] at h1
    exact h1.1
  unfold validS
  rw [hb, h2, decide_eq_true h4, decide_eq_true h5]
  unfold rowsOk
  rw [h1, decide_eq_true (by omega)]
  rfl
set_option maxRecDepth 8000 in
set_option maxHeartbeats 8000000 in
theorem qValid_any (va : Value) (s : Sys) (w : World) (hs : SysV w va s) :
    Calls Try.prog 17 #[va] w fun e w' => e = .returned (.bool (validS s)) ∧ Kp w w' := by
  have hs' := hs
  obtain ⟨Ab, cb, Ar, cr, Ag, cg, Ac, cc, rfl, hb, hr, hg, hc⟩ := hs'
  obtain ⟨l1, m1⟩ := hb.caps
  obtain ⟨l2, m2⟩ := hr.caps
  obtain ⟨l3, m3⟩ := hg.caps
  obtain ⟨l4, m4⟩ := hc.caps
  by_cases a1 : 1024 < s.rows.length
  · have e1 : decide ((1024 : Int) < (s.rows.length : Int)) = true := decide_eq_true (by omega)
    have k0 := (Kp.refl w).alloc (.cells #[.slice Ab s.box.length cb, .slice Ar s.rows.length cr, .slice Ag s.graphs.length cg, .slice Ac s.cases.length cc] 27)
    have HF : Hid (validS s = false) := hid (validS_rows (by simp [rowsOk]; omega))
    go_enter Try.func17, Try.ntmps17
    go_wp2
    go_ret
    exact ⟨ret_bool HF.out.symm, k0⟩
  have e1 : decide ((1024 : Int) < (s.rows.length : Int)) = false := decide_eq_false (by omega)
  by_cases a2 : 64 < s.graphs.length
  · have e2 : decide ((64 : Int) < (s.graphs.length : Int)) = true := decide_eq_true (by omega)
    have k0 := (Kp.refl w).alloc (.cells #[.slice Ab s.box.length cb, .slice Ar s.rows.length cr, .slice Ag s.graphs.length cg, .slice Ac s.cases.length cc] 27)
    have HF : Hid (validS s = false) := hid (by
      have : decide (s.graphs.length ≤ 64) = false := decide_eq_false (by omega)
      unfold validS; rw [this]; simp)
    go_enter Try.func17, Try.ntmps17
    go_wp2
    go_ret
    exact ⟨ret_bool HF.out.symm, k0⟩
  have e2 : decide ((64 : Int) < (s.graphs.length : Int)) = false := decide_eq_false (by omega)
  by_cases a3 : 1024 < s.cases.length
  · have e3 : decide ((1024 : Int) < (s.cases.length : Int)) = true := decide_eq_true (by omega)
    have k0 := (Kp.refl w).alloc (.cells #[.slice Ab s.box.length cb, .slice Ar s.rows.length cr, .slice Ag s.graphs.length cg, .slice Ac s.cases.length cc] 27)
    have HF : Hid (validS s = false) := hid (by
      have : decide (s.cases.length ≤ 1024) = false := decide_eq_false (by omega)
      unfold validS; rw [this]; simp)
    go_enter Try.func17, Try.ntmps17
    go_wp2
    go_ret
    exact ⟨ret_bool HF.out.symm, k0⟩
  have e3 : decide ((1024 : Int) < (s.cases.length : Int)) = false := decide_eq_false (by omega)
  have k0 := (Kp.refl w).alloc (.cells #[.slice Ab s.box.length cb, .slice Ar s.rows.length cr, .slice Ag s.graphs.length cg, .slice Ac s.cases.length cc] 27)
  have B0 := SysB.new w #[.slice Ab s.box.length cb, .slice Ar s.rows.length cr, .slice Ag s.graphs.length cg, .slice Ac s.cases.length cc] 27
  have z0 := alloc_lt w (.cells #[.slice Ab s.box.length cb, .slice Ar s.rows.length cr, .slice Ag s.graphs.length cg, .slice Ac s.cases.length cc] 27)
  go_enter Try.func17, Try.ntmps17
  go_wp2_with fail
  try rw [← World.size_alloc w (.cells #[.slice Ab s.box.length cb, .slice Ar s.rows.length cr, .slice Ag s.graphs.length cg, .slice Ac s.cases.length cc] 27)]
  generalize w.alloc (.cells #[.slice Ab s.box.length cb, .slice Ar s.rows.length cr, .slice Ag s.graphs.length cg, .slice Ac s.cases.length cc] 27) = w0 at *
  generalize w.heap.size = b0 at *
  refine (rValid_any _ _ s.box s.rows _ (hb.keep (pl_stable _) k0) (hr.keep rdRow_stable k0)).mono ?_
  rintro e w1 ⟨rfl, k1⟩
  replace B0 := B0.keep k1
  replace k1 := k0.trans k1
  obtain ⟨c0, c1, c2, c3⟩ := B0.cells
  have hgl := block_lt_of_cell c0
  cases hV : validB s.box s.rows with
  | false =>
    have HF : Hid (validS s = false) := hid (validS_rows (by unfold rowsOk; rw [hV]; simp))
    go_wp2
    go_ret
    exact ⟨ret_bool HF.out.symm, k1⟩
  | true =>
    replace hV := hid hV
    go_wp2_with fail
    refine (rEmpty_any _ s.box _ (hb.keep (pl_stable _) k1)).mono ?_
    rintro e w2 ⟨rfl, k2⟩
    replace B0 := B0.keep k2
    replace k2 := k1.trans k2
    clear c0 c1 c2 c3 hgl k1
    obtain ⟨c0, c1, c2, c3⟩ := B0.cells
    have hgl := block_lt_of_cell c0
    cases hE : s.box.any emptyR with
    | true =>
      have HF : Hid (validS s = false) := hid (by unfold validS; rw [hE]; simp)
      go_wp2
      go_ret
      exact ⟨ret_bool HF.out.symm, k2⟩
    | false =>
      have HV := hid (validS_eq hV.out hE (by omega) (by omega) (by omega))
      have hlb : s.box.length ≤ 128 := (validB_ok hV.out).2.1
      clear hE hV e1 e2 e3
      go_wp2
      go_loopw [3] (fun i wr => ∃ k : Nat, k ≤ s.cases.length ∧ i = .int .i64 k ∧ Hid (s.cases.any (fun l => !rowsOk s.box l 64) = (s.cases.drop k).any (fun l => !rowsOk s.box l 64)) ∧ Kp w2 wr) (fun i _ => s.cases.length - (intOf i).toNat)
      case atStart => exact ⟨0, Nat.zero_le _, rfl, rfl, Kp.refl _⟩
      case round =>
        obtain ⟨k, hk, rfl, HB, hkr⟩ := hrel
        replace B0 := B0.keep hkr
        have kk := k2.trans hkr
        clear c0 c1 c2 c3 hgl k2
        obtain ⟨c0, c1, c2, c3⟩ := B0.cells
        have hgl := block_lt_of_cell c0
        by_cases hlt : k < s.cases.length
        · have hg2 := hc.keep rdRows_stable kk
          obtain ⟨b, o, A', c', rfl, hb', h1, h2⟩ := hg2.rowsAt hlt
          obtain ⟨y1, y2⟩ := h2.caps
          have HD := hid (List.drop_eq_getElem_cons hlt)
          generalize s.cases[k] = l at *
          have hb2 := hb.keep (pl_stable _) kk
          clear hs hb hr hg hg2 hc
          have q1 : (0 : Int) ≤ k := by omega
          have q2 : (k : Int) < s.cases.length := by omega
          by_cases hll : 64 < l.length
          · have e1 : decide ((64 : Int) < (l.length : Int)) = true := decide_eq_true (by omega)
            have HF : Hid (validS s = false) := hid (by
              have : rowsOk s.box l 64 = false := by simp [rowsOk]; omega
              rw [HV.out, HB.out, HD.out, List.any_cons, this]
              simp)
            go_wp2
            go_quiet (fail)
            go_wp2
            go_ret
            exact ⟨ret_bool HF.out.symm, kk.drewN _⟩
          · have e1 : decide ((64 : Int) < (l.length : Int)) = false := decide_eq_false (by omega)
            have HR : Hid (rowsOk s.box l 64 = validB s.box l) := hid (by unfold rowsOk; rw [decide_eq_true (by omega)]; rfl)
            have hSf : ∀ W, Kp wr W → (W.cell? ⟨b0, 0, none⟩ = some (.slice Ab s.box.length cb) ∧ W.cell? ⟨b0, 3, none⟩ = some (.slice (some ⟨b, o, none⟩) s.cases.length cc) ∧ W.cell? ⟨b, o + k, none⟩ = some (.slice A' l.length c') ∧ Kp wr W) := fun W hk => ⟨hk.cellS c0, hk.cellS c3, hk.cellS h1, hk⟩
            go_wp2
            refine wp_region_held_drew (S := fun W => W.cell? ⟨b0, 0, none⟩ = some (.slice Ab s.box.length cb) ∧ W.cell? ⟨b0, 3, none⟩ = some (.slice (some ⟨b, o, none⟩) s.cases.length cc) ∧ W.cell? ⟨b, o + k, none⟩ = some (.slice A' l.length c') ∧ Kp wr W) (by kernel_rfl) (hSf _ (Kp.refl _).drew) (fun hHeld => ?_)
            refine take_at 0 43 (v := ?_) rfl rfl (by kernel_rfl) (by kernel_rfl) (by kernel_rfl) (fun _ _ _ h => h) hHeld (Or.inl ⟨by kernel_rfl, ?_⟩) ?_
            rotate_left
            · intro w hSw; (try dsimp only at hSw); go_simp; try with_reducible rfl
            simp only [Act.put, List.setIfInBounds_toArray, List.set_cons_zero, List.set_cons_succ]
            refine take_at 1 44 (v := ?_) rfl rfl (by kernel_rfl) (by kernel_rfl) (by kernel_rfl) (fun _ _ _ h => h) hHeld (Or.inl ⟨by kernel_rfl, ?_⟩) ?_
            rotate_left
            · intro w hSw; (try dsimp only at hSw); go_simp; try with_reducible rfl
            simp only [Act.put, List.setIfInBounds_toArray, List.set_cons_zero, List.set_cons_succ]
            refine take_at 2 45 (v := ?_) rfl rfl (by kernel_rfl) (by kernel_rfl) (by kernel_rfl) (fun _ _ _ h => h) hHeld (Or.inl ⟨by kernel_rfl, ?_⟩) ?_
            rotate_left
            · intro w hSw; (try dsimp only at hSw); go_simp; try with_reducible rfl
            simp only [Act.put, List.setIfInBounds_toArray, List.set_cons_zero, List.set_cons_succ]
            refine take_at 3 46 (v := ?_) rfl rfl (by kernel_rfl) (by kernel_rfl) (by kernel_rfl) (fun _ _ _ h => h) hHeld (Or.inl ⟨by kernel_rfl, ?_⟩) ?_
            rotate_left
            · intro w hSw; (try dsimp only at hSw); go_simp; try with_reducible rfl
            simp only [Act.put, List.setIfInBounds_toArray, List.set_cons_zero, List.set_cons_succ]
            refine take_at 4 47 (v := ?_) rfl rfl (by kernel_rfl) (by kernel_rfl) (by kernel_rfl) (fun _ _ _ h => h) hHeld (Or.inl ⟨by kernel_rfl, ?_⟩) ?_
            rotate_left
            · intro w hSw; (try dsimp only at hSw); go_simp; try with_reducible rfl
            simp only [Act.put, List.setIfInBounds_toArray, List.set_cons_zero, List.set_cons_succ]
            refine take_at 5 48 (v := ?_) rfl rfl (by kernel_rfl) (by kernel_rfl) (by kernel_rfl) (fun _ _ _ h => h) hHeld (Or.inl ⟨by kernel_rfl, ?_⟩) ?_
            rotate_left
            · intro w hSw; (try dsimp only at hSw); go_simp; try with_reducible rfl
            simp only [Act.put, List.setIfInBounds_toArray, List.set_cons_zero, List.set_cons_succ]
            refine take_at 6 49 (v := ?_) rfl rfl (by kernel_rfl) (by kernel_rfl) (by kernel_rfl) (fun _ _ _ h => h) hHeld (Or.inl ⟨by kernel_rfl, ?_⟩) ?_
            rotate_left
            · intro w hSw; (try dsimp only at hSw); go_simp; try with_reducible rfl
            simp only [Act.put, List.setIfInBounds_toArray, List.set_cons_zero, List.set_cons_succ]
            refine take_at 7 50 (v := ?_) rfl rfl (by kernel_rfl) (by kernel_rfl) (by kernel_rfl) (fun _ _ _ h => h) hHeld (Or.inl ⟨by kernel_rfl, ?_⟩) ?_
            rotate_left
            · intro w hSw; (try dsimp only at hSw); go_simp; try with_reducible rfl
            simp only [Act.put, List.setIfInBounds_toArray, List.set_cons_zero, List.set_cons_succ]
            refine take_at 8 51 (v := ?_) rfl rfl (by kernel_rfl) (by kernel_rfl) (by kernel_rfl) (fun _ _ _ h => h) hHeld (Or.inl ⟨by kernel_rfl, ?_⟩) ?_
            rotate_left
            · intro w hSw; (try dsimp only at hSw); go_simp; try with_reducible rfl
            simp only [Act.put, List.setIfInBounds_toArray, List.set_cons_zero, List.set_cons_succ]
            refine take_at 9 52 (v := ?_) rfl rfl (by kernel_rfl) (by kernel_rfl) (by kernel_rfl) (fun _ _ _ h => h) hHeld (Or.inl ⟨by kernel_rfl, ?_⟩) ?_
            rotate_left
            · intro w hSw; (try dsimp only at hSw); go_simp; try with_reducible rfl
            simp only [Act.put, List.setIfInBounds_toArray, List.set_cons_zero, List.set_cons_succ]
            refine take_at 10 53 (v := ?_) rfl rfl (by kernel_rfl) (by kernel_rfl) (by kernel_rfl) (fun _ _ _ h => h) hHeld (Or.inl ⟨by kernel_rfl, ?_⟩) ?_
            rotate_left
            · intro w hSw; (try dsimp only at hSw); go_simp; try with_reducible rfl
            simp only [Act.put, List.setIfInBounds_toArray, List.set_cons_zero, List.set_cons_succ]
            refine take_at 11 54 (v := ?_) rfl rfl (by kernel_rfl) (by kernel_rfl) (by kernel_rfl) (fun _ _ _ h => h) hHeld (Or.inl ⟨by kernel_rfl, ?_⟩) ?_
            rotate_left
            · intro w hSw; (try dsimp only at hSw); go_simp; try with_reducible rfl
            simp only [Act.put, List.setIfInBounds_toArray, List.set_cons_zero, List.set_cons_succ]
            refine take_at 12 55 (v := ?_) rfl rfl (by kernel_rfl) (by kernel_rfl) (by kernel_rfl) (fun _ _ _ h => h) hHeld (Or.inl ⟨by kernel_rfl, ?_⟩) ?_
            rotate_left
            · intro w hSw; (try dsimp only at hSw); go_simp; try with_reducible rfl
            simp only [Act.put, List.setIfInBounds_toArray, List.set_cons_zero, List.set_cons_succ]
            refine take_at 13 56 (v := ?_) rfl rfl (by kernel_rfl) (by kernel_rfl) (by kernel_rfl) (fun _ _ _ h => h) hHeld (Or.inl ⟨by kernel_rfl, ?_⟩) ?_
            rotate_left
            · intro w hSw; (try dsimp only at hSw); go_simp; try with_reducible rfl
            simp only [Act.put, List.setIfInBounds_toArray, List.set_cons_zero, List.set_cons_succ]
            refine take_at 14 57 (v := ?_) rfl rfl (by kernel_rfl) (by kernel_rfl) (by kernel_rfl) (fun _ _ _ h => h) hHeld (Or.inl ⟨by kernel_rfl, ?_⟩) ?_
            rotate_left
            · intro w hSw; (try dsimp only at hSw); go_simp; try with_reducible rfl
            simp only [Act.put, List.setIfInBounds_toArray, List.set_cons_zero, List.set_cons_succ]
            refine wpAnyH_ready (rs := [15]) (by kernel_rfl) (by simp) ?_
            refine AllReadyH.cons (o := _) rfl (fun K hK => ?_) AllReadyH.nil
            go_simp
            refine (rValid_any _ _ s.box l _ (hb2.keep (pl_stable _) hHeld.2.2.2) (h2.keep rdRow_stable hHeld.2.2.2)).mono ?_
            rintro e w9 ⟨rfl, h9⟩
            refine hK.out _ _ (hSf _ (hHeld.2.2.2.trans h9)) (fun hHeld2 => ?_)
            clear hK K hHeld
            have hHeld := hHeld2
            clear hHeld2
            cases hG : validB s.box l with
            | true =>
              have HF : Hid (s.cases.any (fun l => !rowsOk s.box l 64) = (s.cases.drop (k + 1)).any (fun l => !rowsOk s.box l 64)) := hid (by rw [HB.out, HD.out, List.any_cons, HR.out, hG]; rfl)
              clear hG
              refine take_at 16 59 (v := ?_) rfl rfl (by kernel_rfl) (by kernel_rfl) (by kernel_rfl) (fun _ _ _ h => h) hHeld (Or.inl ⟨by kernel_rfl, ?_⟩) ?_
              rotate_left
              · intro w hSw; (try dsimp only at hSw); go_simp; try with_reducible rfl
              simp only [Act.put, List.setIfInBounds_toArray, List.set_cons_zero, List.set_cons_succ]
              refine take_at 17 60 (v := ?_) rfl rfl (by kernel_rfl) (by kernel_rfl) (by kernel_rfl) (fun _ _ _ h => h) hHeld (Or.inl ⟨by kernel_rfl, ?_⟩) ?_
              rotate_left
              · intro w hSw; (try dsimp only at hSw); go_simp; try with_reducible rfl
              simp only [Act.put, List.setIfInBounds_toArray, List.set_cons_zero, List.set_cons_succ]
              refine wpAnyH_done (by kernel_rfl) ?_ _
              have k4 := hHeld.2.2.2
              clear hHeld hSf
              go_wp2
              go_roundw
              case rel => exact ⟨k + 1, by omega, by go_num, HF, hkr.trans k4⟩
              case measure => simp [intOf]; omega
            | false =>
              have HF : Hid (validS s = false) := hid (by rw [HV.out, HB.out, HD.out, List.any_cons, HR.out, hG]; simp)
              clear hG
              refine take_at 16 59 (v := ?_) rfl rfl (by kernel_rfl) (by kernel_rfl) (by kernel_rfl) (fun _ _ _ h => h) hHeld (Or.inl ⟨by kernel_rfl, ?_⟩) ?_
              rotate_left
              · intro w hSw; (try dsimp only at hSw); go_simp; try with_reducible rfl
              simp only [Act.put, List.setIfInBounds_toArray, List.set_cons_zero, List.set_cons_succ]
              refine take_at 17 60 (v := ?_) rfl rfl (by kernel_rfl) (by kernel_rfl) (by kernel_rfl) (fun _ _ _ h => h) hHeld (Or.inl ⟨by kernel_rfl, ?_⟩) ?_
              rotate_left
              · intro w hSw; (try dsimp only at hSw); go_simp; try with_reducible rfl
              simp only [Act.put, List.setIfInBounds_toArray, List.set_cons_zero, List.set_cons_succ]
              refine wpAnyH_done (by kernel_rfl) ?_ _
              have k4 := hHeld.2.2.2
              clear hHeld hSf
              go_wp2
              go_ret
              exact ⟨ret_bool HF.out.symm, kk.trans k4⟩
        · have HV2 : Hid (validS s = s.graphs.all (grOk s.box.length)) := hid (by rw [HV.out, HB.out, List.drop_of_length_le (by omega)]; simp)
          clear HV HB
          obtain ⟨w3, rfl⟩ : ∃ x : World, x = wr := ⟨_, rfl⟩
          have HV := HV2
          have k3 := kk
          clear HV2 kk hkr
          go_wp2
          go_loopw [4] (fun i wr => ∃ k : Nat, k ≤ s.graphs.length ∧ i = .int .i64 k ∧ Hid (s.graphs.all (grOk s.box.length) = (s.graphs.drop k).all (grOk s.box.length)) ∧ Kp w3 wr) (fun i _ => s.graphs.length - (intOf i).toNat)
          case atStart => exact ⟨0, Nat.zero_le _, rfl, rfl, Kp.refl _⟩
          case round =>
            obtain ⟨k, hk, rfl, HB, hkr⟩ := hrel
            replace B0 := B0.keep hkr
            have kk := k3.trans hkr
            clear c0 c1 c2 c3 hgl k3
            obtain ⟨c0, c1, c2, c3⟩ := B0.cells
            have hgl := block_lt_of_cell c0
            by_cases hlt : k < s.graphs.length
            · have hg2 := hg.keep rdGr_stable kk
              obtain ⟨b, o, A', c', rfl, hb', h1, h2, h3, h4⟩ := hg2.gr hlt
              have HD := hid (List.drop_eq_getElem_cons hlt)
              generalize s.graphs[k] = g at *
              obtain ⟨fi, sz, le⟩ := g
              dsimp only at h1 h2 h3 h4
              obtain ⟨y1, y2⟩ := h4.caps
              clear hs hb hr hg hg2 hc
              have q1 : (0 : Int) ≤ k := by omega
              have q2 : (k : Int) < s.graphs.length := by omega
              have kA := (Kp.refl wr).alloc (.cells #[.int .i64 fi, .int .i64 sz, .slice A' le.length c'] 65)
              have f0 := alloc_cell wr #[.int .i64 fi, .int .i64 sz, .slice A' le.length c'] 65 0 rfl
              have f1 := alloc_cell wr #[.int .i64 fi, .int .i64 sz, .slice A' le.length c'] 65 1 rfl
              have f2 := alloc_cell wr #[.int .i64 fi, .int .i64 sz, .slice A' le.length c'] 65 2 rfl
              have zA := alloc_lt wr (.cells #[.int .i64 fi, .int .i64 sz, .slice A' le.length c'] 65)
              have x0 := kA.cellS c0
              have x2 := kA.cellS c2
              have hle := h4.keep (pl_stable _) kA
              by_cases g1 : sz < 1
              · have e1 : decide (sz < 1) = true := decide_eq_true g1
                have HF : Hid (validS s = false) := hid (by
                  rw [HV.out, HB.out, HD.out, List.all_cons]
                  unfold grOk
                  dsimp only
                  rw [decide_eq_false (by omega)]
                  rfl)
                go_wp2
                go_ret
                exact ⟨ret_bool HF.out.symm, kk.trans kA⟩
              have e1 : decide (sz < 1) = false := decide_eq_false g1
              by_cases g2 : 6 < sz
              · have e2 : decide (6 < sz) = true := decide_eq_true g2
                have HF : Hid (validS s = false) := hid (by
                  rw [HV.out, HB.out, HD.out, List.all_cons]
                  unfold grOk
                  dsimp only
                  rw [decide_eq_false (by omega)]
                  rfl)
                go_wp2
                go_ret
                exact ⟨ret_bool HF.out.symm, kk.trans kA⟩
              have e2 : decide (6 < sz) = false := decide_eq_false g2
              by_cases g3 : fi < 0
              · have e3 : decide (fi < 0) = true := decide_eq_true g3
                have HF : Hid (validS s = false) := hid (by
                  rw [HV.out, HB.out, HD.out, List.all_cons]
                  unfold grOk
                  dsimp only
                  rw [decide_eq_false (by omega)]
                  rfl)
                go_wp2
                go_ret
                exact ⟨ret_bool HF.out.symm, kk.trans kA⟩
              have e3 : decide (fi < 0) = false := decide_eq_false g3
              obtain ⟨b1, b2⟩ := sq_bd (s := sz) (by omega) (by omega)
              by_cases g4 : s.box.length - sz * sz < fi
              · have e4 : decide (s.box.length - sz * sz < fi) = true := decide_eq_true g4
                have hw1 : IntKind.i64.wrap (sz * sz) = sz * sz := IntWalk.i64_in _ (by omega)
                have hw2 : IntKind.i64.wrap (s.box.length - sz * sz) = s.box.length - sz * sz := IntWalk.i64_in _ (by omega)
                have HF : Hid (validS s = false) := hid (by
                  rw [HV.out, HB.out, HD.out, List.all_cons]
                  unfold grOk
                  dsimp only
                  rw [decide_eq_false (fun h => by obtain ⟨_, _, _, h, _⟩ := h; exact absurd g4 (Int.not_lt.mpr h))]
                  rfl)
                go_wp2
                go_ret
                exact ⟨ret_bool HF.out.symm, kk.trans kA⟩
              have e4 : decide (s.box.length - sz * sz < fi) = false := decide_eq_false g4
              by_cases g5 : (le.length : Int) = sz * sz
              · have e5 : ((le.length : Int) != sz * sz) = false := by simpa using g5
                have HG : Hid (grOk s.box.length ⟨fi, sz, le⟩ = !le.any farI) := hid (by
                  unfold grOk
                  dsimp only
                  rw [decide_eq_true (by omega)]
                  rfl)
                obtain ⟨hw1, hw2⟩ : IntKind.i64.wrap (sz * sz) = sz * sz ∧ IntKind.i64.wrap (s.box.length - sz * sz) = s.box.length - sz * sz := ⟨IntWalk.i64_in _ (by omega), IntWalk.i64_in _ (by omega)⟩
                go_wp2
                clear hw1 hw2 e1 e2 e3 e4 e5 g1 g2 g3 g4 g5
                generalize wr.alloc (.cells #[.int .i64 fi, .int .i64 sz, .slice A' le.length c'] 65) = wA at *
                generalize wr.heap.size = bg at *
                go_loopw [6] (fun i wr => ∃ k : Nat, k ≤ le.length ∧ i = .int .i64 k ∧ Hid (le.any farI = (le.drop k).any farI) ∧ Kp wA wr) (fun i _ => le.length - (intOf i).toNat)
                case atStart => exact ⟨0, Nat.zero_le _, rfl, rfl, Kp.refl _⟩
                case round =>
                  obtain ⟨j, hj, rfl, HJ, hjr⟩ := hrel
                  have hj2 := hjr.cellS f2
                  have hjg := block_lt_of_cell hj2
                  by_cases hjl : j < le.length
                  · obtain ⟨q, p, rfl, hq, hx⟩ := (hle.keep (pl_stable _) hjr).ints hjl
                    have HE := hid (List.drop_eq_getElem_cons hjl)
                    generalize le[j] = x at *
                    by_cases p1 : x < -4000000
                    · have e1 : decide (x < -4000000) = true := decide_eq_true p1
                      have HF : Hid (validS s = false) := hid (by rw [HV.out, HB.out, HD.out, List.all_cons, HG.out, HJ.out, HE.out, List.any_cons]; unfold farI; rw [e1]; simp)
                      go_wp2
                      go_ret
                      exact ⟨ret_bool HF.out.symm, kk.trans (kA.trans hjr)⟩
                    have e1 : decide (x < -4000000) = false := decide_eq_false p1
                    by_cases p2 : 4000000 < x
                    · have e2 : decide (4000000 < x) = true := decide_eq_true p2
                      have HF : Hid (validS s = false) := hid (by rw [HV.out, HB.out, HD.out, List.all_cons, HG.out, HJ.out, HE.out, List.any_cons]; unfold farI; rw [e2]; simp)
                      go_wp2
                      go_ret
                      exact ⟨ret_bool HF.out.symm, kk.trans (kA.trans hjr)⟩
                    have e2 : decide (4000000 < x) = false := decide_eq_false p2
                    have HF : Hid (le.any farI = (le.drop (j + 1)).any farI) := hid (by
                      have hx : farI x = false := by unfold farI; rw [e1, e2]; rfl
                      rw [HJ.out, HE.out, List.any_cons, hx]; rfl)
                    go_wp2
                    go_roundw
                    case rel => exact ⟨j + 1, by omega, by go_num, HF, hjr⟩
                    case measure => simp [intOf]; omega
                  · have HF : Hid (s.graphs.all (grOk s.box.length) = (s.graphs.drop (k + 1)).all (grOk s.box.length)) := hid (by rw [HB.out, HD.out, List.all_cons, HG.out, HJ.out, List.drop_of_length_le (by omega)]; rfl)
                    have k4 := kA.trans hjr
                    go_wp2
                    go_roundw
                    case rel => exact ⟨k + 1, by omega, by go_num, HF, hkr.trans k4⟩
                    case measure => simp [intOf]; omega
              · have e5 : ((le.length : Int) != sz * sz) = true := by simpa using g5
                obtain ⟨hw1, hw2⟩ : IntKind.i64.wrap (sz * sz) = sz * sz ∧ IntKind.i64.wrap (s.box.length - sz * sz) = s.box.length - sz * sz := ⟨IntWalk.i64_in _ (by omega), IntWalk.i64_in _ (by omega)⟩
                have HF : Hid (validS s = false) := hid (by
                  rw [HV.out, HB.out, HD.out, List.all_cons]
                  unfold grOk
                  dsimp only
                  rw [decide_eq_false (fun h => by obtain ⟨_, _, _, _, h⟩ := h; exact g5 h)]
                  rfl)
                go_wp2
                go_ret
                exact ⟨ret_bool HF.out.symm, kk.trans kA⟩
            · have HF : Hid (validS s = true) := hid (by rw [HV.out, HB.out, List.drop_of_length_le (by omega)]; rfl)
              go_wp2
              go_ret
              exact ⟨ret_bool HF.out.symm, kk⟩
end Go.Proofs.Ytfllmnaillilhaa
namespace Go.Proofs.Ytfllmnaillilhaa
set_option linter.unusedSimpArgs false
set_option linter.unusedVariables false
open Go.RowKit

set_option maxHeartbeats 2000000 in
theorem rInts_refl (va vb : Value) (l : List Int) (w : World) (ha : Ints w va l) (hb : Ints w vb l) :
    Calls Try.prog 49 #[va, vb] w fun e w' => e = .returned (.bool true) ∧ Kp w w' := by
  obtain ⟨A, c, rfl, hc, hm⟩ := ha.form
  obtain ⟨A', c', rfl, hc', hm'⟩ := hb.form
  go_enter Try.func49, Try.ntmps49
  go_wp2
  go_loopw [5] (fun i wr => ∃ k : Nat, k ≤ l.length ∧ i = .int .i64 k ∧ Kp w wr) (fun i _ => l.length - (intOf i).toNat)
  case atStart => exact ⟨0, Nat.zero_le _, rfl, Kp.refl _⟩
  case round =>
    obtain ⟨k, hk, rfl, hbel⟩ := hrel
    by_cases hlt : k < l.length
    · obtain ⟨q, o, rfl, hq, h1⟩ := (ha.keep (pl_stable _) hbel).ints hlt
      obtain ⟨q', o', rfl, hq', h2⟩ := (hb.keep (pl_stable _) hbel).ints hlt
      generalize l[k] = x at *
      have q1 : (0 : Int) ≤ k := by omega
      have q2 : (k : Int) < l.length := by omega
      go_wp2
      go_quiet (fail)
      go_wp2
      go_roundw
      case rel => exact ⟨k + 1, by omega, by go_num, hbel.drewN _⟩
      case measure => simp [intOf]; omega
    · go_wp2
      go_ret
      exact ⟨rfl, hbel⟩
set_option maxRecDepth 8000 in
set_option maxHeartbeats 4000000 in
theorem qrows_refl (va vb : Value) (l : List Row) (w : World) (ha : RowsL w va l) (hb : RowsL w vb l) :
    Calls Try.prog 48 #[va, vb] w fun e w' => e = .returned (.bool true) ∧ Kp w w' := by
  obtain ⟨A, c, rfl, hc, hm⟩ := ha.form
  obtain ⟨A', c', rfl, hc', hm'⟩ := hb.form
  go_enter Try.func48, Try.ntmps48
  go_wp2
  go_loopw [5] (fun i wr => ∃ k : Nat, k ≤ l.length ∧ i = .int .i64 k ∧ Kp w wr) (fun i _ => l.length - (intOf i).toNat)
  case atStart => exact ⟨0, Nat.zero_le _, rfl, Kp.refl _⟩
  case round =>
    obtain ⟨k, hk, rfl, hbel⟩ := hrel
    by_cases hlt : k < l.length
    · obtain ⟨q, o, A1, c1, rfl, hq, h1, h2, h3⟩ := (ha.keep rdRow_stable hbel).row hlt
      obtain ⟨q', o', A2, c2, rfl, hq', h4, h5, h6⟩ := (hb.keep rdRow_stable hbel).row hlt
      clear ha hb
      generalize l[k] = r at *
      obtain ⟨ts, bd⟩ := r
      dsimp only at h1 h2 h3 h4 h5 h6
      have q1 : (0 : Int) ≤ k := by omega
      have q2 : (k : Int) < l.length := by omega
      have hT := hid ((eqT_iff ts ts).2 rfl)
      have hSf : ∀ W, Kp wr W → (W.cell? ⟨q, o + k * 2, none⟩ = some (.slice A1 ts.length c1) ∧ W.cell? ⟨q, o + k * 2 + 1, none⟩ = some (.int .i64 bd) ∧ W.cell? ⟨q', o' + k * 2, none⟩ = some (.slice A2 ts.length c2) ∧ W.cell? ⟨q', o' + k * 2 + 1, none⟩ = some (.int .i64 bd) ∧ Kp wr W) := fun W hk => ⟨hk.cellS h1, hk.cellS h2, hk.cellS h4, hk.cellS h5, hk⟩
      go_wp2
      refine wp_region_held_drew (S := fun W => W.cell? ⟨q, o + k * 2, none⟩ = some (.slice A1 ts.length c1) ∧ W.cell? ⟨q, o + k * 2 + 1, none⟩ = some (.int .i64 bd) ∧ W.cell? ⟨q', o' + k * 2, none⟩ = some (.slice A2 ts.length c2) ∧ W.cell? ⟨q', o' + k * 2 + 1, none⟩ = some (.int .i64 bd) ∧ Kp wr W) (by kernel_rfl) (hSf _ (Kp.refl _).drew) (fun hHeld => ?_)
      refine take_at 0 17 (v := ?_) rfl rfl (by kernel_rfl) (by kernel_rfl) (by kernel_rfl) (fun _ _ _ h => h) hHeld (Or.inl ⟨by kernel_rfl, ?_⟩) ?_
      rotate_left
      · intro w hSw; (try dsimp only at hSw); go_simp; try with_reducible rfl
      simp only [Act.put, List.setIfInBounds_toArray, List.set_cons_zero, List.set_cons_succ]
      refine take_at 1 18 (v := ?_) rfl rfl (by kernel_rfl) (by kernel_rfl) (by kernel_rfl) (fun _ _ _ h => h) hHeld (Or.inl ⟨by kernel_rfl, ?_⟩) ?_
      rotate_left
      · intro w hSw; (try dsimp only at hSw); go_simp; try with_reducible rfl
      simp only [Act.put, List.setIfInBounds_toArray, List.set_cons_zero, List.set_cons_succ]
      refine take_at 2 19 (v := ?_) rfl rfl (by kernel_rfl) (by kernel_rfl) (by kernel_rfl) (fun _ _ _ h => h) hHeld (Or.inl ⟨by kernel_rfl, ?_⟩) ?_
      rotate_left
      · intro w hSw; (try dsimp only at hSw); go_simp; try with_reducible rfl
      simp only [Act.put, List.setIfInBounds_toArray, List.set_cons_zero, List.set_cons_succ]
      refine take_at 3 20 (v := ?_) rfl rfl (by kernel_rfl) (by kernel_rfl) (by kernel_rfl) (fun _ _ _ h => h) hHeld (Or.inl ⟨by kernel_rfl, ?_⟩) ?_
      rotate_left
      · intro w hSw; (try dsimp only at hSw); go_simp; try with_reducible rfl
      simp only [Act.put, List.setIfInBounds_toArray, List.set_cons_zero, List.set_cons_succ]
      refine take_at 4 21 (v := ?_) rfl rfl (by kernel_rfl) (by kernel_rfl) (by kernel_rfl) (fun _ _ _ h => h) hHeld (Or.inl ⟨by kernel_rfl, ?_⟩) ?_
      rotate_left
      · intro w hSw; (try dsimp only at hSw); go_simp; try with_reducible rfl
      simp only [Act.put, List.setIfInBounds_toArray, List.set_cons_zero, List.set_cons_succ]
      refine take_at 5 22 (v := ?_) rfl rfl (by kernel_rfl) (by kernel_rfl) (by kernel_rfl) (fun _ _ _ h => h) hHeld (Or.inl ⟨by kernel_rfl, ?_⟩) ?_
      rotate_left
      · intro w hSw; (try dsimp only at hSw); go_simp; try with_reducible rfl
      simp only [Act.put, List.setIfInBounds_toArray, List.set_cons_zero, List.set_cons_succ]
      refine take_at 6 23 (v := ?_) rfl rfl (by kernel_rfl) (by kernel_rfl) (by kernel_rfl) (fun _ _ _ h => h) hHeld (Or.inl ⟨by kernel_rfl, ?_⟩) ?_
      rotate_left
      · intro w hSw; (try dsimp only at hSw); go_simp; try with_reducible rfl
      simp only [Act.put, List.setIfInBounds_toArray, List.set_cons_zero, List.set_cons_succ]
      refine take_at 7 24 (v := ?_) rfl rfl (by kernel_rfl) (by kernel_rfl) (by kernel_rfl) (fun _ _ _ h => h) hHeld (Or.inl ⟨by kernel_rfl, ?_⟩) ?_
      rotate_left
      · intro w hSw; (try dsimp only at hSw); go_simp; try with_reducible rfl
      simp only [Act.put, List.setIfInBounds_toArray, List.set_cons_zero, List.set_cons_succ]
      refine take_at 8 25 (v := ?_) rfl rfl (by kernel_rfl) (by kernel_rfl) (by kernel_rfl) (fun _ _ _ h => h) hHeld (Or.inl ⟨by kernel_rfl, ?_⟩) ?_
      rotate_left
      · intro w hSw; (try dsimp only at hSw); go_simp; try with_reducible rfl
      simp only [Act.put, List.setIfInBounds_toArray, List.set_cons_zero, List.set_cons_succ]
      refine take_at 9 26 (v := ?_) rfl rfl (by kernel_rfl) (by kernel_rfl) (by kernel_rfl) (fun _ _ _ h => h) hHeld (Or.inl ⟨by kernel_rfl, ?_⟩) ?_
      rotate_left
      · intro w hSw; (try dsimp only at hSw); go_simp; try with_reducible rfl
      simp only [Act.put, List.setIfInBounds_toArray, List.set_cons_zero, List.set_cons_succ]
      refine take_at 10 27 (v := ?_) rfl rfl (by kernel_rfl) (by kernel_rfl) (by kernel_rfl) (fun _ _ _ h => h) hHeld (Or.inl ⟨by kernel_rfl, ?_⟩) ?_
      rotate_left
      · intro w hSw; (try dsimp only at hSw); go_simp; try with_reducible rfl
      simp only [Act.put, List.setIfInBounds_toArray, List.set_cons_zero, List.set_cons_succ]
      refine take_at 11 28 (v := ?_) rfl rfl (by kernel_rfl) (by kernel_rfl) (by kernel_rfl) (fun _ _ _ h => h) hHeld (Or.inl ⟨by kernel_rfl, ?_⟩) ?_
      rotate_left
      · intro w hSw; (try dsimp only at hSw); go_simp; try with_reducible rfl
      simp only [Act.put, List.setIfInBounds_toArray, List.set_cons_zero, List.set_cons_succ]
      refine take_at 12 29 (v := ?_) rfl rfl (by kernel_rfl) (by kernel_rfl) (by kernel_rfl) (fun _ _ _ h => h) hHeld (Or.inl ⟨by kernel_rfl, ?_⟩) ?_
      rotate_left
      · intro w hSw; (try dsimp only at hSw); go_simp; try with_reducible rfl
      simp only [Act.put, List.setIfInBounds_toArray, List.set_cons_zero, List.set_cons_succ]
      refine take_at 13 30 (v := ?_) rfl rfl (by kernel_rfl) (by kernel_rfl) (by kernel_rfl) (fun _ _ _ h => h) hHeld (Or.inl ⟨by kernel_rfl, ?_⟩) ?_
      rotate_left
      · intro w hSw; (try dsimp only at hSw); go_simp; try with_reducible rfl
      simp only [Act.put, List.setIfInBounds_toArray, List.set_cons_zero, List.set_cons_succ]
      refine take_at 14 31 (v := ?_) rfl rfl (by kernel_rfl) (by kernel_rfl) (by kernel_rfl) (fun _ _ _ h => h) hHeld (Or.inl ⟨by kernel_rfl, ?_⟩) ?_
      rotate_left
      · intro w hSw; (try dsimp only at hSw); go_simp; try with_reducible rfl
      simp only [Act.put, List.setIfInBounds_toArray, List.set_cons_zero, List.set_cons_succ]
      refine take_at 15 32 (v := ?_) rfl rfl (by kernel_rfl) (by kernel_rfl) (by kernel_rfl) (fun _ _ _ h => h) hHeld (Or.inl ⟨by kernel_rfl, ?_⟩) ?_
      rotate_left
      · intro w hSw; (try dsimp only at hSw); go_simp; try with_reducible rfl
      simp only [Act.put, List.setIfInBounds_toArray, List.set_cons_zero, List.set_cons_succ]
      refine take_at 16 33 (v := ?_) rfl rfl (by kernel_rfl) (by kernel_rfl) (by kernel_rfl) (fun _ _ _ h => h) hHeld (Or.inl ⟨by kernel_rfl, ?_⟩) ?_
      rotate_left
      · intro w hSw; (try dsimp only at hSw); go_simp; try with_reducible rfl
      simp only [Act.put, List.setIfInBounds_toArray, List.set_cons_zero, List.set_cons_succ]
      refine take_at 17 34 (v := ?_) rfl rfl (by kernel_rfl) (by kernel_rfl) (by kernel_rfl) (fun _ _ _ h => h) hHeld (Or.inl ⟨by kernel_rfl, ?_⟩) ?_
      rotate_left
      · intro w hSw; (try dsimp only at hSw); go_simp; try with_reducible rfl
      simp only [Act.put, List.setIfInBounds_toArray, List.set_cons_zero, List.set_cons_succ]
      refine take_at 18 35 (v := ?_) rfl rfl (by kernel_rfl) (by kernel_rfl) (by kernel_rfl) (fun _ _ _ h => h) hHeld (Or.inl ⟨by kernel_rfl, ?_⟩) ?_
      rotate_left
      · intro w hSw; (try dsimp only at hSw); go_simp; try with_reducible rfl
      simp only [Act.put, List.setIfInBounds_toArray, List.set_cons_zero, List.set_cons_succ]
      refine take_at 19 36 (v := ?_) rfl rfl (by kernel_rfl) (by kernel_rfl) (by kernel_rfl) (fun _ _ _ h => h) hHeld (Or.inl ⟨by kernel_rfl, ?_⟩) ?_
      rotate_left
      · intro w hSw; (try dsimp only at hSw); go_simp; try with_reducible rfl
      simp only [Act.put, List.setIfInBounds_toArray, List.set_cons_zero, List.set_cons_succ]
      refine wpAnyH_ready (rs := [20]) (by kernel_rfl) (by simp) ?_
      refine AllReadyH.cons (o := _) rfl (fun K hK => ?_) AllReadyH.nil
      go_simp
      refine (qTerms_any _ _ ts ts bd bd _ (h3.keep (pl_stable _) hHeld.2.2.2.2) (h6.keep (pl_stable _) hHeld.2.2.2.2)).mono ?_
      rintro e w9 ⟨rfl, h9⟩
      rw [hT.out]
      refine hK.out _ _ (hSf _ (hHeld.2.2.2.2.trans h9)) (fun hHeld2 => ?_)
      clear hK K hHeld
      have hHeld := hHeld2
      clear hHeld2
      refine take_at 21 38 (v := ?_) rfl rfl (by kernel_rfl) (by kernel_rfl) (by kernel_rfl) (fun _ _ _ h => h) hHeld (Or.inl ⟨by kernel_rfl, ?_⟩) ?_
      rotate_left
      · intro w hSw; (try dsimp only at hSw); go_simp; try with_reducible rfl
      simp only [Act.put, List.setIfInBounds_toArray, List.set_cons_zero, List.set_cons_succ]
      refine take_at 22 39 (v := ?_) rfl rfl (by kernel_rfl) (by kernel_rfl) (by kernel_rfl) (fun _ _ _ h => h) hHeld (Or.inl ⟨by kernel_rfl, ?_⟩) ?_
      rotate_left
      · intro w hSw; (try dsimp only at hSw); go_simp; try with_reducible rfl
      simp only [Act.put, List.setIfInBounds_toArray, List.set_cons_zero, List.set_cons_succ]
      refine wpAnyH_done (by kernel_rfl) ?_ _
      have k4 := hHeld.2.2.2.2
      clear hHeld hSf
      go_wp2
      go_roundw
      case rel => exact ⟨k + 1, by omega, by go_num, hbel.trans k4⟩
      case measure => simp [intOf]; omega
    · go_wp2
      go_ret
      exact ⟨rfl, hbel⟩
theorem sameB_refl (b : List Rng) : (decide (b.length = b.length) && sameB b b) = true := by
  rw [decide_eq_true rfl, (sameB_iff b b rfl).2 rfl]; rfl
set_option maxRecDepth 8000 in
set_option maxHeartbeats 8000000 in
theorem qSame_refl (va vb : Value) (s : Sys) (w : World) (ha : SysV w va s) (hb : SysV w vb s) :
    Calls Try.prog 16 #[va, vb] w fun e w' => e = .returned (.bool true) ∧ Kp w w' := by
  obtain ⟨Ab, cb, Ar, cr, Ag, cg, Ac, cc, rfl, hab, har, hag, hac⟩ := ha
  obtain ⟨l1, m1⟩ := hab.caps
  obtain ⟨l2, m2⟩ := har.caps
  obtain ⟨l3, m3⟩ := hag.caps
  obtain ⟨l4, m4⟩ := hac.caps
  obtain ⟨Ab2, cb2, Ar2, cr2, Ag2, cg2, Ac2, cc2, rfl, hbb, hbr, hbg, hbc⟩ := hb
  obtain ⟨l5, m5⟩ := hbb.caps
  obtain ⟨l6, m6⟩ := hbr.caps
  obtain ⟨l7, m7⟩ := hbg.caps
  obtain ⟨l8, m8⟩ := hbc.caps
  have k0 := ((Kp.refl w).alloc (.cells #[.slice Ab s.box.length cb, .slice Ar s.rows.length cr, .slice Ag s.graphs.length cg, .slice Ac s.cases.length cc] 27)).alloc (.cells #[.slice Ab2 s.box.length cb2, .slice Ar2 s.rows.length cr2, .slice Ag2 s.graphs.length cg2, .slice Ac2 s.cases.length cc2] 27)
  have B0 := (SysB.new w #[.slice Ab s.box.length cb, .slice Ar s.rows.length cr, .slice Ag s.graphs.length cg, .slice Ac s.cases.length cc] 27).keep ((Kp.refl _).alloc (.cells #[.slice Ab2 s.box.length cb2, .slice Ar2 s.rows.length cr2, .slice Ag2 s.graphs.length cg2, .slice Ac2 s.cases.length cc2] 27))
  have B1 := SysB.new (w.alloc (.cells #[.slice Ab s.box.length cb, .slice Ar s.rows.length cr, .slice Ag s.graphs.length cg, .slice Ac s.cases.length cc] 27)) #[.slice Ab2 s.box.length cb2, .slice Ar2 s.rows.length cr2, .slice Ag2 s.graphs.length cg2, .slice Ac2 s.cases.length cc2] 27
  rw [World.size_alloc] at B1
  go_enter Try.func16, Try.ntmps16
  go_wp2_with fail
  generalize (w.alloc (.cells #[.slice Ab s.box.length cb, .slice Ar s.rows.length cr, .slice Ag s.graphs.length cg, .slice Ac s.cases.length cc] 27)).alloc (.cells #[.slice Ab2 s.box.length cb2, .slice Ar2 s.rows.length cr2, .slice Ag2 s.graphs.length cg2, .slice Ac2 s.cases.length cc2] 27) = w0 at *
  generalize w.heap.size + 1 = b1 at *
  generalize w.heap.size = b0 at *
  refine (rSame_any _ _ s.box s.box _ (hab.keep (pl_stable _) k0) (hbb.keep (pl_stable _) k0)).mono ?_
  rintro e w1 ⟨rfl, k1⟩
  rw [sameB_refl s.box]
  replace B0 := B0.keep k1
  replace B1 := B1.keep k1
  replace k1 := k0.trans k1
  clear k0
  obtain ⟨c0, c1, c2, c3⟩ := B0.cells
  obtain ⟨d0, d1, d2, d3⟩ := B1.cells
  have hgl := block_lt_of_cell c0
  have hgl2 := block_lt_of_cell d0
  go_wp2_with fail
  refine (qrows_refl _ _ s.rows _ (har.keep rdRow_stable k1) (hbr.keep rdRow_stable k1)).mono ?_
  rintro e w2 ⟨rfl, k2⟩
  replace B0 := B0.keep k2
  replace B1 := B1.keep k2
  replace k2 := k1.trans k2
  clear k1 c0 c1 c2 c3 d0 d1 d2 d3 hgl hgl2
  obtain ⟨c0, c1, c2, c3⟩ := B0.cells
  obtain ⟨d0, d1, d2, d3⟩ := B1.cells
  have hgl := block_lt_of_cell c0
  have hgl2 := block_lt_of_cell d0
  go_wp2
  go_loopw [5] (fun i wr => ∃ k : Nat, k ≤ s.graphs.length ∧ i = .int .i64 k ∧ Kp w2 wr) (fun i _ => s.graphs.length - (intOf i).toNat)
  case atStart => exact ⟨0, Nat.zero_le _, rfl, Kp.refl _⟩
  case round =>
    obtain ⟨k, hk, rfl, hkr⟩ := hrel
    replace B0 := B0.keep hkr
    replace B1 := B1.keep hkr
    have kk := k2.trans hkr
    clear c0 c1 c2 c3 d0 d1 d2 d3 hgl hgl2 k2
    obtain ⟨c0, c1, c2, c3⟩ := B0.cells
    obtain ⟨d0, d1, d2, d3⟩ := B1.cells
    have hgl := block_lt_of_cell c0
    have hgl2 := block_lt_of_cell d0
    by_cases hlt : k < s.graphs.length
    · obtain ⟨q, o, A1, e1, rfl, hq, h1, h2, h3, h4⟩ := (hag.keep rdGr_stable kk).gr hlt
      obtain ⟨q', o', A2, e2, rfl, hq', h5, h6, h7, h8⟩ := (hbg.keep rdGr_stable kk).gr hlt
      clear hab har hag hac hbb hbr hbg hbc
      generalize s.graphs[k] = g at *
      obtain ⟨fi, sz, le⟩ := g
      dsimp only at h1 h2 h3 h4 h5 h6 h7 h8
      have q1 : (0 : Int) ≤ k := by omega
      have q2 : (k : Int) < s.graphs.length := by omega
      have hSf : ∀ W, Kp wr W → (W.cell? ⟨b0, 2, none⟩ = some (.slice (some ⟨q, o, none⟩) s.graphs.length cg) ∧ W.cell? ⟨b1, 2, none⟩ = some (.slice (some ⟨q', o', none⟩) s.graphs.length cg2) ∧ W.cell? ⟨q, o + k * 3, none⟩ = some (.int .i64 fi) ∧ W.cell? ⟨q, o + k * 3 + 1, none⟩ = some (.int .i64 sz) ∧ W.cell? ⟨q, o + k * 3 + 2, none⟩ = some (.slice A1 le.length e1) ∧ W.cell? ⟨q', o' + k * 3, none⟩ = some (.int .i64 fi) ∧ W.cell? ⟨q', o' + k * 3 + 1, none⟩ = some (.int .i64 sz) ∧ W.cell? ⟨q', o' + k * 3 + 2, none⟩ = some (.slice A2 le.length e2) ∧ Kp wr W) := fun W hk => ⟨hk.cellS c2, hk.cellS d2, hk.cellS h1, hk.cellS h2, hk.cellS h3, hk.cellS h5, hk.cellS h6, hk.cellS h7, hk⟩
      go_wp2
      refine wp_region_held_drew (S := fun W => W.cell? ⟨b0, 2, none⟩ = some (.slice (some ⟨q, o, none⟩) s.graphs.length cg) ∧ W.cell? ⟨b1, 2, none⟩ = some (.slice (some ⟨q', o', none⟩) s.graphs.length cg2) ∧ W.cell? ⟨q, o + k * 3, none⟩ = some (.int .i64 fi) ∧ W.cell? ⟨q, o + k * 3 + 1, none⟩ = some (.int .i64 sz) ∧ W.cell? ⟨q, o + k * 3 + 2, none⟩ = some (.slice A1 le.length e1) ∧ W.cell? ⟨q', o' + k * 3, none⟩ = some (.int .i64 fi) ∧ W.cell? ⟨q', o' + k * 3 + 1, none⟩ = some (.int .i64 sz) ∧ W.cell? ⟨q', o' + k * 3 + 2, none⟩ = some (.slice A2 le.length e2) ∧ Kp wr W) (by kernel_rfl) (hSf _ (Kp.refl _).drew) (fun hHeld => ?_)
      refine take_at 0 46 (v := ?_) rfl rfl (by kernel_rfl) (by kernel_rfl) (by kernel_rfl) (fun _ _ _ h => h) hHeld (Or.inl ⟨by kernel_rfl, ?_⟩) ?_
      rotate_left
      · intro w hSw; (try dsimp only at hSw); go_simp; try with_reducible rfl
      simp only [Act.put, List.setIfInBounds_toArray, List.set_cons_zero, List.set_cons_succ]
      refine take_at 1 47 (v := ?_) rfl rfl (by kernel_rfl) (by kernel_rfl) (by kernel_rfl) (fun _ _ _ h => h) hHeld (Or.inl ⟨by kernel_rfl, ?_⟩) ?_
      rotate_left
      · intro w hSw; (try dsimp only at hSw); go_simp; try with_reducible rfl
      simp only [Act.put, List.setIfInBounds_toArray, List.set_cons_zero, List.set_cons_succ]
      refine take_at 2 48 (v := ?_) rfl rfl (by kernel_rfl) (by kernel_rfl) (by kernel_rfl) (fun _ _ _ h => h) hHeld (Or.inl ⟨by kernel_rfl, ?_⟩) ?_
      rotate_left
      · intro w hSw; (try dsimp only at hSw); go_simp; try with_reducible rfl
      simp only [Act.put, List.setIfInBounds_toArray, List.set_cons_zero, List.set_cons_succ]
      refine take_at 3 49 (v := ?_) rfl rfl (by kernel_rfl) (by kernel_rfl) (by kernel_rfl) (fun _ _ _ h => h) hHeld (Or.inl ⟨by kernel_rfl, ?_⟩) ?_
      rotate_left
      · intro w hSw; (try dsimp only at hSw); go_simp; try with_reducible rfl
      simp only [Act.put, List.setIfInBounds_toArray, List.set_cons_zero, List.set_cons_succ]
      refine take_at 4 50 (v := ?_) rfl rfl (by kernel_rfl) (by kernel_rfl) (by kernel_rfl) (fun _ _ _ h => h) hHeld (Or.inl ⟨by kernel_rfl, ?_⟩) ?_
      rotate_left
      · intro w hSw; (try dsimp only at hSw); go_simp; try with_reducible rfl
      simp only [Act.put, List.setIfInBounds_toArray, List.set_cons_zero, List.set_cons_succ]
      refine take_at 5 51 (v := ?_) rfl rfl (by kernel_rfl) (by kernel_rfl) (by kernel_rfl) (fun _ _ _ h => h) hHeld (Or.inl ⟨by kernel_rfl, ?_⟩) ?_
      rotate_left
      · intro w hSw; (try dsimp only at hSw); go_simp; try with_reducible rfl
      simp only [Act.put, List.setIfInBounds_toArray, List.set_cons_zero, List.set_cons_succ]
      refine take_at 6 52 (v := ?_) rfl rfl (by kernel_rfl) (by kernel_rfl) (by kernel_rfl) (fun _ _ _ h => h) hHeld (Or.inl ⟨by kernel_rfl, ?_⟩) ?_
      rotate_left
      · intro w hSw; (try dsimp only at hSw); go_simp; try with_reducible rfl
      simp only [Act.put, List.setIfInBounds_toArray, List.set_cons_zero, List.set_cons_succ]
      refine take_at 7 53 (v := ?_) rfl rfl (by kernel_rfl) (by kernel_rfl) (by kernel_rfl) (fun _ _ _ h => h) hHeld (Or.inl ⟨by kernel_rfl, ?_⟩) ?_
      rotate_left
      · intro w hSw; (try dsimp only at hSw); go_simp; try with_reducible rfl
      simp only [Act.put, List.setIfInBounds_toArray, List.set_cons_zero, List.set_cons_succ]
      refine take_at 8 54 (v := ?_) rfl rfl (by kernel_rfl) (by kernel_rfl) (by kernel_rfl) (fun _ _ _ h => h) hHeld (Or.inl ⟨by kernel_rfl, ?_⟩) ?_
      rotate_left
      · intro w hSw; (try dsimp only at hSw); go_simp; try with_reducible rfl
      simp only [Act.put, List.setIfInBounds_toArray, List.set_cons_zero, List.set_cons_succ]
      refine take_at 9 55 (v := ?_) rfl rfl (by kernel_rfl) (by kernel_rfl) (by kernel_rfl) (fun _ _ _ h => h) hHeld (Or.inl ⟨by kernel_rfl, ?_⟩) ?_
      rotate_left
      · intro w hSw; (try dsimp only at hSw); go_simp; try with_reducible rfl
      simp only [Act.put, List.setIfInBounds_toArray, List.set_cons_zero, List.set_cons_succ]
      refine take_at 10 56 (v := ?_) rfl rfl (by kernel_rfl) (by kernel_rfl) (by kernel_rfl) (fun _ _ _ h => h) hHeld (Or.inl ⟨by kernel_rfl, ?_⟩) ?_
      rotate_left
      · intro w hSw; (try dsimp only at hSw); go_simp; try with_reducible rfl
      simp only [Act.put, List.setIfInBounds_toArray, List.set_cons_zero, List.set_cons_succ]
      refine take_at 11 57 (v := ?_) rfl rfl (by kernel_rfl) (by kernel_rfl) (by kernel_rfl) (fun _ _ _ h => h) hHeld (Or.inl ⟨by kernel_rfl, ?_⟩) ?_
      rotate_left
      · intro w hSw; (try dsimp only at hSw); go_simp; try with_reducible rfl
      simp only [Act.put, List.setIfInBounds_toArray, List.set_cons_zero, List.set_cons_succ]
      refine take_at 12 58 (v := ?_) rfl rfl (by kernel_rfl) (by kernel_rfl) (by kernel_rfl) (fun _ _ _ h => h) hHeld (Or.inl ⟨by kernel_rfl, ?_⟩) ?_
      rotate_left
      · intro w hSw; (try dsimp only at hSw); go_simp; try with_reducible rfl
      simp only [Act.put, List.setIfInBounds_toArray, List.set_cons_zero, List.set_cons_succ]
      refine take_at 13 59 (v := ?_) rfl rfl (by kernel_rfl) (by kernel_rfl) (by kernel_rfl) (fun _ _ _ h => h) hHeld (Or.inl ⟨by kernel_rfl, ?_⟩) ?_
      rotate_left
      · intro w hSw; (try dsimp only at hSw); go_simp; try with_reducible rfl
      simp only [Act.put, List.setIfInBounds_toArray, List.set_cons_zero, List.set_cons_succ]
      refine take_at 14 60 (v := ?_) rfl rfl (by kernel_rfl) (by kernel_rfl) (by kernel_rfl) (fun _ _ _ h => h) hHeld (Or.inl ⟨by kernel_rfl, ?_⟩) ?_
      rotate_left
      · intro w hSw; (try dsimp only at hSw); go_simp; try with_reducible rfl
      simp only [Act.put, List.setIfInBounds_toArray, List.set_cons_zero, List.set_cons_succ]
      refine take_at 15 61 (v := ?_) rfl rfl (by kernel_rfl) (by kernel_rfl) (by kernel_rfl) (fun _ _ _ h => h) hHeld (Or.inl ⟨by kernel_rfl, ?_⟩) ?_
      rotate_left
      · intro w hSw; (try dsimp only at hSw); go_simp; try with_reducible rfl
      simp only [Act.put, List.setIfInBounds_toArray, List.set_cons_zero, List.set_cons_succ]
      refine take_at 16 62 (v := ?_) rfl rfl (by kernel_rfl) (by kernel_rfl) (by kernel_rfl) (fun _ _ _ h => h) hHeld (Or.inl ⟨by kernel_rfl, ?_⟩) ?_
      rotate_left
      · intro w hSw; (try dsimp only at hSw); go_simp; try with_reducible rfl
      simp only [Act.put, List.setIfInBounds_toArray, List.set_cons_zero, List.set_cons_succ]
      refine take_at 17 63 (v := ?_) rfl rfl (by kernel_rfl) (by kernel_rfl) (by kernel_rfl) (fun _ _ _ h => h) hHeld (Or.inl ⟨by kernel_rfl, ?_⟩) ?_
      rotate_left
      · intro w hSw; (try dsimp only at hSw); go_simp; try with_reducible rfl
      simp only [Act.put, List.setIfInBounds_toArray, List.set_cons_zero, List.set_cons_succ]
      refine take_at 18 64 (v := ?_) rfl rfl (by kernel_rfl) (by kernel_rfl) (by kernel_rfl) (fun _ _ _ h => h) hHeld (Or.inl ⟨by kernel_rfl, ?_⟩) ?_
      rotate_left
      · intro w hSw; (try dsimp only at hSw); go_simp; try with_reducible rfl
      simp only [Act.put, List.setIfInBounds_toArray, List.set_cons_zero, List.set_cons_succ]
      refine take_at 19 65 (v := ?_) rfl rfl (by kernel_rfl) (by kernel_rfl) (by kernel_rfl) (fun _ _ _ h => h) hHeld (Or.inl ⟨by kernel_rfl, ?_⟩) ?_
      rotate_left
      · intro w hSw; (try dsimp only at hSw); go_simp; try with_reducible rfl
      simp only [Act.put, List.setIfInBounds_toArray, List.set_cons_zero, List.set_cons_succ]
      refine take_at 20 66 (v := ?_) rfl rfl (by kernel_rfl) (by kernel_rfl) (by kernel_rfl) (fun _ _ _ h => h) hHeld (Or.inl ⟨by kernel_rfl, ?_⟩) ?_
      rotate_left
      · intro w hSw; (try dsimp only at hSw); go_simp; try with_reducible rfl
      simp only [Act.put, List.setIfInBounds_toArray, List.set_cons_zero, List.set_cons_succ]
      refine take_at 21 67 (v := ?_) rfl rfl (by kernel_rfl) (by kernel_rfl) (by kernel_rfl) (fun _ _ _ h => h) hHeld (Or.inl ⟨by kernel_rfl, ?_⟩) ?_
      rotate_left
      · intro w hSw; (try dsimp only at hSw); go_simp; try with_reducible rfl
      simp only [Act.put, List.setIfInBounds_toArray, List.set_cons_zero, List.set_cons_succ]
      refine take_at 22 68 (v := ?_) rfl rfl (by kernel_rfl) (by kernel_rfl) (by kernel_rfl) (fun _ _ _ h => h) hHeld (Or.inl ⟨by kernel_rfl, ?_⟩) ?_
      rotate_left
      · intro w hSw; (try dsimp only at hSw); go_simp; try with_reducible rfl
      simp only [Act.put, List.setIfInBounds_toArray, List.set_cons_zero, List.set_cons_succ]
      refine take_at 23 69 (v := ?_) rfl rfl (by kernel_rfl) (by kernel_rfl) (by kernel_rfl) (fun _ _ _ h => h) hHeld (Or.inl ⟨by kernel_rfl, ?_⟩) ?_
      rotate_left
      · intro w hSw; (try dsimp only at hSw); go_simp; try with_reducible rfl
      simp only [Act.put, List.setIfInBounds_toArray, List.set_cons_zero, List.set_cons_succ]
      refine take_at 24 70 (v := ?_) rfl rfl (by kernel_rfl) (by kernel_rfl) (by kernel_rfl) (fun _ _ _ h => h) hHeld (Or.inl ⟨by kernel_rfl, ?_⟩) ?_
      rotate_left
      · intro w hSw; (try dsimp only at hSw); go_simp; try with_reducible rfl
      simp only [Act.put, List.setIfInBounds_toArray, List.set_cons_zero, List.set_cons_succ]
      refine take_at 25 71 (v := ?_) rfl rfl (by kernel_rfl) (by kernel_rfl) (by kernel_rfl) (fun _ _ _ h => h) hHeld (Or.inl ⟨by kernel_rfl, ?_⟩) ?_
      rotate_left
      · intro w hSw; (try dsimp only at hSw); go_simp; try with_reducible rfl
      simp only [Act.put, List.setIfInBounds_toArray, List.set_cons_zero, List.set_cons_succ]
      refine take_at 26 72 (v := ?_) rfl rfl (by kernel_rfl) (by kernel_rfl) (by kernel_rfl) (fun _ _ _ h => h) hHeld (Or.inl ⟨by kernel_rfl, ?_⟩) ?_
      rotate_left
      · intro w hSw; (try dsimp only at hSw); go_simp; try with_reducible rfl
      simp only [Act.put, List.setIfInBounds_toArray, List.set_cons_zero, List.set_cons_succ]
      refine take_at 27 73 (v := ?_) rfl rfl (by kernel_rfl) (by kernel_rfl) (by kernel_rfl) (fun _ _ _ h => h) hHeld (Or.inl ⟨by kernel_rfl, ?_⟩) ?_
      rotate_left
      · intro w hSw; (try dsimp only at hSw); go_simp; try with_reducible rfl
      simp only [Act.put, List.setIfInBounds_toArray, List.set_cons_zero, List.set_cons_succ]
      refine take_at 28 74 (v := ?_) rfl rfl (by kernel_rfl) (by kernel_rfl) (by kernel_rfl) (fun _ _ _ h => h) hHeld (Or.inl ⟨by kernel_rfl, ?_⟩) ?_
      rotate_left
      · intro w hSw; (try dsimp only at hSw); go_simp; try with_reducible rfl
      simp only [Act.put, List.setIfInBounds_toArray, List.set_cons_zero, List.set_cons_succ]
      refine take_at 29 75 (v := ?_) rfl rfl (by kernel_rfl) (by kernel_rfl) (by kernel_rfl) (fun _ _ _ h => h) hHeld (Or.inl ⟨by kernel_rfl, ?_⟩) ?_
      rotate_left
      · intro w hSw; (try dsimp only at hSw); go_simp; try with_reducible rfl
      simp only [Act.put, List.setIfInBounds_toArray, List.set_cons_zero, List.set_cons_succ]
      refine take_at 30 76 (v := ?_) rfl rfl (by kernel_rfl) (by kernel_rfl) (by kernel_rfl) (fun _ _ _ h => h) hHeld (Or.inl ⟨by kernel_rfl, ?_⟩) ?_
      rotate_left
      · intro w hSw; (try dsimp only at hSw); go_simp; try with_reducible rfl
      simp only [Act.put, List.setIfInBounds_toArray, List.set_cons_zero, List.set_cons_succ]
      refine take_at 31 77 (v := ?_) rfl rfl (by kernel_rfl) (by kernel_rfl) (by kernel_rfl) (fun _ _ _ h => h) hHeld (Or.inl ⟨by kernel_rfl, ?_⟩) ?_
      rotate_left
      · intro w hSw; (try dsimp only at hSw); go_simp; try with_reducible rfl
      simp only [Act.put, List.setIfInBounds_toArray, List.set_cons_zero, List.set_cons_succ]
      refine take_at 32 78 (v := ?_) rfl rfl (by kernel_rfl) (by kernel_rfl) (by kernel_rfl) (fun _ _ _ h => h) hHeld (Or.inl ⟨by kernel_rfl, ?_⟩) ?_
      rotate_left
      · intro w hSw; (try dsimp only at hSw); go_simp; try with_reducible rfl
      simp only [Act.put, List.setIfInBounds_toArray, List.set_cons_zero, List.set_cons_succ]
      refine take_at 33 79 (v := ?_) rfl rfl (by kernel_rfl) (by kernel_rfl) (by kernel_rfl) (fun _ _ _ h => h) hHeld (Or.inl ⟨by kernel_rfl, ?_⟩) ?_
      rotate_left
      · intro w hSw; (try dsimp only at hSw); go_simp; try with_reducible rfl
      simp only [Act.put, List.setIfInBounds_toArray, List.set_cons_zero, List.set_cons_succ]
      refine take_at 34 80 (v := ?_) rfl rfl (by kernel_rfl) (by kernel_rfl) (by kernel_rfl) (fun _ _ _ h => h) hHeld (Or.inl ⟨by kernel_rfl, ?_⟩) ?_
      rotate_left
      · intro w hSw; (try dsimp only at hSw); go_simp; try with_reducible rfl
      simp only [Act.put, List.setIfInBounds_toArray, List.set_cons_zero, List.set_cons_succ]
      refine take_at 35 81 (v := ?_) rfl rfl (by kernel_rfl) (by kernel_rfl) (by kernel_rfl) (fun _ _ _ h => h) hHeld (Or.inl ⟨by kernel_rfl, ?_⟩) ?_
      rotate_left
      · intro w hSw; (try dsimp only at hSw); go_simp; try with_reducible rfl
      simp only [Act.put, List.setIfInBounds_toArray, List.set_cons_zero, List.set_cons_succ]
      refine take_at 36 82 (v := ?_) rfl rfl (by kernel_rfl) (by kernel_rfl) (by kernel_rfl) (fun _ _ _ h => h) hHeld (Or.inl ⟨by kernel_rfl, ?_⟩) ?_
      rotate_left
      · intro w hSw; (try dsimp only at hSw); go_simp; try with_reducible rfl
      simp only [Act.put, List.setIfInBounds_toArray, List.set_cons_zero, List.set_cons_succ]
      refine take_at 37 83 (v := ?_) rfl rfl (by kernel_rfl) (by kernel_rfl) (by kernel_rfl) (fun _ _ _ h => h) hHeld (Or.inl ⟨by kernel_rfl, ?_⟩) ?_
      rotate_left
      · intro w hSw; (try dsimp only at hSw); go_simp; try with_reducible rfl
      simp only [Act.put, List.setIfInBounds_toArray, List.set_cons_zero, List.set_cons_succ]
      refine take_at 38 84 (v := ?_) rfl rfl (by kernel_rfl) (by kernel_rfl) (by kernel_rfl) (fun _ _ _ h => h) hHeld (Or.inl ⟨by kernel_rfl, ?_⟩) ?_
      rotate_left
      · intro w hSw; (try dsimp only at hSw); go_simp; try with_reducible rfl
      simp only [Act.put, List.setIfInBounds_toArray, List.set_cons_zero, List.set_cons_succ]
      refine take_at 39 85 (v := ?_) rfl rfl (by kernel_rfl) (by kernel_rfl) (by kernel_rfl) (fun _ _ _ h => h) hHeld (Or.inl ⟨by kernel_rfl, ?_⟩) ?_
      rotate_left
      · intro w hSw; (try dsimp only at hSw); go_simp; try with_reducible rfl
      simp only [Act.put, List.setIfInBounds_toArray, List.set_cons_zero, List.set_cons_succ]
      refine take_at 40 86 (v := ?_) rfl rfl (by kernel_rfl) (by kernel_rfl) (by kernel_rfl) (fun _ _ _ h => h) hHeld (Or.inl ⟨by kernel_rfl, ?_⟩) ?_
      rotate_left
      · intro w hSw; (try dsimp only at hSw); go_simp; try with_reducible rfl
      simp only [Act.put, List.setIfInBounds_toArray, List.set_cons_zero, List.set_cons_succ]
      refine wpAnyH_ready (rs := [41]) (by kernel_rfl) (by simp) ?_
      refine AllReadyH.cons (o := _) rfl (fun K hK => ?_) AllReadyH.nil
      go_simp
      refine (rInts_refl _ _ le _ (h4.keep (pl_stable _) hHeld.2.2.2.2.2.2.2.2) (h8.keep (pl_stable _) hHeld.2.2.2.2.2.2.2.2)).mono ?_
      rintro e w9 ⟨rfl, h9⟩
      refine hK.out _ _ (hSf _ (hHeld.2.2.2.2.2.2.2.2.trans h9)) (fun hHeld2 => ?_)
      clear hK K hHeld
      have hHeld := hHeld2
      clear hHeld2
      refine take_at 42 88 (v := ?_) rfl rfl (by kernel_rfl) (by kernel_rfl) (by kernel_rfl) (fun _ _ _ h => h) hHeld (Or.inl ⟨by kernel_rfl, ?_⟩) ?_
      rotate_left
      · intro w hSw; (try dsimp only at hSw); go_simp; try with_reducible rfl
      simp only [Act.put, List.setIfInBounds_toArray, List.set_cons_zero, List.set_cons_succ]
      refine take_at 43 89 (v := ?_) rfl rfl (by kernel_rfl) (by kernel_rfl) (by kernel_rfl) (fun _ _ _ h => h) hHeld (Or.inl ⟨by kernel_rfl, ?_⟩) ?_
      rotate_left
      · intro w hSw; (try dsimp only at hSw); go_simp; try with_reducible rfl
      simp only [Act.put, List.setIfInBounds_toArray, List.set_cons_zero, List.set_cons_succ]
      refine wpAnyH_done (by kernel_rfl) ?_ _
      have k4 := hHeld.2.2.2.2.2.2.2.2
      clear hHeld hSf
      go_wp2
      go_roundw
      case rel => exact ⟨k + 1, by omega, by go_num, hkr.trans k4⟩
      case measure => simp [intOf]; omega
    · obtain ⟨w3, rfl⟩ : ∃ x : World, x = wr := ⟨_, rfl⟩
      have k3 := kk
      clear kk hkr
      go_wp2
      go_loopw [6] (fun i wr => ∃ k : Nat, k ≤ s.cases.length ∧ i = .int .i64 k ∧ Kp w3 wr) (fun i _ => s.cases.length - (intOf i).toNat)
      case atStart => exact ⟨0, Nat.zero_le _, rfl, Kp.refl _⟩
      case round =>
        obtain ⟨k, hk, rfl, hkr⟩ := hrel
        replace B0 := B0.keep hkr
        replace B1 := B1.keep hkr
        have kk := k3.trans hkr
        clear c0 c1 c2 c3 d0 d1 d2 d3 hgl hgl2 k3
        obtain ⟨c0, c1, c2, c3⟩ := B0.cells
        obtain ⟨d0, d1, d2, d3⟩ := B1.cells
        have hgl := block_lt_of_cell c0
        have hgl2 := block_lt_of_cell d0
        by_cases hlt : k < s.cases.length
        · obtain ⟨q, o, A1, e1, rfl, hq, h1, h2⟩ := (hac.keep rdRows_stable kk).rowsAt hlt
          obtain ⟨q', o', A2, e2, rfl, hq', h5, h6⟩ := (hbc.keep rdRows_stable kk).rowsAt hlt
          clear hab har hag hac hbb hbr hbg hbc
          generalize s.cases[k] = l at *
          have q1 : (0 : Int) ≤ k := by omega
          have q2 : (k : Int) < s.cases.length := by omega
          have hSf : ∀ W, Kp wr W → (W.cell? ⟨b0, 3, none⟩ = some (.slice (some ⟨q, o, none⟩) s.cases.length cc) ∧ W.cell? ⟨b1, 3, none⟩ = some (.slice (some ⟨q', o', none⟩) s.cases.length cc2) ∧ W.cell? ⟨q, o + k, none⟩ = some (.slice A1 l.length e1) ∧ W.cell? ⟨q', o' + k, none⟩ = some (.slice A2 l.length e2) ∧ Kp wr W) := fun W hk => ⟨hk.cellS c3, hk.cellS d3, hk.cellS h1, hk.cellS h5, hk⟩
          go_wp2
          refine wp_region_held_drew (S := fun W => W.cell? ⟨b0, 3, none⟩ = some (.slice (some ⟨q, o, none⟩) s.cases.length cc) ∧ W.cell? ⟨b1, 3, none⟩ = some (.slice (some ⟨q', o', none⟩) s.cases.length cc2) ∧ W.cell? ⟨q, o + k, none⟩ = some (.slice A1 l.length e1) ∧ W.cell? ⟨q', o' + k, none⟩ = some (.slice A2 l.length e2) ∧ Kp wr W) (by kernel_rfl) (hSf _ (Kp.refl _).drew) (fun hHeld => ?_)
          refine take_at 0 97 (v := ?_) rfl rfl (by kernel_rfl) (by kernel_rfl) (by kernel_rfl) (fun _ _ _ h => h) hHeld (Or.inl ⟨by kernel_rfl, ?_⟩) ?_
          rotate_left
          · intro w hSw; (try dsimp only at hSw); go_simp; try with_reducible rfl
          simp only [Act.put, List.setIfInBounds_toArray, List.set_cons_zero, List.set_cons_succ]
          refine take_at 1 98 (v := ?_) rfl rfl (by kernel_rfl) (by kernel_rfl) (by kernel_rfl) (fun _ _ _ h => h) hHeld (Or.inl ⟨by kernel_rfl, ?_⟩) ?_
          rotate_left
          · intro w hSw; (try dsimp only at hSw); go_simp; try with_reducible rfl
          simp only [Act.put, List.setIfInBounds_toArray, List.set_cons_zero, List.set_cons_succ]
          refine take_at 2 99 (v := ?_) rfl rfl (by kernel_rfl) (by kernel_rfl) (by kernel_rfl) (fun _ _ _ h => h) hHeld (Or.inl ⟨by kernel_rfl, ?_⟩) ?_
          rotate_left
          · intro w hSw; (try dsimp only at hSw); go_simp; try with_reducible rfl
          simp only [Act.put, List.setIfInBounds_toArray, List.set_cons_zero, List.set_cons_succ]
          refine take_at 3 100 (v := ?_) rfl rfl (by kernel_rfl) (by kernel_rfl) (by kernel_rfl) (fun _ _ _ h => h) hHeld (Or.inl ⟨by kernel_rfl, ?_⟩) ?_
          rotate_left
          · intro w hSw; (try dsimp only at hSw); go_simp; try with_reducible rfl
          simp only [Act.put, List.setIfInBounds_toArray, List.set_cons_zero, List.set_cons_succ]
          refine take_at 4 101 (v := ?_) rfl rfl (by kernel_rfl) (by kernel_rfl) (by kernel_rfl) (fun _ _ _ h => h) hHeld (Or.inl ⟨by kernel_rfl, ?_⟩) ?_
          rotate_left
          · intro w hSw; (try dsimp only at hSw); go_simp; try with_reducible rfl
          simp only [Act.put, List.setIfInBounds_toArray, List.set_cons_zero, List.set_cons_succ]
          refine take_at 5 102 (v := ?_) rfl rfl (by kernel_rfl) (by kernel_rfl) (by kernel_rfl) (fun _ _ _ h => h) hHeld (Or.inl ⟨by kernel_rfl, ?_⟩) ?_
          rotate_left
          · intro w hSw; (try dsimp only at hSw); go_simp; try with_reducible rfl
          simp only [Act.put, List.setIfInBounds_toArray, List.set_cons_zero, List.set_cons_succ]
          refine take_at 6 103 (v := ?_) rfl rfl (by kernel_rfl) (by kernel_rfl) (by kernel_rfl) (fun _ _ _ h => h) hHeld (Or.inl ⟨by kernel_rfl, ?_⟩) ?_
          rotate_left
          · intro w hSw; (try dsimp only at hSw); go_simp; try with_reducible rfl
          simp only [Act.put, List.setIfInBounds_toArray, List.set_cons_zero, List.set_cons_succ]
          refine take_at 7 104 (v := ?_) rfl rfl (by kernel_rfl) (by kernel_rfl) (by kernel_rfl) (fun _ _ _ h => h) hHeld (Or.inl ⟨by kernel_rfl, ?_⟩) ?_
          rotate_left
          · intro w hSw; (try dsimp only at hSw); go_simp; try with_reducible rfl
          simp only [Act.put, List.setIfInBounds_toArray, List.set_cons_zero, List.set_cons_succ]
          refine take_at 8 105 (v := ?_) rfl rfl (by kernel_rfl) (by kernel_rfl) (by kernel_rfl) (fun _ _ _ h => h) hHeld (Or.inl ⟨by kernel_rfl, ?_⟩) ?_
          rotate_left
          · intro w hSw; (try dsimp only at hSw); go_simp; try with_reducible rfl
          simp only [Act.put, List.setIfInBounds_toArray, List.set_cons_zero, List.set_cons_succ]
          refine take_at 9 106 (v := ?_) rfl rfl (by kernel_rfl) (by kernel_rfl) (by kernel_rfl) (fun _ _ _ h => h) hHeld (Or.inl ⟨by kernel_rfl, ?_⟩) ?_
          rotate_left
          · intro w hSw; (try dsimp only at hSw); go_simp; try with_reducible rfl
          simp only [Act.put, List.setIfInBounds_toArray, List.set_cons_zero, List.set_cons_succ]
          refine wpAnyH_ready (rs := [10]) (by kernel_rfl) (by simp) ?_
          refine AllReadyH.cons (o := _) rfl (fun K hK => ?_) AllReadyH.nil
          go_simp
          refine (qrows_refl _ _ l _ (h2.keep rdRow_stable hHeld.2.2.2.2) (h6.keep rdRow_stable hHeld.2.2.2.2)).mono ?_
          rintro e w9 ⟨rfl, h9⟩
          refine hK.out _ _ (hSf _ (hHeld.2.2.2.2.trans h9)) (fun hHeld2 => ?_)
          clear hK K hHeld
          have hHeld := hHeld2
          clear hHeld2
          refine take_at 11 108 (v := ?_) rfl rfl (by kernel_rfl) (by kernel_rfl) (by kernel_rfl) (fun _ _ _ h => h) hHeld (Or.inl ⟨by kernel_rfl, ?_⟩) ?_
          rotate_left
          · intro w hSw; (try dsimp only at hSw); go_simp; try with_reducible rfl
          simp only [Act.put, List.setIfInBounds_toArray, List.set_cons_zero, List.set_cons_succ]
          refine wpAnyH_done (by kernel_rfl) ?_ _
          have k4 := hHeld.2.2.2.2
          clear hHeld hSf
          go_wp2
          go_roundw
          case rel => exact ⟨k + 1, by omega, by go_num, hkr.trans k4⟩
          case measure => simp [intOf]; omega
        · go_wp2
          go_ret
          exact ⟨rfl, kk⟩
end Go.Proofs.Ytfllmnaillilhaa
