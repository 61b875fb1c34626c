
/-
Branch: the walk.
-/
import Derived.Test.YtfllmnaillilhaaSF
import Derived.Deep.Cut
namespace Go.Proofs.Ytfllmnaillilhaa
set_option linter.unusedSimpArgs false
set_option linter.unusedVariables false
open Go.RowKit

/-- rows with further rows behind them -/
theorem NL.more {S U : Nat → Prop} {w w' : World} {v v' : Value} {css css2 : List (Elm 2)} {xs ys : List Row} (h : NL rdRow 30 2 S w v css xs) (own' : Own encC 30 2 0 w' v' (css ++ css2)) (hg : w.grownBy w' v.ownBlock) (hl : css2.length = ys.length) (hS : ∀ q, S q → U q)
    (hy : ∀ k (h1 : k < css2.length) (h2 : k < ys.length), ∃ T : Nat → Prop, (∀ i, T i → U i ∧ v.ownBlock ≠ some i ∧ i < w.heap.size) ∧ OwS T w fun w2 => rdRow w2 css2[k].val ys[k]) :
    OwS (fun q => U q ∨ v'.ownBlock = some q) w' fun w2 => Sl rdRow 2 w2 v' (xs ++ ys) := by
  intro w2 hs hk2
  have hlen := h.len
  have own2 := own'.owS w2 hs fun q hq hlt => hk2 q (.inr hq) hlt
  refine sl_of (own2.sl encC_len) (by simp [hlen, hl]) fun k h1 h2 => ?_
  by_cases hk : k < css.length
  · rw [List.getElem_append_left hk, List.getElem_append_left (by omega)]
    obtain ⟨T, hT, ho⟩ := h.els k hk (by omega)
    exact ((ho.step hg.size fun i hi hlt => hg.block i hlt (fun e => (hT i hi).2.1 e.symm)).step hs fun i hi hlt => hk2 i (.inl (hS i (hT i hi).1)) hlt).here
  · rw [List.getElem_append_right (by omega), List.getElem_append_right (by omega)]
    have h3 : k - css.length < css2.length := by simp at h1; omega
    obtain ⟨T, hT, ho⟩ := hy (k - css.length) h3 (by omega)
    have e : k - xs.length = k - css.length := by omega
    simp only [e]
    exact ((ho.step hg.size fun i hi hlt => hg.block i hlt (fun e => (hT i hi).2.1 e.symm)).step hs fun i hi hlt => hk2 i (.inl (hT i hi).1) hlt).here
/-- what Branch returns -/
def BranchR (s : Sys) (i : Int) : Sys × Int :=
  if validS s then (if 0 ≤ i ∧ i < s.cases.length then (if 1024 < s.rows.length + (s.cases.getD i.toNat []).length then (zSys, 8) else (⟨s.box, s.rows ++ s.cases.getD i.toNat [], s.graphs, []⟩, 0)) else (zSys, 2)) else (zSys, 1)
set_option maxRecDepth 8000 in
set_option maxHeartbeats 16000000 in
theorem sBranch_any (va : Value) (s : Sys) (x : Int) (w : World) (hs : SysV w va s) :
    Calls Try.prog 26 #[va, .int .i64 x] w fun e w' => ∃ v, e = .returned (.tuple #[v, .int .i64 (BranchR s x).2]) ∧ OwS (fun q => w.heap.size ≤ q) w' (fun w2 => SysV w2 v (BranchR s x).1) ∧ Kp w w' := by
  have hs' := hs
  obtain ⟨Ab, cb, Ar, cr, Ag, cg, Ac, cc, rfl, hb, hr, hg, hc⟩ := hs'
  obtain ⟨l1, m1⟩ := hb.caps
  obtain ⟨l2, m2⟩ := hr.caps
  obtain ⟨l3, m3⟩ := hg.caps
  obtain ⟨l4, m4⟩ := hc.caps
  have k0 := ((Kp.refl w).alloc (.cells #[.slice Ab s.box.length cb, .slice Ar s.rows.length cr, .slice Ag s.graphs.length cg, .slice Ac s.cases.length cc] 27)).alloc (.cells #[.slice none 0 0, .slice none 0 0, .slice none 0 0, .slice none 0 0] 27)
  have B0 := (SysB.new w #[.slice Ab s.box.length cb, .slice Ar s.rows.length cr, .slice Ag s.graphs.length cg, .slice Ac s.cases.length cc] 27).keep ((Kp.refl _).alloc (.cells #[.slice none 0 0, .slice none 0 0, .slice none 0 0, .slice none 0 0] 27))
  have hR := Bx.new (w.alloc (.cells #[.slice Ab s.box.length cb, .slice Ar s.rows.length cr, .slice Ag s.graphs.length cg, .slice Ac s.cases.length cc] 27)) #[.slice none 0 0, .slice none 0 0, .slice none 0 0, .slice none 0 0] 27
  rw [World.size_alloc] at hR
  have hzw : ((w.alloc (.cells #[.slice Ab s.box.length cb, .slice Ar s.rows.length cr, .slice Ag s.graphs.length cg, .slice Ac s.cases.length cc] 27)).alloc (.cells #[.slice none 0 0, .slice none 0 0, .slice none 0 0, .slice none 0 0] 27)).heap.size = w.heap.size + 2 := by simp
  go_enter Try.func26, Try.ntmps26
  go_wp2_with fail
  generalize (w.alloc (.cells #[.slice Ab s.box.length cb, .slice Ar s.rows.length cr, .slice Ag s.graphs.length cg, .slice Ac s.cases.length cc] 27)).alloc (.cells #[.slice none 0 0, .slice none 0 0, .slice none 0 0, .slice none 0 0] 27) = w0 at *
  generalize hbw : w.heap.size = b at *
  replace hbw := hid hbw
  replace hzw := hid hzw
  refine (sValid_any _ s _ (hs.keep k0)).mono ?_
  rintro e w1 ⟨rfl, k1⟩
  have hb1 : b + 1 < w1.heap.size := by have := k1.size; have := hzw.out; omega
  have hR1 := hR.kp k1 (by have := hzw.out; omega)
  replace B0 := B0.keep k1
  have hz1 : b + 2 ≤ w1.heap.size := by have := k1.size; have := hzw.out; omega
  replace k1 := k0.trans k1
  obtain ⟨c0, c1, c2, c3⟩ := B0.cells
  have hgl := block_lt_of_cell c0
  cases hV : validS s with
  | false =>
    have HN : Hid (BranchR s x = (zSys, 1)) := hid (by unfold BranchR; rw [hV]; rfl)
    have hRx := hR1
    have kx := k1
    clear hV hR1
    have f0 := hRx.free (j := 0) (by simp)
    have f1 := hRx.free (j := 1) (by simp)
    have f2 := hRx.free (j := 2) (by simp)
    have f3 := hRx.free (j := 3) (by simp)
    have y0 := hRx.cell (j := 0) rfl
    have y1 := hRx.cell (j := 1) rfl
    have y2 := hRx.cell (j := 2) rfl
    have y3 := hRx.cell (j := 3) rfl
    have hBF := hRx.set4 (.slice none 0 0) (.slice none 0 0) (.slice none 0 0) (.slice none 0 0)
    have kF := Kg.to_kp kx (Kg.set4 w1 (b + 1) (.slice none 0 0) (.slice none 0 0) (.slice none 0 0) (.slice none 0 0)) (by have := hbw.out; omega)
    clear hRx hR
    go_wp2
    refine bodyPost_ret (results_cell_bx2 rfl _ _ (b + 1) [.slice none 0 0, .slice none 0 0, .slice none 0 0, .slice none 0 0] _ rfl hBF.range Try.underlying27 rfl (by kernel_rfl)) rfl ?_
    exact ⟨_, by rw [HN.out]; rfl, fun w2 _ _ => by rw [HN.out]; exact zSys_v _, kF⟩
  | true =>
    by_cases hx : 0 ≤ x ∧ x < s.cases.length
    · obtain ⟨i, rfl⟩ := Int.eq_ofNat_of_zero_le hx.1
      have hi : i < s.cases.length := by omega
      have e1 : decide ((i : Int) < 0) = false := decide_eq_false (by omega)
      have e2 : decide ((s.cases.length : Int) ≤ (i : Int)) = false := decide_eq_false (by omega)
      have e2n : decide (s.cases.length ≤ i) = false := decide_eq_false (by omega)
      obtain ⟨q, o, Ai, ci, rfl, hq, h1', h2'⟩ := (hc.keep rdRows_stable k1).rowsAt hi
      have hgd : s.cases.getD i [] = s.cases[i] := by simp [List.getD, hi]
      have hsz := size_of hV
      have hlc := (hsz.case s.cases[i] (List.getElem_mem hi)).1
      have hlr := hsz.rows
      have HB : Hid (BranchR s (i : Int) = if 1024 < s.rows.length + s.cases[i].length then (zSys, 8) else (⟨s.box, s.rows ++ s.cases[i], s.graphs, []⟩, 0)) := hid (by
        unfold BranchR
        rw [hV, if_pos rfl, if_pos hx, Int.toNat_natCast, hgd])
      obtain ⟨m5, m6⟩ := h2'.caps
      clear hx hgd h2'
      have q1 : (0 : Int) ≤ i := by omega
      have q2 : (i : Int) < s.cases.length := by omega
      go_wp2
      refine wp_region_kw (by kernel_rfl) (by kernel_rfl) ?_
      repeat (go_big_quiet_step (fail))
      refine wpQuiet_nil ?_
      intro _ hw'
      obtain ⟨u, hw''⟩ := hw'
      subst hw''
      have kU := kw_kp w1 u
      replace B0 := B0.keep kU
      have hRx := hR1.kp kU hb1
      have kx := k1.trans kU
      have hzx : b + 2 ≤ (Kw w1 u).heap.size := by have := kU.size; omega
      clear c0 c1 c2 c3 hgl hR1 hz1 hb1 h1' hq k1 e1 e2 e2n
      generalize Kw w1 u = w2 at *
      clear kU
      obtain ⟨c0, c1, c2, c3⟩ := B0.cells
      have hgl := block_lt_of_cell c0
      have hb1 : b + 1 < w2.heap.size := by omega
      by_cases hbig : 1024 < s.rows.length + s.cases[i].length
      · have HN : Hid (BranchR s (i : Int) = (zSys, 8)) := hid (by rw [HB.out, if_pos hbig])
        have e3 : decide ((1024 : Int) < (s.rows.length : Int) + (s.cases[i].length : Int)) = true := decide_eq_true (by omega)
        have e4 : decide (1024 < s.rows.length + s.cases[i].length) = true := decide_eq_true (by omega)
        have f0 := hRx.free (j := 0) (by simp)
        have f1 := hRx.free (j := 1) (by simp)
        have f2 := hRx.free (j := 2) (by simp)
        have f3 := hRx.free (j := 3) (by simp)
        have y0 := hRx.cell (j := 0) rfl
        have y1 := hRx.cell (j := 1) rfl
        have y2 := hRx.cell (j := 2) rfl
        have y3 := hRx.cell (j := 3) rfl
        have hBF := hRx.set4 (.slice none 0 0) (.slice none 0 0) (.slice none 0 0) (.slice none 0 0)
        have kF := Kg.to_kp kx (Kg.set4 w2 (b + 1) (.slice none 0 0) (.slice none 0 0) (.slice none 0 0) (.slice none 0 0)) (by have := hbw.out; omega)
        clear hRx hR
        go_wp2
        refine bodyPost_ret (results_cell_bx2 rfl _ _ (b + 1) [.slice none 0 0, .slice none 0 0, .slice none 0 0, .slice none 0 0] _ rfl hBF.range Try.underlying27 rfl (by kernel_rfl)) rfl ?_
        exact ⟨_, by rw [HN.out]; rfl, fun w2 _ _ => by rw [HN.out]; exact zSys_v _, kF⟩
      · have HN : Hid (BranchR s (i : Int) = (⟨s.box, s.rows ++ s.cases[i], s.graphs, []⟩, 0)) := hid (by rw [HB.out, if_neg hbig])
        have e3 : decide ((1024 : Int) < (s.rows.length : Int) + (s.cases[i].length : Int)) = false := decide_eq_false (by omega)
        have e4 : decide (1024 < s.rows.length + s.cases[i].length) = false := decide_eq_false (by omega)
        have hbg : s.rows.length + s.cases[i].length ≤ 1024 := by omega
        clear hbig
        go_wp2_with fail
        refine (sClone_any _ s _ (hs.keep kx) hsz).mono ?_
        rintro e w3 ⟨vb, vr, vg, vc, τ, rfl, hT, hO, k3⟩
        obtain ⟨A1, g1, rfl, _, _⟩ := hO.box.form
        obtain ⟨css, hr0⟩ := hO.rows
        obtain ⟨A2, g2, rfl, _, _⟩ := hr0.form
        obtain ⟨A3, g3, rfl, _, _⟩ := hO.graphs.here.form
        obtain ⟨vs, o4, l4, t4, n4⟩ := hO.cases
        obtain ⟨A4, g4, rfl, _, _⟩ := o4.form
        obtain ⟨vcs, cssc, hvc, hNc⟩ := n4 i (by omega) hi
        obtain ⟨A5, g5, rfl, hg5a, hg5b⟩ := hNc.form
        obtain ⟨gc, rfl, -, hgc⟩ := o4.at_ (by omega)
        have cgi : w3.cell? ⟨gc, i, none⟩ = some (.slice A5 s.cases[i].length g5) := by
          have := o4.cellAt encC_len rfl (k := i) (by omega) (j := 0) (by omega)
          rw [Nat.mul_one, Nat.add_zero] at this
          refine this.trans ?_
          show vs[i].val[0]? = _
          rw [hvc]
          rfl
        have tgc := t4 gc rfl
        rw [l4] at hO
        replace l4 := hid l4
        clear o4 t4 n4 hvc
        have kA := (Kp.refl w3).alloc (.cells #[.slice A1 s.box.length g1, .slice A2 s.rows.length g2, .slice A3 s.graphs.length g3, .slice (some ⟨gc, 0, none⟩) s.cases.length g4] 27)
        have hB := Bx.new w3 #[.slice A1 s.box.length g1, .slice A2 s.rows.length g2, .slice A3 s.graphs.length g3, .slice (some ⟨gc, 0, none⟩) s.cases.length g4] 27
        have hbo := alloc_lt w3 (.cells #[.slice A1 s.box.length g1, .slice A2 s.rows.length g2, .slice A3 s.graphs.length g3, .slice (some ⟨gc, 0, none⟩) s.cases.length g4] 27)
        have hO4 := hO.kp kA _ hT
        have hr4 := hr0.kp kA
        have hN4 := hNc.kp kA
        have cg4 := kA.cellS cgi
        have hR4 := (hRx.kp k3 (by omega)).kp kA (by have := k3.size; omega)
        have k4 := (kx.trans k3).trans kA
        have hτ : τ w3.heap.size = 0 := by
          by_cases h : τ w3.heap.size = 0
          · exact h
          · have := (hT _ h).2
            omega
        have hτb : τ (b + 1) = 0 := by
          by_cases h : τ (b + 1) = 0
          · exact h
          · have := (hT _ h).1
            omega
        have hlo : b + 2 ≤ w3.heap.size := by have := k3.size; omega
        have hTlo := fun q (h : τ q ≠ 0) => (hT q h).1
        replace B0 := B0.keep k3
        clear c0 c1 c2 c3 hgl hO hr0 hNc cgi hRx hR k3 kA hT kx
        obtain ⟨c0, c1, c2, c3⟩ := B0.cells
        have hgl := block_lt_of_cell c0
        go_wp2
        clear c0 c1 c2 c3 hgl B0
        generalize w3.alloc (.cells #[.slice A1 s.box.length g1, .slice A2 s.rows.length g2, .slice A3 s.graphs.length g3, .slice (some ⟨gc, 0, none⟩) s.cases.length g4] 27) = w4 at *
        generalize w3.heap.size = bo at *
        have b1 := hB.cell (j := 1) rfl
        have b3 := hB.cell (j := 3) rfl
        have fb1 := hB.free (j := 1) (by simp)
        have hcl := hr4.len
        have hcc := hN4.len
        have hSf : ∀ W : World, W.heap[bo]? = w4.heap[bo]? → W.heap[gc]? = w4.heap[gc]? → (W.cell? ⟨bo, 1, none⟩ = some (.slice A2 s.rows.length g2) ∧ W.frozen? ⟨bo, 1, none⟩ = false ∧ W.cell? ⟨bo, 3, none⟩ = some (.slice (some ⟨gc, 0, none⟩) s.cases.length g4) ∧ W.cell? ⟨gc, i, none⟩ = some (.slice A5 s.cases[i].length g5)) := fun W h1 h2 => ⟨(World.cell?_of_block h1).trans b1, (World.frozen?_of_block h1).trans fb1, (World.cell?_of_block h1).trans b3, (World.cell?_of_block h2).trans cg4⟩
        refine beginT 9 (S := fun W => W.cell? ⟨bo, 1, none⟩ = some (.slice A2 s.rows.length g2) ∧ W.frozen? ⟨bo, 1, none⟩ = false ∧ W.cell? ⟨bo, 3, none⟩ = some (.slice (some ⟨gc, 0, none⟩) s.cases.length g4) ∧ W.cell? ⟨gc, i, none⟩ = some (.slice A5 s.cases[i].length g5)) (by kernel_rfl) (hSf _ rfl rfl) (fun hHeld => ?_)
        refine take_atT 0 38 (v := ?_) rfl rfl (by kernel_rfl) (by kernel_rfl) (by kernel_rfl) (by kernel_rfl) (by kernel_rfl) (fun _ _ _ h => h) hHeld (Or.inl ⟨by kernel_rfl, ?_⟩) ?_
        rotate_left
        · intro w hSw; (try dsimp only at hSw); go_simp; try with_reducible rfl
        simp only [Act.put, List.setIfInBounds_toArray, List.set_cons_zero, List.set_cons_succ]
        refine take_atT 1 39 (v := ?_) rfl rfl (by kernel_rfl) (by kernel_rfl) (by kernel_rfl) (by kernel_rfl) (by kernel_rfl) (fun _ _ _ h => h) hHeld (Or.inl ⟨by kernel_rfl, ?_⟩) ?_
        rotate_left
        · intro w hSw; (try dsimp only at hSw); go_simp; try with_reducible rfl
        simp only [Act.put, List.setIfInBounds_toArray, List.set_cons_zero, List.set_cons_succ]
        refine take_atT 2 40 (v := ?_) rfl rfl (by kernel_rfl) (by kernel_rfl) (by kernel_rfl) (by kernel_rfl) (by kernel_rfl) (fun _ _ _ h => h) hHeld (Or.inl ⟨by kernel_rfl, ?_⟩) ?_
        rotate_left
        · intro w hSw; (try dsimp only at hSw); go_simp; try with_reducible rfl
        simp only [Act.put, List.setIfInBounds_toArray, List.set_cons_zero, List.set_cons_succ]
        refine take_atT 3 41 (v := ?_) rfl rfl (by kernel_rfl) (by kernel_rfl) (by kernel_rfl) (by kernel_rfl) (by kernel_rfl) (fun _ _ _ h => h) hHeld (Or.inl ⟨by kernel_rfl, ?_⟩) ?_
        rotate_left
        · intro w hSw; (try dsimp only at hSw); go_simp; try with_reducible rfl
        simp only [Act.put, List.setIfInBounds_toArray, List.set_cons_zero, List.set_cons_succ]
        refine take_atT 4 42 (v := ?_) rfl rfl (by kernel_rfl) (by kernel_rfl) (by kernel_rfl) (by kernel_rfl) (by kernel_rfl) (fun _ _ _ h => h) hHeld (Or.inl ⟨by kernel_rfl, ?_⟩) ?_
        rotate_left
        · intro w hSw; (try dsimp only at hSw); go_simp; try with_reducible rfl
        simp only [Act.put, List.setIfInBounds_toArray, List.set_cons_zero, List.set_cons_succ]
        refine take_atT 5 43 (v := ?_) rfl rfl (by kernel_rfl) (by kernel_rfl) (by kernel_rfl) (by kernel_rfl) (by kernel_rfl) (fun _ _ _ h => h) hHeld (Or.inl ⟨by kernel_rfl, ?_⟩) ?_
        rotate_left
        · intro w hSw; (try dsimp only at hSw); go_simp; try with_reducible rfl
        simp only [Act.put, List.setIfInBounds_toArray, List.set_cons_zero, List.set_cons_succ]
        refine take_atT 6 44 (v := ?_) rfl rfl (by kernel_rfl) (by kernel_rfl) (by kernel_rfl) (by kernel_rfl) (by kernel_rfl) (fun _ _ _ h => h) hHeld (Or.inl ⟨by kernel_rfl, ?_⟩) ?_
        rotate_left
        · intro w hSw; (try dsimp only at hSw); go_simp; try with_reducible rfl
        simp only [Act.put, List.setIfInBounds_toArray, List.set_cons_zero, List.set_cons_succ]
        refine stepT (i := 7) (o := _) (by kernel_rfl) rfl (fun K hK => ?_)
        have hvo : ∀ q, (Value.slice A2 s.rows.length g2).ownBlock = some q → τ q = 2 := hr4.blk
        refine step_append4 (l := css) (m := cssc) rfl (.tmp 39) (.tmp 44) rfl stRowM encC_len encC_one rfl (hr4.own.kp (Kp.refl _).drew) rfl ((hN4.own.sl encC_len).keep (pl_stable _) (Kp.refl _).drew) (by omega) (by omega) (Nat.zero_le _) ?_
        intro v8 w8 hown8 hgrow8 hat8
        have hgr : w4.grownBy w8 (Value.slice A2 s.rows.length g2).ownBlock := World.grownBy.trans ((Kp.refl w4).drew.gb _) hgrow8
        have hbl8 : ∀ q, q < w4.heap.size → τ q ≠ 2 → w8.heap[q]? = w4.heap[q]? := fun q hq ht => hgr.block q hq (fun e => ht (hvo q e.symm))
        refine hK.out _ _ (hSf _ (hbl8 bo hbo (by omega)) (hbl8 gc (block_lt_of_cell cg4) (by omega))) (fun hHeld2 => ?_)
        clear hK K hHeld
        have hHeld := hHeld2
        clear hHeld2
        refine stepT (i := 8) (o := _) (by kernel_rfl) rfl (fun K hK => ?_)
        go_simp
        refine hK.out _ _ hHeld (fun hHeld2 => ?_)
        clear hK K hHeld
        have hHeld := hHeld2
        clear hHeld2
        obtain ⟨h1, h2, h3, h4⟩ := hHeld
        clear hSf
        have hM := hr4.more (U := fun q => τ q ≠ 0) hown8 hgr hcc (fun q hq => by rw [hq]; omega) (fun k h1 h2 => by
          obtain ⟨T, hT, ho⟩ := hN4.els k h1 h2
          exact ⟨T, fun q hq => ⟨by have := (hT q hq).1; omega, fun e => by have := hvo q e; have := (hT q hq).1; omega, (hT q hq).2.2⟩, ho⟩)
        have hv8 : v8.ownBlock ≠ some bo := fun e => by
          rcases hat8 with h | h
          · rw [h] at e
            have := hvo bo e
            omega
          · rw [h] at e
            injection e with e
            have : w4.drew.heap.size = w4.heap.size := rfl
            omega
        have hv8b : v8.ownBlock ≠ some (b + 1) := fun e => by
          rcases hat8 with h | h
          · rw [h] at e
            have := hvo _ e
            omega
          · rw [h] at e
            injection e with e
            have : w4.drew.heap.size = w4.heap.size := rfl
            omega
        have hv8lo : ∀ q, v8.ownBlock = some q → w.heap.size ≤ q := fun q hq => by
          rcases hat8 with h | h
          · rw [h] at hq
            have := hTlo q (by rw [hvo q hq]; omega)
            have := hbw.out
            omega
          · rw [h] at hq
            injection hq with hq
            have : w4.drew.heap.size = w4.heap.size := rfl
            have := hbw.out
            omega
        obtain ⟨A8, c8, rfl, _, _⟩ := hown8.form
        have hl8 : (css ++ cssc).length = s.rows.length + s.cases[i].length := by simp [hcl, hcc]
        have hl9 : (s.rows ++ s.cases[i]).length = s.rows.length + s.cases[i].length := by simp
        rw [hl8] at hM hv8 hv8b hv8lo ⊢
        generalize hn8 : s.rows.length + s.cases[i].length = n8 at *
        replace hn8 := hid hn8
        replace hl9 := hid hl9
        clear hl8
        have hBoxO := hO4.box.owS.step hgr.size fun q hq hlt => hbl8 q hlt (by have := hO4.boxT q hq; omega)
        have hGrO := hO4.graphs.step hgr.size fun q hq hlt => hbl8 q hlt (by rw [hq]; omega)
        have hBoT := hO4.boxT
        have hB8 := (hB.keep (hbl8 bo hbo (by omega))).set (j := 1) (by simp) (.slice A8 n8 c8)
        simp only [List.set_cons_zero, List.set_cons_succ] at hB8
        have hR8 := (hR4.keep (hbl8 (b + 1) (by omega) (by omega))).kg (w' := w8.setCell ⟨bo, 1, none⟩ (.slice A8 n8 c8)) (g := bo) ((Kg.refl _ _).set (.inl rfl) _) (by have := hgr.size; omega) (by omega)
        have hKg1 : Kg w8 (w8.setCell ⟨bo, 1, none⟩ (.slice A8 n8 c8)) bo := (Kg.refl _ _).set (.inl rfl) _
        have hk8 : Kp w (w8.setCell ⟨bo, 1, none⟩ (.slice A8 n8 c8)) := Kg.to_kp (k4.grown hgr fun q hq => by have := hTlo q (by rw [hvo q hq]; omega); have := hbw.out; omega) hKg1 (by have := hbw.out; omega)
        replace hM := hM.kg hKg1 (fun h => by rcases h with h | h; exact h hτ; exact hv8 h)
        replace hBoxO := hBoxO.kg hKg1 (fun h => by have := hBoT _ h; omega)
        replace hGrO := hGrO.kg hKg1 (fun h => by omega)
        have hs8 : (w8.setCell ⟨bo, 1, none⟩ (.slice A8 n8 c8)).heap.size = w8.heap.size := set_size _ _ _
        have hgs := hgr.size
        clear hown8 hgrow8 hat8 hgr hbl8 hB hR4 hO4 hr4 hN4 cg4 k4 hKg1 b1 b3 fb1
        refine lastT (o := _) (by kernel_rfl) rfl (fun K hK => ?_)
        go_simp
        refine hK.out _ _ ?_
        clear hK K
        refine doneT (by kernel_rfl) ?_ _
        clear h1 h2 h3 h4
        generalize w8.setCell ⟨bo, 1, none⟩ (.slice A8 n8 c8) = w9 at *
        have hB9 := hB8.set (j := 3) (by simp) (.slice none 0 0)
        simp only [List.set_cons_zero, List.set_cons_succ] at hB9
        have hKg2 : Kg w9 (w9.setCell ⟨bo, 3, none⟩ (.slice none 0 0)) bo := (Kg.refl _ _).set (.inl rfl) _
        have hR9 := hR8.kg hKg2 (by omega) (by omega)
        replace hM := hM.kg hKg2 (fun h => by rcases h with h | h; exact h hτ; exact hv8 h)
        replace hBoxO := hBoxO.kg hKg2 (fun h => by have := hBoT _ h; omega)
        replace hGrO := hGrO.kg hKg2 (fun h => by omega)
        have hk9 := Kg.to_kp hk8 hKg2 (by have := hbw.out; omega)
        have u3 := hB8.cell (j := 3) rfl
        have v3 := hB8.free (j := 3) (by simp)
        clear hR8 hB8
        go_upto_region 10 with (fail)
        clear u3 v3
        generalize w9.setCell ⟨bo, 3, none⟩ (.slice none 0 0) = w10 at *
        have hBF := hR9.set4 (.slice A1 s.box.length g1) (.slice A8 n8 c8) (.slice A3 s.graphs.length g3) (.slice none 0 0)
        have hKg3 := Kg.set4 w10 (b + 1) (.slice A1 s.box.length g1) (.slice A8 n8 c8) (.slice A3 s.graphs.length g3) (.slice none 0 0)
        replace hM := hM.kg hKg3 (fun h => by rcases h with h | h; exact h hτb; exact hv8b h)
        replace hBoxO := hBoxO.kg hKg3 (fun h => by have := hBoT _ h; omega)
        replace hGrO := hGrO.kg hKg3 (fun h => by omega)
        have kF := Kg.to_kp hk9 hKg3 (by have := hbw.out; omega)
        have p0 := hB9.cell (j := 0) rfl
        have p1 := hB9.cell (j := 1) rfl
        have p2 := hB9.cell (j := 2) rfl
        have p3 := hB9.cell (j := 3) rfl
        have hbb1 : b + 1 < w10.heap.size := hR9.lt (by simp)
        have hbob : bo < w10.heap.size := hB9.lt (by simp)
        have f0 := hR9.free (j := 0) (by simp)
        have f1 := hR9.free (j := 1) (by simp)
        have f2 := hR9.free (j := 2) (by simp)
        have f3 := hR9.free (j := 3) (by simp)
        have y0 := hR9.cell (j := 0) rfl
        have y1 := hR9.cell (j := 1) rfl
        have y2 := hR9.cell (j := 2) rfl
        have y3 := hR9.cell (j := 3) rfl
        clear hR9 hB9 hKg3 hk9 hk8 hv8 hv8b hKg2 hs8
        replace hBoT := hid hBoT
        replace hTlo := hid hTlo
        replace hv8lo := hid hv8lo
        clear hvo
        go_wp2
        refine bodyPost_ret (results_cell_bx2 rfl _ _ (b + 1) [.slice A1 s.box.length g1, .slice A8 n8 c8, .slice A3 s.graphs.length g3, .slice none 0 0] _ rfl hBF.range Try.underlying27 rfl (by kernel_rfl)) rfl ?_
        refine ⟨_, by rw [HN.out]; rfl, ?_, kF⟩
        rw [HN.out]
        generalize (((w10.setCell ⟨b + 1, 0, none⟩ (.slice A1 s.box.length g1)).setCell ⟨b + 1, 1, none⟩ (.slice A8 n8 c8)).setCell ⟨b + 1, 2, none⟩ (.slice A3 s.graphs.length g3)).setCell ⟨b + 1, 3, none⟩ (.slice none 0 0) = wF at *
        rw [← hl9.out] at *
        have hbw' := hbw.out
        refine (((hM.mono ?_).and (hBoxO.mono ?_)).and (hGrO.mono ?_)).imp ?_
        · exact fun q hq => by
            rcases hq with hq | hq
            · have := hTlo.out q hq
              omega
            · exact hv8lo.out q hq
        · exact fun q hq => by have := hTlo.out q (by rw [hBoT.out q hq]; omega); omega
        · exact fun q hq => by have := hTlo.out q (by omega); omega
        · rintro w2 ⟨⟨a1, a2⟩, a3⟩
          exact ⟨_, _, _, _, _, _, _, _, rfl, a2.sl encRng_len, a1, a3, Sl.nil _ _ _⟩
    · have HN : Hid (BranchR s x = (zSys, 2)) := hid (by unfold BranchR; rw [hV, if_pos rfl, if_neg hx])
      have hRx := hR1
      have kx := k1
      clear hV hR1
      by_cases h0 : x < 0
      · have e1 : decide (x < 0) = true := decide_eq_true h0
        have f0 := hRx.free (j := 0) (by simp)
        have f1 := hRx.free (j := 1) (by simp)
        have f2 := hRx.free (j := 2) (by simp)
        have f3 := hRx.free (j := 3) (by simp)
        have y0 := hRx.cell (j := 0) rfl
        have y1 := hRx.cell (j := 1) rfl
        have y2 := hRx.cell (j := 2) rfl
        have y3 := hRx.cell (j := 3) rfl
        have hBF := hRx.set4 (.slice none 0 0) (.slice none 0 0) (.slice none 0 0) (.slice none 0 0)
        have kF := Kg.to_kp kx (Kg.set4 w1 (b + 1) (.slice none 0 0) (.slice none 0 0) (.slice none 0 0) (.slice none 0 0)) (by have := hbw.out; omega)
        clear hRx hR
        go_wp2
        refine bodyPost_ret (results_cell_bx2 rfl _ _ (b + 1) [.slice none 0 0, .slice none 0 0, .slice none 0 0, .slice none 0 0] _ rfl hBF.range Try.underlying27 rfl (by kernel_rfl)) rfl ?_
        exact ⟨_, by rw [HN.out]; rfl, fun w2 _ _ => by rw [HN.out]; exact zSys_v _, kF⟩
      · have e1 : decide (x < 0) = false := decide_eq_false h0
        have e2 : decide ((s.cases.length : Int) ≤ x) = true := decide_eq_true (by omega)
        have f0 := hRx.free (j := 0) (by simp)
        have f1 := hRx.free (j := 1) (by simp)
        have f2 := hRx.free (j := 2) (by simp)
        have f3 := hRx.free (j := 3) (by simp)
        have y0 := hRx.cell (j := 0) rfl
        have y1 := hRx.cell (j := 1) rfl
        have y2 := hRx.cell (j := 2) rfl
        have y3 := hRx.cell (j := 3) rfl
        have hBF := hRx.set4 (.slice none 0 0) (.slice none 0 0) (.slice none 0 0) (.slice none 0 0)
        have kF := Kg.to_kp kx (Kg.set4 w1 (b + 1) (.slice none 0 0) (.slice none 0 0) (.slice none 0 0) (.slice none 0 0)) (by have := hbw.out; omega)
        clear hRx hR
        go_wp2
        refine bodyPost_ret (results_cell_bx2 rfl _ _ (b + 1) [.slice none 0 0, .slice none 0 0, .slice none 0 0, .slice none 0 0] _ rfl hBF.range Try.underlying27 rfl (by kernel_rfl)) rfl ?_
        exact ⟨_, by rw [HN.out]; rfl, fun w2 _ _ => by rw [HN.out]; exact zSys_v _, kF⟩
end Go.Proofs.Ytfllmnaillilhaa
