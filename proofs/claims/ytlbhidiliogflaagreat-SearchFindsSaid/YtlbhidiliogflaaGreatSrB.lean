
/-
Search, the reference: note: the walk.
-/
import Derived.Test.YtlbhidiliogflaaGreatSrA
import Derived.Test.YtlbhidiliogflaaGreatSeH
import Derived.Test.YtlbhidiliogflaaGreatKB
namespace Go.Proofs.YtlbhidiliogflaaGreat
set_option linter.unusedSimpArgs false
set_option linter.unusedVariables false
open Go.RowKit

/-- a propagation's state, in memory: W0: where the run began; L: variables, that may change -/
structure PB (L : Nat → Prop) (W0 w : World) (vs vb : Value) (x : PX) : Prop where
  kp : Kp W0 w
  stp : Own encStp 54 3 W0.heap.size w vs x.steps
  bx : OwF (fun q => vs.ownBlock = some q ∨ L q) w fun W => Rngs W vb x.box
theorem PB.keep {L : Nat → Prop} {W0 w w' : World} {vs vb : Value} {x : PX} (h : PB L W0 w vs vb x) (k : Kp w w') : PB L W0 w' vs vb x := ⟨h.kp.trans k, h.stp.kp k, h.bx.fx (k.fx _)⟩
/-- how note and pass end -/
def NEnd (L : Nat → Prop) (W0 w : World) (vs : Value) (y : PX) (e : Ending) (w' : World) : Prop :=
  ∃ vs' vb', e = .returned (.agg #[vs', vb', .bool y.opn, .bool y.fine]) ∧ PB L W0 w' vs' vb' y ∧ Fx (fun q => vs.ownBlock = some q) w w' ∧ (∀ q, vs'.ownBlock = some q → vs.ownBlock = some q ∨ w.heap.size ≤ q)
set_option maxRecDepth 8000 in
set_option maxHeartbeats 8000000 in
theorem rNote_any (B : Nat) (kind index cell lo hi : Int) (vs vb : Value) (x : PX) (L : Nat → Prop) (W0 w : World) (h : PB L W0 w vs vb x) (hL : ∀ q, L q → q < w.heap.size) (hl : x.steps.length ≤ 65536) (hbl : x.box.length ≤ 1000) (hB : B ≤ 65536) :
    Calls Tryz.prog 81 #[.agg #[vs, vb, .bool x.opn, .bool x.fine], .int .i64 kind, .int .i64 index, .int .i64 cell, .agg #[.int .i64 lo, .int .i64 hi], .int .i64 (B : Int)] w (NEnd L W0 w vs (noteX B x kind index cell ⟨lo, hi⟩)) := by
  obtain ⟨As, cs, rfl, hcs, hms⟩ := h.stp.form
  obtain ⟨Ab, cb, rfl, hcb, hmb⟩ := h.bx.here.form
  unfold NEnd
  obtain ⟨y, hy⟩ : ∃ y, noteX B x kind index cell ⟨lo, hi⟩ = y := ⟨_, rfl⟩
  rw [hy]
  unfold noteX at hy
  have HY := hid hy
  clear hy
  have ka := (Kp.refl w).alloc (.cells #[.slice As x.steps.length cs, .slice Ab x.box.length cb, .bool x.opn, .bool x.fine] 96)
  have kb := ka.alloc (.cells #[.int .i64 lo, .int .i64 hi] 57)
  have kc := kb.alloc (.cells #[.slice none 0 0, .slice none 0 0, .bool false, .bool false] 96)
  have hnw : ∃ w3, w3 = ((w.alloc (.cells #[.slice As x.steps.length cs, .slice Ab x.box.length cb, .bool x.opn, .bool x.fine] 96)).alloc (.cells #[.int .i64 lo, .int .i64 hi] 57)).alloc (.cells #[.slice none 0 0, .slice none 0 0, .bool false, .bool false] 96) ∧ Kp w w3 ∧ Bx w3 w.heap.size (#[.slice As x.steps.length cs, .slice Ab x.box.length cb, .bool x.opn, .bool x.fine]).toList ∧ Bx w3 (w.heap.size + 1) [.int .i64 lo, .int .i64 hi] ∧ Bx w3 (w.heap.size + 2) (#[.slice none 0 0, .slice none 0 0, .bool false, .bool false]).toList ∧ w3.heap.size = w.heap.size + 3 := by
    have B1 := Bx.new w #[.slice As x.steps.length cs, .slice Ab x.box.length cb, .bool x.opn, .bool x.fine] 96
    have z1 := World.size_alloc w (.cells #[.slice As x.steps.length cs, .slice Ab x.box.length cb, .bool x.opn, .bool x.fine] 96)
    generalize w.alloc (.cells #[.slice As x.steps.length cs, .slice Ab x.box.length cb, .bool x.opn, .bool x.fine] 96) = w1 at *
    have B2 := Bx.new w1 #[.int .i64 lo, .int .i64 hi] 57
    have k2 := (Kp.refl w1).alloc (.cells #[.int .i64 lo, .int .i64 hi] 57)
    have z2 := World.size_alloc w1 (.cells #[.int .i64 lo, .int .i64 hi] 57)
    generalize w1.alloc (.cells #[.int .i64 lo, .int .i64 hi] 57) = w2 at *
    have B3 := Bx.new w2 #[.slice none 0 0, .slice none 0 0, .bool false, .bool false] 96
    have k3 := (Kp.refl w2).alloc (.cells #[.slice none 0 0, .slice none 0 0, .bool false, .bool false] 96)
    have z3 := World.size_alloc w2 (.cells #[.slice none 0 0, .slice none 0 0, .bool false, .bool false] 96)
    rw [z1] at B2
    rw [z2, z1] at B3
    exact ⟨_, rfl, kc, (B1.kp k2 (by omega)).kp k3 (by omega), B2.kp k3 (by omega), B3, by rw [z3, z2, z1]⟩
  obtain ⟨w3, hw3, k3, BP, BC, BR, z3⟩ := hnw
  clear ka kb kc
  go_enter Tryz.func81, Tryz.ntmps81
  go_upto_region 1 with (fail)
  rw [← hw3]
  clear hw3
  obtain ⟨p6, hp6⟩ : ∃ p6, p6 = w.heap.size := ⟨_, rfl⟩
  obtain ⟨p10, hp10⟩ : ∃ p10, p10 = p6 + 1 := ⟨_, rfl⟩
  obtain ⟨p12, hp12⟩ : ∃ p12, p12 = p10 + 1 := ⟨_, rfl⟩
  rw [← hp6] at BP BC BR z3 ⊢
  rw [← hp10] at BC ⊢
  rw [show p6 + 2 = p12 by omega] at BR
  rw [← hp12]
  have hne : p6 ≠ p10 ∧ p6 ≠ p12 ∧ p10 ≠ p12 := by omega
  have hge : w.heap.size ≤ p6 ∧ w.heap.size ≤ p10 ∧ w.heap.size ≤ p12 := by omega
  have hsb : ∀ q, (Value.slice As x.steps.length cs).ownBlock = some q → q < w.heap.size := h.stp.blk_lt
  have hsg : ∀ q, (Value.slice As x.steps.length cs).ownBlock = some q → W0.heap.size ≤ q := h.stp.ge
  replace hp6 := hid hp6
  replace hp10 := hid hp10
  replace hp12 := hid hp12
  replace z3 := hid z3
  have hw0 := h.kp.size
  simp only [List.toList_toArray] at BP BR
  have c0 := BP.cell (j := 0) rfl
  have hlp := BP.lt (by simp)
  have hlr := BR.lt (by simp)
  have hlc := BC.lt (by simp)
  by_cases h1 : B ≤ x.steps.length
  · have e1 : decide ((B : Int) ≤ (x.steps.length : Int)) = true := decide_eq_true (by omega)
    have e1' : decide (B ≤ x.steps.length) = true := decide_eq_true h1
    have HF : Hid (y = ⟨x.steps, x.box, false, false⟩) := hid (by rw [← HY.out, if_pos h1])
    have f2 := BP.free (j := 2) (by simp)
    have f3 := BP.free (j := 3) (by simp)
    have c2 := BP.cell (j := 2) rfl
    have c3 := BP.cell (j := 3) rfl
    have B4 := (BP.set (j := 3) (by simp) (.bool false)).set (j := 2) (by simp) (.bool false)
    simp only [List.set_cons_zero, List.set_cons_succ] at B4
    have k4 := (k3.set (p := ⟨p6, 3, none⟩) hge.1 (.bool false)).set (p := ⟨p6, 2, none⟩) hge.1 (.bool false)
    have BR4 := (BR.keep (set_block w3 ⟨p6, 3, none⟩ (.bool false) p12 (Ne.symm hne.2.1))).keep (set_block (w3.setCell ⟨p6, 3, none⟩ (.bool false)) ⟨p6, 2, none⟩ (.bool false) p12 (Ne.symm hne.2.1))
    go_upto_region 4 with (fail)
    generalize (w3.setCell ⟨p6, 3, none⟩ (.bool false)).setCell ⟨p6, 2, none⟩ (.bool false) = w4 at *
    clear BP BR c0 c2 c3 f2 f3
    have BP := B4
    have BR := BR4
    have u0 := BP.cell (j := 0) rfl
    have u1 := BP.cell (j := 1) rfl
    have u2 := BP.cell (j := 2) rfl
    have u3 := BP.cell (j := 3) rfl
    have f0 := BR.free (j := 0) (by simp)
    have f1 := BR.free (j := 1) (by simp)
    have f2 := BR.free (j := 2) (by simp)
    have f3 := BR.free (j := 3) (by simp)
    have d0 := BR.cell (j := 0) rfl
    have d1 := BR.cell (j := 1) rfl
    have d2 := BR.cell (j := 2) rfl
    have d3 := BR.cell (j := 3) rfl
    have BE := BR.all (cs := [.slice As x.steps.length cs, .slice Ab x.box.length cb, .bool false, .bool false]) rfl
    have hlP := BP.lt (by simp)
    have hlR := BR.lt (by simp)
    go_wp2
    change bodyPost _ _ _ _ _ (w4.setCells p12 0 [.slice As x.steps.length cs, .slice Ab x.box.length cb, .bool false, .bool false])
    refine bodyPost_ret (results_cell_bx rfl _ _ p12 [.slice As x.steps.length cs, .slice Ab x.box.length cb, .bool false, .bool false] _ rfl BE.range Tryz.underlying96 rfl (by kernel_rfl)) rfl ?_
    have kS : Fx (fun q => q = p12) w4 (w4.setCells p12 0 [.slice As x.steps.length cs, .slice Ab x.box.length cb, .bool false, .bool false]) := setsFx p12 0 _ _ (Fx.refl _ _) (.inl rfl)
    generalize w4.setCells p12 0 [.slice As x.steps.length cs, .slice Ab x.box.length cb, .bool false, .bool false] = wE at *
    have kE := kS.kp_of k4 (fun q e => by rw [e]; exact hge.2.2)
    rw [HF.out]
    exact ⟨_, _, rfl, ⟨h.kp.trans kE, h.stp.kp kE, h.bx.fx (kE.fx _)⟩, kE.fx _, fun q hq => .inl hq⟩
  · have e1 : decide ((B : Int) ≤ (x.steps.length : Int)) = false := decide_eq_false (by omega)
    have e1' : decide (B ≤ x.steps.length) = false := decide_eq_false h1
    have HY2 : Hid ((if cell < 0 ∨ hi < lo then (⟨x.steps ++ [⟨kind, index, cell⟩], x.box, false, x.fine⟩ : PX) else ⟨x.steps ++ [⟨kind, index, cell⟩], x.box.set cell.toNat ⟨lo, hi⟩, x.opn, x.fine⟩) = y) := hid (by rw [← HY.out, if_neg h1])
    clear HY
    have ka := (Kp.refl w3).alloc (.cells #[.int .i64 kind, .int .i64 index, .int .i64 cell] 54)
    have hsrc := Sl.one (R := Pl encStp) w3 [.int .i64 kind, .int .i64 index, .int .i64 cell] 54 3 ⟨kind, index, cell⟩ rfl rfl
    have BPa := BP.kp ka hlp
    have BCa := BC.kp ka hlc
    have BRa := BR.kp ka hlr
    have owna := h.stp.kp (k3.trans ka)
    have za := World.size_alloc w3 (.cells #[.int .i64 kind, .int .i64 index, .int .i64 cell] 54)
    have hsz : w.heap.size ≤ w3.heap.size := k3.size
    obtain ⟨ln, hln⟩ : ∃ ln, Hid ((x.steps ++ [(⟨kind, index, cell⟩ : Stp)]).length = ln) := ⟨_, hid rfl⟩
    have hmm : x.steps.length + [(⟨kind, index, cell⟩ : Stp)].length ≤ 65537 := by simp; omega
    go_upto_region 6 with (at_builtin; refine wpl_append_flat rfl (.tmp 22) (.tmp 27) rfl stStp encStp_len encStp_one rfl owna rfl hsrc (by omega) (by omega) (by omega) ?_; intro v5 w5 own5 hgrow5 hat5 hnil5; obtain ⟨A5, c5, e5, _, _⟩ := own5.form; rw [hln.out] at e5; subst e5; have BP5 := BPa.grown hgrow5 (fun e => by have := hsb p6 e; omega) (BPa.lt (by simp)); have BC5 := BCa.grown hgrow5 (fun e => by have := hsb p10 e; omega) (BCa.lt (by simp)); have BR5 := BRa.grown hgrow5 (fun e => by have := hsb p12 e; omega) (BRa.lt (by simp)); have fx5 : Fx (fun q => (Value.slice As x.steps.length cs).ownBlock = some q) w w5 := ((k3.trans ka).fx _).grown hgrow5 (fun g hg => .inl hg); have f0 := BP5.free (j := 0) (by simp); have d0 := BP5.cell (j := 0) rfl; have hl5 := BP5.lt (by simp); clear BPa BCa BRa BP BC BR owna hsrc hnil5)
    have hq5 : ∀ q, (Value.slice A5 ln c5).ownBlock = some q → ((Value.slice As x.steps.length cs).ownBlock = some q ∨ w.heap.size ≤ q) ∧ q ≠ p6 ∧ q ≠ p10 ∧ q ≠ p12 := fun q hq => by
      have hlp3 := hlp
      rcases hat5 with e | e
      · have h2 := hsb q (e ▸ hq)
        exact ⟨.inl (e ▸ hq), by omega, by omega, by omega⟩
      · rw [hq] at e
        injection e with e
        exact ⟨.inr (by omega), by omega, by omega, by omega⟩
    have B6 := BP5.set (j := 0) (by simp) (.slice A5 ln c5)
    simp only [List.set_cons_zero, List.set_cons_succ] at B6
    have C6 := BC5.keep (set_block w5 ⟨p6, 0, none⟩ (.slice A5 ln c5) p10 (Ne.symm hne.1))
    have R6 := BR5.keep (set_block w5 ⟨p6, 0, none⟩ (.slice A5 ln c5) p12 (Ne.symm hne.2.1))
    have g6 : Fx (fun q => q = p6) w5 (w5.setCell ⟨p6, 0, none⟩ (.slice A5 ln c5)) := (Fx.refl _ _).set1 ⟨p6, 0, none⟩ _ (.inl rfl)
    have own6 := own5.fx g6 (fun q hq e => (hq5 q hq).2.1 e)
    have fx6 : Fx (fun q => (Value.slice As x.steps.length cs).ownBlock = some q) w (w5.setCell ⟨p6, 0, none⟩ (.slice A5 ln c5)) := fx5.set1 _ _ (.inr hge.1)
    have hbx6 := (h.bx.more (fx5.mono fun q _ e => .inl e)).fx (g6.mono fun q _ e => .inr (by rw [e]; exact hge.1))
    clear BP5 BC5 BR5 own5 hgrow5 hat5 f0 d0 hl5 fx5 g6
    generalize w5.setCell ⟨p6, 0, none⟩ (.slice A5 ln c5) = w6 at *
    have K6 := fx6.kp_of h.kp hsg
    have hl6 := B6.lt (by simp)
    have hl6c := C6.lt (by simp)
    have hl6r := R6.lt (by simp)
    have i0 := C6.cell (j := 0) rfl
    have i1 := C6.cell (j := 1) rfl
    by_cases h2 : cell < 0 ∨ hi < lo
    · have HF : Hid (y = ⟨x.steps ++ [⟨kind, index, cell⟩], x.box, false, x.fine⟩) := hid (by rw [← HY2.out, if_pos h2])
      have f2 := B6.free (j := 2) (by simp)
      have c2 := B6.cell (j := 2) rfl
      have B7 := B6.set (j := 2) (by simp) (.bool false)
      simp only [List.set_cons_zero, List.set_cons_succ] at B7
      have R7 := R6.keep (set_block w6 ⟨p6, 2, none⟩ (.bool false) p12 (Ne.symm hne.2.1))
      have g7 : Fx (fun q => q = p6) w6 (w6.setCell ⟨p6, 2, none⟩ (.bool false)) := (Fx.refl _ _).set1 ⟨p6, 2, none⟩ _ (.inl rfl)
      have e7 : (decide (cell < 0) || decide (hi < lo)) = true := by
        rcases h2 with h | h
        · rw [decide_eq_true h]; rfl
        · rw [decide_eq_true h, Bool.or_true]
      replace h2 := hid h2
      clear HY2 c0
      by_cases h3 : cell < 0
      · have e2 : decide (cell < 0) = true := decide_eq_true h3
        go_upto_region 8 with (fail)
        generalize w6.setCell ⟨p6, 2, none⟩ (.bool false) = w7 at *
        clear f2 c2 B6 R6 i0 i1 C6
        have BP := B7
        have BR := R7
        have u0 := BP.cell (j := 0) rfl
        have u1 := BP.cell (j := 1) rfl
        have u2 := BP.cell (j := 2) rfl
        have u3 := BP.cell (j := 3) rfl
        have f0 := BR.free (j := 0) (by simp)
        have f1 := BR.free (j := 1) (by simp)
        have f2 := BR.free (j := 2) (by simp)
        have f3 := BR.free (j := 3) (by simp)
        have d0 := BR.cell (j := 0) rfl
        have d1 := BR.cell (j := 1) rfl
        have d2 := BR.cell (j := 2) rfl
        have d3 := BR.cell (j := 3) rfl
        have BE := BR.all (cs := [.slice A5 ln c5, .slice Ab x.box.length cb, .bool false, .bool x.fine]) rfl
        have hlP := BP.lt (by simp)
        have hlR := BR.lt (by simp)
        go_wp2
        change bodyPost _ _ _ _ _ (w7.setCells p12 0 [.slice A5 ln c5, .slice Ab x.box.length cb, .bool false, .bool x.fine])
        refine bodyPost_ret (results_cell_bx rfl _ _ p12 [.slice A5 ln c5, .slice Ab x.box.length cb, .bool false, .bool x.fine] _ rfl BE.range Tryz.underlying96 rfl (by kernel_rfl)) rfl ?_
        have kS : Fx (fun q => q = p12) w7 (w7.setCells p12 0 [.slice A5 ln c5, .slice Ab x.box.length cb, .bool false, .bool x.fine]) := setsFx p12 0 _ _ (Fx.refl _ _) (.inl rfl)
        generalize w7.setCells p12 0 [.slice A5 ln c5, .slice Ab x.box.length cb, .bool false, .bool x.fine] = wE at *
        have fxE := (fx6.thru g7 (fun q hq e => by have := hge.1; omega)).thru kS (fun q hq e => by have := hge.2.2; omega)
        have kpE := fxE.kp_of h.kp hsg
        have ownE := (own6.fx g7 (fun q hq e => (hq5 q hq).2.1 e)).fx kS (fun q hq e => (hq5 q hq).2.2.2 e)
        have bxE := ((hbx6.fx (g7.mono fun q _ e => .inr (by rw [e]; exact hge.1))).fx (kS.mono fun q _ e => .inr (by rw [e]; exact hge.2.2))).mono (Y := fun q => (Value.slice A5 ln c5).ownBlock = some q ∨ L q) fun q hq => by
          rcases hq with hq | hq
          · rcases (hq5 q hq).1 with e | e
            · exact .inl (.inl e)
            · exact .inr e
          · exact .inl (.inr hq)
        rw [HF.out]
        exact ⟨_, _, rfl, ⟨kpE, ownE, bxE⟩, fxE, fun q hq => (hq5 q hq).1⟩
      · have e2 : decide (cell < 0) = false := decide_eq_false h3
        have e3 : decide (hi < lo) = true := by rw [e2] at e7; simpa using e7
        go_upto_region 8 with (fail)
        generalize w6.setCell ⟨p6, 2, none⟩ (.bool false) = w7 at *
        clear f2 c2 B6 R6 i0 i1 C6
        have BP := B7
        have BR := R7
        have u0 := BP.cell (j := 0) rfl
        have u1 := BP.cell (j := 1) rfl
        have u2 := BP.cell (j := 2) rfl
        have u3 := BP.cell (j := 3) rfl
        have f0 := BR.free (j := 0) (by simp)
        have f1 := BR.free (j := 1) (by simp)
        have f2 := BR.free (j := 2) (by simp)
        have f3 := BR.free (j := 3) (by simp)
        have d0 := BR.cell (j := 0) rfl
        have d1 := BR.cell (j := 1) rfl
        have d2 := BR.cell (j := 2) rfl
        have d3 := BR.cell (j := 3) rfl
        have BE := BR.all (cs := [.slice A5 ln c5, .slice Ab x.box.length cb, .bool false, .bool x.fine]) rfl
        have hlP := BP.lt (by simp)
        have hlR := BR.lt (by simp)
        go_wp2
        change bodyPost _ _ _ _ _ (w7.setCells p12 0 [.slice A5 ln c5, .slice Ab x.box.length cb, .bool false, .bool x.fine])
        refine bodyPost_ret (results_cell_bx rfl _ _ p12 [.slice A5 ln c5, .slice Ab x.box.length cb, .bool false, .bool x.fine] _ rfl BE.range Tryz.underlying96 rfl (by kernel_rfl)) rfl ?_
        have kS : Fx (fun q => q = p12) w7 (w7.setCells p12 0 [.slice A5 ln c5, .slice Ab x.box.length cb, .bool false, .bool x.fine]) := setsFx p12 0 _ _ (Fx.refl _ _) (.inl rfl)
        generalize w7.setCells p12 0 [.slice A5 ln c5, .slice Ab x.box.length cb, .bool false, .bool x.fine] = wE at *
        have fxE := (fx6.thru g7 (fun q hq e => by have := hge.1; omega)).thru kS (fun q hq e => by have := hge.2.2; omega)
        have kpE := fxE.kp_of h.kp hsg
        have ownE := (own6.fx g7 (fun q hq e => (hq5 q hq).2.1 e)).fx kS (fun q hq e => (hq5 q hq).2.2.2 e)
        have bxE := ((hbx6.fx (g7.mono fun q _ e => .inr (by rw [e]; exact hge.1))).fx (kS.mono fun q _ e => .inr (by rw [e]; exact hge.2.2))).mono (Y := fun q => (Value.slice A5 ln c5).ownBlock = some q ∨ L q) fun q hq => by
          rcases hq with hq | hq
          · rcases (hq5 q hq).1 with e | e
            · exact .inl (.inl e)
            · exact .inr e
          · exact .inl (.inr hq)
        rw [HF.out]
        exact ⟨_, _, rfl, ⟨kpE, ownE, bxE⟩, fxE, fun q hq => (hq5 q hq).1⟩
    · have HF : Hid (y = ⟨x.steps ++ [⟨kind, index, cell⟩], withL x.box cell ⟨lo, hi⟩, x.opn, x.fine⟩) := hid (by
        rw [← HY2.out, if_neg h2]
        unfold withL
        rw [if_pos (by omega)])
      have e2 : decide (cell < 0) = false := decide_eq_false (by omega)
      have e3 : decide (hi < lo) = false := decide_eq_false (by omega)
      have c1 := B6.cell (j := 1) rfl
      replace h2 := hid h2
      clear HY2 c0
      go_wp2_with fail
      refine (rWith_any _ x.box cell lo hi w6 hbx6.here (by omega)).mono ?_
      rintro e w8 ⟨v8, rfl, own8, k8⟩
      obtain ⟨A8, n8, c8, rfl⟩ := own8.isSl
      have B8 := B6.kp k8 hl6
      have R8 := R6.kp k8 hl6r
      have hg8 := own8.ge
      have hl5 := own6.blk_lt
      have f1 := B8.free (j := 1) (by simp)
      have d1 := B8.cell (j := 1) rfl
      have hl8 := B8.lt (by simp)
      have B9 := B8.set (j := 1) (by simp) (.slice A8 n8 c8)
      simp only [List.set_cons_zero, List.set_cons_succ] at B9
      have R9 := R8.keep (set_block w8 ⟨p6, 1, none⟩ (.slice A8 n8 c8) p12 (Ne.symm hne.2.1))
      have g9 : Fx (fun q => q = p6) w8 (w8.setCell ⟨p6, 1, none⟩ (.slice A8 n8 c8)) := (Fx.refl _ _).set1 ⟨p6, 1, none⟩ _ (.inl rfl)
      clear B6 R6 i0 i1 C6 c1
      go_upto_region 10 with (fail)
      generalize w8.setCell ⟨p6, 1, none⟩ (.slice A8 n8 c8) = w9 at *
      clear B8 R8 f1 d1
      have BP := B9
      have BR := R9
      have u0 := BP.cell (j := 0) rfl
      have u1 := BP.cell (j := 1) rfl
      have u2 := BP.cell (j := 2) rfl
      have u3 := BP.cell (j := 3) rfl
      have f0 := BR.free (j := 0) (by simp)
      have f1 := BR.free (j := 1) (by simp)
      have f2 := BR.free (j := 2) (by simp)
      have f3 := BR.free (j := 3) (by simp)
      have d0 := BR.cell (j := 0) rfl
      have d1 := BR.cell (j := 1) rfl
      have d2 := BR.cell (j := 2) rfl
      have d3 := BR.cell (j := 3) rfl
      have BE := BR.all (cs := [.slice A5 ln c5, .slice A8 n8 c8, .bool x.opn, .bool x.fine]) rfl
      have hlP := BP.lt (by simp)
      have hlR := BR.lt (by simp)
      go_wp2
      change bodyPost _ _ _ _ _ (w9.setCells p12 0 [.slice A5 ln c5, .slice A8 n8 c8, .bool x.opn, .bool x.fine])
      refine bodyPost_ret (results_cell_bx rfl _ _ p12 [.slice A5 ln c5, .slice A8 n8 c8, .bool x.opn, .bool x.fine] _ rfl BE.range Tryz.underlying96 rfl (by kernel_rfl)) rfl ?_
      have kS : Fx (fun q => q = p12) w9 (w9.setCells p12 0 [.slice A5 ln c5, .slice A8 n8 c8, .bool x.opn, .bool x.fine]) := setsFx p12 0 _ _ (Fx.refl _ _) (.inl rfl)
      generalize w9.setCells p12 0 [.slice A5 ln c5, .slice A8 n8 c8, .bool x.opn, .bool x.fine] = wE at *
      have fxE := ((fx6.thru (k8.fx fun _ => False) (fun q hq e => e.elim)).thru g9 (fun q hq e => by have := hge.1; omega)).thru kS (fun q hq e => by have := hge.2.2; omega)
      have kpE := fxE.kp_of h.kp hsg
      have ownE := ((own6.kp k8).fx g9 (fun q hq e => (hq5 q hq).2.1 e)).fx kS (fun q hq e => (hq5 q hq).2.2.2 e)
      have oxE := (own8.fx g9 (fun q hq e => by have := hg8 q hq; omega)).fx kS (fun q hq e => by have := hg8 q hq; omega)
      rw [HF.out]
      refine ⟨_, _, rfl, ⟨kpE, ownE, fun W kW => (oxE.fx kW fun q hq e => ?_).sl encRng_len⟩, fxE, fun q hq => (hq5 q hq).1⟩
      have h3 := hg8 q hq
      rcases e with e | e
      · have h4 := hl5 q e
        omega
      · have h4 := hL q e
        have h5 := fx6.size
        omega
end Go.Proofs.YtlbhidiliogflaaGreat
