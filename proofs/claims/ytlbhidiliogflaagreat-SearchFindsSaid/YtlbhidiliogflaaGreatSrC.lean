
/-
Search, the reference: pass: the walk.
-/
import Derived.Test.YtlbhidiliogflaaGreatSrB
namespace Go.Proofs.YtlbhidiliogflaaGreat
set_option linter.unusedSimpArgs false
set_option linter.unusedVariables false
open Go.RowKit

theorem Bx.put4 {w : World} {b : Nat} {x0 x1 x2 x3 : Value} (h : Bx w b [x0, x1, x2, x3]) (u0 u1 u2 u3 : Value) : Bx ((((w.setCell ⟨b, 0, none⟩ u0).setCell ⟨b, 1, none⟩ u1).setCell ⟨b, 2, none⟩ u2).setCell ⟨b, 3, none⟩ u3) b [u0, u1, u2, u3] :=
  (((h.set (j := 0) (by simp) u0).set (j := 1) (by simp) u1).set (j := 2) (by simp) u2).set (j := 3) (by simp) u3
theorem fx_put4 (w : World) (b : Nat) (u0 u1 u2 u3 : Value) : Fx (fun q => q = b) w ((((w.setCell ⟨b, 0, none⟩ u0).setCell ⟨b, 1, none⟩ u1).setCell ⟨b, 2, none⟩ u2).setCell ⟨b, 3, none⟩ u3) :=
  ((((Fx.refl (fun q => q = b) w).set1 ⟨b, 0, none⟩ u0 (.inl rfl)).set1 ⟨b, 1, none⟩ u1 (.inl rfl)).set1 ⟨b, 2, none⟩ u2 (.inl rfl)).set1 ⟨b, 3, none⟩ u3 (.inl rfl)
/-- a pass under way: p4: its state, p8: its result -/
structure RPI (L : Nat → Prop) (W0 wS : World) (vs0 : Value) (p4 p8 : Nat) (wr : World) (vs vb : Value) (x : PX) : Prop where
  pb : PB (fun q => q = p4 ∨ q = p8 ∨ L q) W0 wr vs vb x
  b4 : Bx wr p4 [vs, vb, .bool x.opn, .bool x.fine]
  b8 : Bx wr p8 [.slice none 0 0, .slice none 0 0, .bool false, .bool false]
  fx : Fx (fun q => vs0.ownBlock = some q) wS wr
  blk : ∀ q, vs.ownBlock = some q → (vs0.ownBlock = some q ∨ wS.heap.size ≤ q) ∧ q ≠ p4 ∧ q ≠ p8
theorem RPI.keep {L : Nat → Prop} {W0 wS wr w' : World} {vs0 vs vb : Value} {p4 p8 : Nat} {x : PX} (h : RPI L W0 wS vs0 p4 p8 wr vs vb x) (k : Kp wr w') : RPI L W0 wS vs0 p4 p8 w' vs vb x :=
  ⟨h.pb.keep k, h.b4.kp k (h.b4.lt (by simp)), h.b8.kp k (h.b8.lt (by simp)), h.fx.trans (k.fx _), h.blk⟩
theorem RPI.noted {L : Nat → Prop} {W0 wS wr w2 : World} {vs0 vs vb vs' vb' : Value} {p4 p8 : Nat} {x y : PX} (h : RPI L W0 wS vs0 p4 p8 wr vs vb x) (h4 : wS.heap.size ≤ p4) (h0 : W0.heap.size ≤ p4) (hne : p4 ≠ p8) (hE : PB (fun q => q = p4 ∨ q = p8 ∨ L q) W0 w2 vs' vb' y)
    (f : Fx (fun q => vs.ownBlock = some q) wr w2) (hb : ∀ q, vs'.ownBlock = some q → vs.ownBlock = some q ∨ wr.heap.size ≤ q) :
    RPI L W0 wS vs0 p4 p8 ((((w2.setCell ⟨p4, 0, none⟩ vs').setCell ⟨p4, 1, none⟩ vb').setCell ⟨p4, 2, none⟩ (.bool y.opn)).setCell ⟨p4, 3, none⟩ (.bool y.fine)) vs' vb' y := by
  have g := fx_put4 w2 p4 vs' vb' (.bool y.opn) (.bool y.fine)
  have l4 := h.b4.lt (by simp)
  have l8 := h.b8.lt (by simp)
  have hq : ∀ q, vs'.ownBlock = some q → (vs0.ownBlock = some q ∨ wS.heap.size ≤ q) ∧ q ≠ p4 ∧ q ≠ p8 := fun q hq => by
    rcases hb q hq with e | e
    · exact h.blk q e
    · have := h.fx.size
      exact ⟨.inr (by omega), by omega, by omega⟩
  refine ⟨⟨g.kp_of hE.kp (fun q e => by rw [e]; exact h0), hE.stp.fx g (fun q e e2 => (hq q e).2.1 e2), hE.bx.fx (g.mono fun q _ e => .inr (.inl e))⟩, (h.b4.fx f l4 (fun e => (h.blk p4 e).2.1 rfl)).put4 _ _ _ _,
    (h.b8.fx f l8 (fun e => (h.blk p8 e).2.2 rfl)).fx g (Nat.lt_of_lt_of_le l8 f.size) (Ne.symm hne), (h.fx.thru f (fun q i e => ?_)).thru g (fun q i e => by omega), hq⟩
  rcases (h.blk q e).1 with e' | e'
  · exact e'
  · omega
theorem noteX_box (B : Nat) (x : PX) (kind index cell : Int) (r : Rng) : (noteX B x kind index cell r).box.length = x.box.length := by
  unfold noteX
  split
  · rfl
  · split
    · rfl
    · simp
theorem noteX_steps {B : Nat} {x : PX} (h : x.steps.length ≤ B) (kind index cell : Int) (r : Rng) : (noteX B x kind index cell r).steps.length ≤ B := by
  unfold noteX
  split
  · exact h
  · split <;> simp <;> omega
theorem ne_same (a b c d : Int) : rngNe a b c d = !sameR ⟨a, b⟩ ⟨c, d⟩ := rfl
set_option maxRecDepth 8000 in
set_option maxHeartbeats 16000000 in
theorem rPass_any (B n : Nat) (vs vb vr vg : Value) (x : PX) (rows : List Row) (grs : List Gr) (L : Nat → Prop) (W0 w : World) (h : PB L W0 w vs vb x) (hL : ∀ q, L q → q < w.heap.size) (hr : RowsL W0 vr rows) (hg : GrsL W0 vg grs)
    (hsl : x.steps.length ≤ B) (hbl : x.box.length = n) (hn : n ≤ 128) (hB : B ≤ 65536) (hfr : ∀ r ∈ rows, fitsB n r = true) (hgr : ∀ g ∈ grs, grOk n g = true) :
    Calls Tryz.prog 71 #[.agg #[vs, vb, .bool x.opn, .bool x.fine], vr, vg, .int .i64 (B : Int)] w (NEnd L W0 w vs (runT B x (tasks rows grs))) := by
  obtain ⟨As, cs, rfl, hcs, hms⟩ := h.stp.form
  obtain ⟨Ab, cb, rfl, hcb, hmb⟩ := h.bx.here.form
  obtain ⟨Ar, cr, rfl, hcr, hmr⟩ := hr.form
  obtain ⟨Ag, cg, rfl, hcg, hmg⟩ := hg.form
  unfold NEnd
  obtain ⟨F, hF⟩ : ∃ F, runT B x (tasks rows grs) = F := ⟨_, rfl⟩
  rw [hF]
  have HF := hid hF
  have HBL0 := hid hbl
  clear hF hbl
  have ka := (Kp.refl w).alloc (.cells #[.slice As x.steps.length cs, .slice Ab x.box.length cb, .bool x.opn, .bool x.fine] 96)
  have kb := (Kp.refl (w.alloc (.cells #[.slice As x.steps.length cs, .slice Ab x.box.length cb, .bool x.opn, .bool x.fine] 96))).alloc (.cells #[.slice none 0 0, .slice none 0 0, .bool false, .bool false] 96)
  have B4 := (Bx.new w #[.slice As x.steps.length cs, .slice Ab x.box.length cb, .bool x.opn, .bool x.fine] 96).kp kb (by simp)
  have B8 := Bx.new (w.alloc (.cells #[.slice As x.steps.length cs, .slice Ab x.box.length cb, .bool x.opn, .bool x.fine] 96)) #[.slice none 0 0, .slice none 0 0, .bool false, .bool false] 96
  rw [World.size_alloc] at B8
  have k0 := ka.trans kb
  have hsb : ∀ q, (Value.slice As x.steps.length cs).ownBlock = some q → q < w.heap.size := h.stp.blk_lt
  have hI0 : RPI L W0 w (.slice As x.steps.length cs) w.heap.size (w.heap.size + 1) ((w.alloc (.cells #[.slice As x.steps.length cs, .slice Ab x.box.length cb, .bool x.opn, .bool x.fine] 96)).alloc (.cells #[.slice none 0 0, .slice none 0 0, .bool false, .bool false] 96)) (.slice As x.steps.length cs) (.slice Ab x.box.length cb) x :=
    ⟨⟨h.kp.trans k0, h.stp.kp k0, (h.bx.more (k0.fx _)).mono fun q e => by
      rcases e with e | e | e | e
      · exact .inl (.inl e)
      · exact .inr (by omega)
      · exact .inr (by omega)
      · exact .inl (.inr e)⟩, B4, B8, k0.fx _, fun q e => ⟨.inl e, by have := hsb q e; omega, by have := hsb q e; omega⟩⟩
  have hw0 := h.kp.size
  clear ka kb B4 B8
  go_enter Tryz.func71, Tryz.ntmps71
  go_upto_region 1 with (fail)
  generalize (w.alloc (.cells #[.slice As x.steps.length cs, .slice Ab x.box.length cb, .bool x.opn, .bool x.fine] 96)).alloc (.cells #[.slice none 0 0, .slice none 0 0, .bool false, .bool false] 96) = w1 at *
  obtain ⟨p4, hp4⟩ : ∃ p4, p4 = w.heap.size := ⟨_, rfl⟩
  obtain ⟨p8, hp8⟩ : ∃ p8, p8 = p4 + 1 := ⟨_, rfl⟩
  rw [← hp4, ← hp8] at hI0
  rw [← hp4, ← hp8]
  have hne : p4 ≠ p8 := by omega
  have hge : w.heap.size ≤ p4 ∧ w.heap.size ≤ p8 ∧ W0.heap.size ≤ p4 := by omega
  have hLs : ∀ q, (q = p4 ∨ q = p8 ∨ L q) → ∀ m, p8 < m → q < m := fun q e m hm => by
    rcases e with e | e | e
    · omega
    · omega
    · have := hL q e
      omega
  replace hp4 := hid hp4
  replace hp8 := hid hp8
  clear h hL hsb k0
  obtain ⟨vs0, hvs0⟩ : ∃ v, v = Value.slice As x.steps.length cs := ⟨_, rfl⟩
  obtain ⟨vb0, hvb0⟩ : ∃ v, v = Value.slice Ab x.box.length cb := ⟨_, rfl⟩
  rw [← hvs0, ← hvb0] at hI0
  rw [← hvs0]
  replace hvs0 := hid hvs0
  replace hvb0 := hid hvb0
  have HF1 : Hid (runT B x (rowsT 0 (rows.drop 0) ++ grsT 0 grs) = F) := hid (by rw [List.drop_zero]; exact HF.out)
  go_wp2_with fail
  go_loopw [9] (fun i wr => ∃ (k : Nat) (vs vb : Value) (x : PX), k ≤ rows.length ∧ i = .int .i64 (k : Int) ∧ RPI L W0 w vs0 p4 p8 wr vs vb x ∧ Hid (runT B x (rowsT k (rows.drop k) ++ grsT 0 grs) = F) ∧ Hid (x.box.length = n) ∧ x.steps.length ≤ B) (fun i _ => rows.length - (intOf i).toNat)
  case atStart => exact ⟨0, _, _, x, Nat.zero_le _, rfl, hI0, HF1, HBL0, hsl⟩
  case round =>
    clear hI0 HF1 HBL0 hsl HF
    obtain ⟨k, vs, vb, x, hk, rfl, hI, HR, HBL, hsl⟩ := hrel
    by_cases hlt : k < rows.length
    · have hfit := hid (hfr _ (List.getElem_mem hlt))
      have HRow := hid ((hr.keep rdRow_stable hI.pb.kp).row hlt)
      have HRow0 := hid (fun (W : World) (kW : Kp W0 W) => (hr.keep rdRow_stable kW).row hlt)
      have HR2 : Hid (runT B x (rowT k rows[k] ++ (rowsT (k + 1) (rows.drop (k + 1)) ++ grsT 0 grs)) = F) := hid (by rw [← HR.out, rowsT_drop hlt, List.append_assoc])
      obtain ⟨RS, hRS⟩ : ∃ RS, RS = rowsT (k + 1) (rows.drop (k + 1)) ++ grsT 0 grs := ⟨_, rfl⟩
      rw [← hRS] at HR2
      replace hRS := hid hRS
      clear HR
      generalize rows[k] = r at *
      obtain ⟨ts, bd⟩ := r
      dsimp only at HRow HRow0
      have q1 : (0 : Int) ≤ (k : Int) := by omega
      have q2 : (k : Int) < (rows.length : Int) := by omega
      go_upto_region 4 with (fail)
      obtain ⟨dd, hdd⟩ : ∃ dd, dd = (x.opn && (decide (ts = []) && decide (bd < 0))) := ⟨_, rfl⟩
      go_cut [41] from 23 to 41 (fun s41 wx => s41 = .bool dd ∧ wx = wr)
      case first =>
        obtain ⟨gr', og, A1, c1, rfl, hgr', r1, r2, r3⟩ := HRow.out
        have i2 := hI.b4.cell (j := 2) rfl
        have l4 := hI.b4.lt (by simp)
        cases ho : x.opn with
        | false =>
          rw [ho] at i2 hdd
          have HD : Hid (dd = false) := hid hdd
          clear hdd
          go_wp2_with fail
          go_meet
          case rel => exact ⟨by rw [HD.out], rfl⟩
        | true =>
          rw [ho] at i2 hdd
          by_cases h0 : ts = []
          · subst h0
            have HD : Hid (dd = decide (bd < 0)) := hid (by rw [hdd]; simp)
            clear hdd
            go_wp2_with fail
            go_meet
            case rel => exact ⟨by rw [HD.out], rfl⟩
          · have e0 : ((ts.length : Int) == 0) = false := by simpa using h0
            have e0' : (ts.length == 0) = false := by simpa using h0
            have HD : Hid (dd = false) := hid (by rw [hdd, decide_eq_false h0]; simp)
            replace h0 := hid h0
            clear hdd
            go_wp2_with fail
            go_meet
            case rel => exact ⟨by rw [HD.out], rfl⟩
      case rest =>
        obtain ⟨rfl, rfl⟩ := hcut
        have HD := hid hdd
        clear hdd
        go_upto_if 41 with (fail)
        go_cut [] from 42 to 46 (fun wx => ∃ (vs vb : Value) (x : PX), RPI L W0 w vs0 p4 p8 wx vs vb x ∧ Hid (runT B x ((ts.map fun t => Tsk.row k ⟨ts, bd⟩ t.cell) ++ RS) = F) ∧ Hid (x.box.length = n) ∧ x.steps.length ≤ B)
        case first =>
          obtain ⟨ss, box, o, fi⟩ := x
          obtain ⟨Asv, nsv, csv, rfl⟩ := hI.pb.stp.isSl
          obtain ⟨Abv, cbv, rfl, _, _⟩ := hI.pb.bx.here.form
          dsimp only at *
          cases dd with
          | false =>
            have HR3 : Hid (runT B ⟨ss, box, o, fi⟩ ((ts.map fun t => Tsk.row k ⟨ts, bd⟩ t.cell) ++ RS) = F) := hid (by
              by_cases hd : ts = [] ∧ bd < 0
              · obtain ⟨rfl, hb0⟩ := hd
                have h1 := HD.out
                rw [decide_eq_true hb0] at h1
                obtain rfl : o = false := by simpa using h1.symm
                rw [← HR2.out, rowT_dead rfl hb0]
                rfl
              · rw [← HR2.out, rowT_live (r := ⟨ts, bd⟩) hd])
            clear HR2
            go_wp2_with fail
            go_meet
            case rel => exact ⟨_, _, _, hI, HR3, HBL, hsl⟩
          | true =>
            have hd : o = true ∧ ts = [] ∧ bd < 0 := by
              have h1 := HD.out.symm
              rw [Bool.and_eq_true, Bool.and_eq_true, decide_eq_true_eq, decide_eq_true_eq] at h1
              exact h1
            obtain ⟨rfl, rfl, hb0⟩ := hd
            have HR4 : Hid (runT B (noteX B ⟨ss, box, true, fi⟩ 0 k (-1) ⟨0, 0⟩) RS = F) := hid (by rw [← HR2.out, rowT_dead rfl hb0]; rfl)
            have i0 := hI.b4.cell (j := 0) rfl
            have i1 := hI.b4.cell (j := 1) rfl
            have i2 := hI.b4.cell (j := 2) rfl
            have i3 := hI.b4.cell (j := 3) rfl
            have l4 := hI.b4.lt (by simp)
            clear HR2
            go_wp2_with fail
            refine (rNote_any B 0 (k : Int) (-1) 0 0 _ _ ⟨ss, box, true, fi⟩ (fun q => q = p4 ∨ q = p8 ∨ L q) W0 _ hI.pb (fun q e => hLs q e _ (hI.b8.lt (by simp))) (by show ss.length ≤ 65536; omega) (by show box.length ≤ 1000; have := HBL.out; omega) hB).mono ?_
            rintro e w2 ⟨vs', vb', rfl, hE, fxn, hbk⟩
            have hI2 := hI.noted hge.1 hge.2.2 hne hE fxn hbk
            have hnb := noteX_box B ⟨ss, box, true, fi⟩ 0 (k : Int) (-1) ⟨0, 0⟩
            have hns := noteX_steps (x := ⟨ss, box, true, fi⟩) hsl 0 (k : Int) (-1) ⟨0, 0⟩
            have b4n := hI.b4.fx fxn (hI.b4.lt (by simp)) (fun e => (hI.blk p4 e).2.1 rfl)
            generalize noteX B ⟨ss, box, true, fi⟩ 0 (k : Int) (-1) ⟨0, 0⟩ = y at *
            obtain ⟨As', ns', cs', rfl⟩ := hE.stp.isSl
            obtain ⟨Ab', cb', rfl, _, _⟩ := hE.bx.here.form
            obtain ⟨yss, ybox, yo, yf⟩ := y
            dsimp only at *
            have f0 := b4n.free (j := 0) (by simp)
            have f1 := b4n.free (j := 1) (by simp)
            have f2 := b4n.free (j := 2) (by simp)
            have f3 := b4n.free (j := 3) (by simp)
            have d0 := b4n.cell (j := 0) rfl
            have d1 := b4n.cell (j := 1) rfl
            have d2 := b4n.cell (j := 2) rfl
            have d3 := b4n.cell (j := 3) rfl
            have hl4n := b4n.lt (by simp)
            clear hI hE b4n hbk
            replace hnb := hid hnb
            go_wp2_with fail
            generalize (((w2.setCell ⟨p4, 0, none⟩ (.slice As' ns' cs')).setCell ⟨p4, 1, none⟩ (.slice Ab' ybox.length cb')).setCell ⟨p4, 2, none⟩ (.bool yo)).setCell ⟨p4, 3, none⟩ (.bool yf) = w4 at *
            clear f0 f1 f2 f3 d0 d1 d2 d3 hl4n fxn
            go_meet
            case rel => exact ⟨_, _, _, hI2, hid HR4.out, hid (hnb.out.trans HBL.out), hns⟩
        case rest =>
          clear HD HR2 HRow hI HBL hsl
          obtain ⟨vs, vb, x, hI, HR, HBL, hsl⟩ := hcut
          have HR' : Hid (runT B x (((ts.drop 0).map fun t => Tsk.row k ⟨ts, bd⟩ t.cell) ++ RS) = F) := hid (by rw [List.drop_zero]; exact HR.out)
          go_wp2_with fail
          go_loopw [10] (fun i wr => ∃ (j : Nat) (vs vb : Value) (x : PX), j ≤ ts.length ∧ i = .int .i64 (j : Int) ∧ RPI L W0 w vs0 p4 p8 wr vs vb x ∧ Hid (runT B x (((ts.drop j).map fun t => Tsk.row k ⟨ts, bd⟩ t.cell) ++ RS) = F) ∧ Hid (x.box.length = n) ∧ x.steps.length ≤ B) (fun i _ => ts.length - (intOf i).toNat)
          case atStart => exact ⟨0, _, _, x, Nat.zero_le _, rfl, hI, HR', HBL, hsl⟩
          case round =>
            clear HR HR' hI HBL hsl
            obtain ⟨j, vs, vb, x, hj, rfl, hI, HR, HBL, hsl⟩ := hrel
            obtain ⟨gr', og, A1, c1, rfl, hgr', r1, r2, r3⟩ := HRow0.out _ hI.pb.kp
            obtain ⟨ss, box, o, fi⟩ := x
            obtain ⟨Asv, nsv, csv, rfl⟩ := hI.pb.stp.isSl
            obtain ⟨Abv, cbv, rfl, _, _⟩ := hI.pb.bx.here.form
            dsimp only at *
            by_cases hlt2 : j < ts.length
            · obtain ⟨gt, ot, rfl, hgt, t1, t2⟩ := r3.term hlt2
              have hokn : 0 ≤ ts[j].cell ∧ ts[j].cell < (n : Int) := by
                have hok := (fitsn_all hfit.out ts[j] (List.getElem_mem hlt2)).1
                unfold okT at hok
                exact ⟨hok.1, hok.2.1⟩
              have hj1 : j + 1 ≤ ts.length := hlt2
              have HR2 : Hid (runT B (doT B ⟨ss, box, o, fi⟩ (.row k ⟨ts, bd⟩ ts[j].cell)) (((ts.drop (j + 1)).map fun t => Tsk.row k ⟨ts, bd⟩ t.cell) ++ RS) = F) := hid (by rw [← HR.out, rowTs_drop hlt2]; rfl)
              clear HR
              generalize ts[j].cell = cl at *
              generalize ts[j].factor = fa at *
              obtain ⟨c, rfl⟩ := Int.eq_ofNat_of_zero_le hokn.1
              have hcn : c < box.length := by have := HBL.out; omega
              have u1 : (0 : Int) ≤ (j : Int) := by omega
              have u2 : (j : Int) < (ts.length : Int) := by omega
              have i2 := hI.b4.cell (j := 2) rfl
              have l4 := hI.b4.lt (by simp)
              obtain ⟨hcp1, hcp2⟩ := r3.caps
              have r3' := hid r3
              clear hokn r3
              cases o with
              | false =>
                have HR3 : Hid (runT B ⟨ss, box, false, fi⟩ (((ts.drop (j + 1)).map fun t => Tsk.row k ⟨ts, bd⟩ t.cell) ++ RS) = F) := hid HR2.out
                go_wp2_with fail
                go_roundw
                case rel => exact ⟨j + 1, _, _, _, hj1, by go_num, hI, HR3, HBL, hsl⟩
                case measure => simp [intOf]; omega
              | true =>
                obtain ⟨R, hR⟩ : ∃ R, R = tightenB ⟨ts, bd⟩ box (c : Int) := ⟨_, rfl⟩
                obtain ⟨gb, ob, rfl, hgb, v1, v2⟩ := hI.pb.bx.here.rng hcn
                have hpk := pick_at box c hcn
                have HR3 : Hid (runT B (if sameR R (pick box (c : Int)) then ⟨ss, box, true, fi⟩ else noteX B ⟨ss, box, true, fi⟩ 0 k c R) (((ts.drop (j + 1)).map fun t => Tsk.row k ⟨ts, bd⟩ t.cell) ++ RS) = F) := hid (by rw [← HR2.out, hR]; rfl)
                rw [hpk] at HR3
                have HT := hid hR.symm
                clear HR2 hpk hR
                generalize box[c] = bc at *
                obtain ⟨blo, bhi⟩ := bc
                obtain ⟨lo, hi⟩ := R
                dsimp only at v1 v2
                have hcb : (c : Int) < (box.length : Int) := by omega
                have hc0 : (0 : Int) ≤ (c : Int) := by omega
                have i1 := hI.b4.cell (j := 1) rfl
                go_upto_region 11 with (fail)
                refine G2.wp_region_growT Kp [] 9 141 (G2.pvL [G2.eqv (.slice (some ⟨gr', og, none⟩) rows.length cr), G2.eqv (.int .i64 (k : Int)), G2.eqv (.pointer (some ⟨gr', og + k * 2, none⟩)), G2.eqv (.agg #[.slice (some ⟨gt, ot, none⟩) ts.length c1, .int .i64 bd]), G2.eqv (.pointer (some ⟨p4, 1, none⟩)), G2.eqv (.slice (some ⟨gb, ob, none⟩) box.length cbv), G2.eqv (.int .i64 (c : Int)), G2.eqv (.agg #[.int .i64 lo, .int .i64 hi]), (fun v w => ∃ p, v = .pointer (some ⟨p, 0, none⟩) ∧ wr.heap.size ≤ p ∧ Bx w p [.int .i64 0, .int .i64 0])]) (by kernel_rfl) (by kernel_rfl) rfl (fun x => Kp.refl x) (fun _ _ _ h k => h.trans k) (Kp.refl _).drew (fun _ _ _ _ _ h => h) (G2.pvL_keep (G2.stabL_cons (G2.stab_eq _) (G2.stabL_cons (G2.stab_eq _) (G2.stabL_cons (G2.stab_eq _) (G2.stabL_cons (G2.stab_eq _) (G2.stabL_cons (G2.stab_eq _) (G2.stabL_cons (G2.stab_eq _) (G2.stabL_cons (G2.stab_eq _) (G2.stabL_cons (G2.stab_eq _) (G2.stabL_cons (fun _ _ _ h hk => h.imp fun _ h => ⟨h.1, h.2.1, h.2.2.kp hk (h.2.2.lt (by simp))⟩) (G2.stabL_nil))))))))))) (G2.stepsT_cons 0 ?_ (G2.stepsT_cons 1 ?_ (G2.stepsT_cons 2 ?_ (G2.stepsT_cons 3 ?_ (G2.stepsT_cons 4 ?_ (G2.stepsT_cons 5 ?_ (G2.stepsT_cons 6 ?_ (G2.stepsT_cons 7 ?_ (G2.stepsT_cons 8 ?_ (G2.stepsT_nil _ _ _)))))))))) ?_ ?_
                · intro a w' hk hF hD K hK
                  have h1 : a.tmps[1]?.getD undef = .slice (some ⟨gr', og, none⟩) rows.length cr := hF 1 (by kernel_rfl)
                  clear hF hD
                  go_simp
                  exact hK.out _ _ (Kp.refl _) rfl
                · intro a w' hk hF hD K hK
                  have h9 : a.tmps[9]?.getD undef = .int .i64 (k : Int) := hF 9 (by kernel_rfl)
                  clear hF hD
                  go_simp
                  exact hK.out _ _ (Kp.refl _) rfl
                · intro a w' hk hF hD K hK
                  have h68 : a.tmps[68]?.getD undef = .slice (some ⟨gr', og, none⟩) rows.length cr := hD 0 (by kernel_rfl)
                  have h69 : a.tmps[69]?.getD undef = .int .i64 (k : Int) := hD 1 (by kernel_rfl)
                  clear hF hD
                  go_simp
                  exact hK.out _ _ (Kp.refl _) rfl
                · intro a w' hk hF hD K hK
                  have h70 : a.tmps[70]?.getD undef = .pointer (some ⟨gr', og + k * 2, none⟩) := hD 2 (by kernel_rfl)
                  clear hF hD
                  have z0 := hk.cellS r1
                  have z1 := hk.cellS r2
                  go_simp
                  exact hK.out _ _ (Kp.refl _) rfl
                · intro a w' hk hF hD K hK
                  have h4 : a.tmps[4]?.getD undef = .pointer (some ⟨p4, 0, none⟩) := hF 4 (by kernel_rfl)
                  clear hF hD
                  go_simp
                  exact hK.out _ _ (Kp.refl _) rfl
                · intro a w' hk hF hD K hK
                  have h72 : a.tmps[72]?.getD undef = .pointer (some ⟨p4, 1, none⟩) := hD 4 (by kernel_rfl)
                  clear hF hD
                  have z0 := hk.cellS i1
                  go_simp
                  exact hK.out _ _ (Kp.refl _) rfl
                · intro a w' hk hF hD K hK
                  have h11 : a.tmps[11]?.getD undef = .int .i64 (c : Int) := hF 11 (by kernel_rfl)
                  clear hF hD
                  go_simp
                  exact hK.out _ _ (Kp.refl _) rfl
                · intro a w' hk hF hD K hK
                  have h71 : a.tmps[71]?.getD undef = .agg #[.slice (some ⟨gt, ot, none⟩) ts.length c1, .int .i64 bd] := hD 3 (by kernel_rfl)
                  have h73 : a.tmps[73]?.getD undef = .slice (some ⟨gb, ob, none⟩) box.length cbv := hD 5 (by kernel_rfl)
                  have h74 : a.tmps[74]?.getD undef = .int .i64 (c : Int) := hD 6 (by kernel_rfl)
                  clear hF hD
                  go_simp
                  refine (rTighten_any _ _ ⟨ts, bd⟩ box (c : Int) _ (r3'.out.keep (pl_stable _) hk) (hI.pb.bx.fx (hk.fx _)).here).mono ?_
                  rw [HT.out]
                  rintro e w9 ⟨rfl, hk9⟩
                  exact hK.out _ _ hk9 rfl
                · intro a w' hk hF hD K hK
                  clear hF hD
                  go_simp
                  exact hK.out _ _ ((Kp.refl w').alloc _) ⟨_, rfl, hk.size, Bx.new w' #[.int .i64 0, .int .i64 0] 57⟩
                · exact fun i0 hi0 => by simp at hi0
                intro v w9 k9 hv
                have v8 : (fun v w => ∃ p, v = .pointer (some ⟨p, 0, none⟩) ∧ wr.heap.size ≤ p ∧ Bx w p [.int .i64 0, .int .i64 0]) (v 8) w9 := hv 8 (by omega)
                have v7 : v 7 = .agg #[.int .i64 lo, .int .i64 hi] := hv 7 (by omega)
                clear hv
                obtain ⟨pt, v8', hpt, BT⟩ := v8
                simp only [G2.growPut, G2.gSlot, List.getElem?_toArray, List.getElem?_cons_zero, List.getElem?_cons_succ, Option.bind_some, List.setIfInBounds_toArray, List.set_cons_zero, List.set_cons_succ, List.drop_succ_cons, List.drop_zero, v7, v8']
                have kwa := k9.set (p := ⟨pt, 0, none⟩) hpt (.int .i64 lo)
                have kwb := kwa.set (p := ⟨pt, 1, none⟩) hpt (.int .i64 hi)
                have f0 := BT.free (j := 0) (by simp)
                have f1 := BT.free (j := 1) (by simp)
                have d0 := BT.cell (j := 0) rfl
                have d1 := BT.cell (j := 1) rfl
                have hlt9 := BT.lt (by simp)
                have BT := BT.set2 (.int .i64 lo) (.int .i64 hi)
                replace hI := hI.keep kwb
                replace v1 := kwb.cellS v1
                replace v2 := kwb.cellS v2
                clear i1 i2 l4 k9 r1 r2 t1 t2 kwa
                go_upto_region 12 with (fail)
                generalize (w9.setCell ⟨pt, 0, none⟩ (.int .i64 lo)).setCell ⟨pt, 1, none⟩ (.int .i64 hi) = wa at *
                clear f0 f1 d0 d1 hlt9
                have y0 := BT.cell (j := 0) rfl
                have y1 := BT.cell (j := 1) rfl
                have i1 := hI.b4.cell (j := 1) rfl
                have hneq := fun W a' b' c' d' => run_neq_rng W a' b' c' d'
                refine G2.wp_region_growT Kp [] 6 141 (G2.pvL [G2.eqv (.agg #[.int .i64 lo, .int .i64 hi]), G2.eqv (.pointer (some ⟨p4, 1, none⟩)), G2.eqv (.slice (some ⟨gb, ob, none⟩) box.length cbv), G2.eqv (.int .i64 (c : Int)), G2.eqv (.pointer (some ⟨gb, ob + c * 2, none⟩)), G2.eqv (.agg #[.int .i64 blo, .int .i64 bhi])]) (by kernel_rfl) (by kernel_rfl) rfl (fun x => Kp.refl x) (fun _ _ _ h k => h.trans k) (Kp.refl _).drew (fun _ _ _ _ _ h => h) (G2.pvL_keep (G2.stabL_cons (G2.stab_eq _) (G2.stabL_cons (G2.stab_eq _) (G2.stabL_cons (G2.stab_eq _) (G2.stabL_cons (G2.stab_eq _) (G2.stabL_cons (G2.stab_eq _) (G2.stabL_cons (G2.stab_eq _) (G2.stabL_nil)))))))) (G2.stepsT_cons 0 ?_ (G2.stepsT_cons 1 ?_ (G2.stepsT_cons 2 ?_ (G2.stepsT_cons 3 ?_ (G2.stepsT_cons 4 ?_ (G2.stepsT_cons 5 ?_ (G2.stepsT_nil _ _ _))))))) ?_ ?_
                · intro a w' hk hF hD K hK
                  have h12 : a.tmps[12]?.getD undef = .pointer (some ⟨pt, 0, none⟩) := hF 12 (by kernel_rfl)
                  clear hF hD
                  have z0 := hk.cellS y0
                  have z1 := hk.cellS y1
                  go_simp
                  exact hK.out _ _ (Kp.refl _) rfl
                · intro a w' hk hF hD K hK
                  have h4 : a.tmps[4]?.getD undef = .pointer (some ⟨p4, 0, none⟩) := hF 4 (by kernel_rfl)
                  clear hF hD
                  go_simp
                  exact hK.out _ _ (Kp.refl _) rfl
                · intro a w' hk hF hD K hK
                  have h77 : a.tmps[77]?.getD undef = .pointer (some ⟨p4, 1, none⟩) := hD 1 (by kernel_rfl)
                  clear hF hD
                  have z0 := hk.cellS i1
                  go_simp
                  exact hK.out _ _ (Kp.refl _) rfl
                · intro a w' hk hF hD K hK
                  have h11 : a.tmps[11]?.getD undef = .int .i64 (c : Int) := hF 11 (by kernel_rfl)
                  clear hF hD
                  go_simp
                  exact hK.out _ _ (Kp.refl _) rfl
                · intro a w' hk hF hD K hK
                  have h78 : a.tmps[78]?.getD undef = .slice (some ⟨gb, ob, none⟩) box.length cbv := hD 2 (by kernel_rfl)
                  have h79 : a.tmps[79]?.getD undef = .int .i64 (c : Int) := hD 3 (by kernel_rfl)
                  clear hF hD
                  go_simp
                  exact hK.out _ _ (Kp.refl _) rfl
                · intro a w' hk hF hD K hK
                  have h80 : a.tmps[80]?.getD undef = .pointer (some ⟨gb, ob + c * 2, none⟩) := hD 4 (by kernel_rfl)
                  clear hF hD
                  have z0 := hk.cellS v1
                  have z1 := hk.cellS v2
                  go_simp
                  exact hK.out _ _ (Kp.refl _) rfl
                · exact fun i0 hi0 => by simp at hi0
                intro v w9 k9 hv
                have v0 : v 0 = .agg #[.int .i64 lo, .int .i64 hi] := hv 0 (by omega)
                have v5 : v 5 = .agg #[.int .i64 blo, .int .i64 bhi] := hv 5 (by omega)
                clear hv
                simp only [G2.growPut, G2.gSlot, List.getElem?_toArray, List.getElem?_cons_zero, List.getElem?_cons_succ, Option.bind_some, List.setIfInBounds_toArray, List.set_cons_zero, List.set_cons_succ, List.drop_succ_cons, List.drop_zero, v0, v5]
                replace hI := hI.keep k9
                have BT9 := BT.kp k9 (BT.lt (by simp))
                clear i1 y0 y1 v1 v2 BT
                have y0 := BT9.cell (j := 0) rfl
                have y1 := BT9.cell (j := 1) rfl
                have hyl := BT9.lt (by simp)
                have i0 := hI.b4.cell (j := 0) rfl
                have i1 := hI.b4.cell (j := 1) rfl
                have i2 := hI.b4.cell (j := 2) rfl
                have i3 := hI.b4.cell (j := 3) rfl
                have l4 := hI.b4.lt (by simp)
                cases hne2 : rngNe lo hi blo bhi with
                | false =>
                  have HR4 : Hid (runT B ⟨ss, box, true, fi⟩ (((ts.drop (j + 1)).map fun t => Tsk.row k ⟨ts, bd⟩ t.cell) ++ RS) = F) := hid (by
                    rw [ne_same] at hne2
                    rw [← HR3.out, if_pos (by simpa using hne2)])
                  go_wp2_with fail
                  go_roundw
                  case rel => exact ⟨j + 1, _, _, _, hj1, by go_num, hI, HR4, HBL, hsl⟩
                  case measure => simp [intOf]; omega
                | true =>
                  have HR4 : Hid (runT B (noteX B ⟨ss, box, true, fi⟩ 0 k c ⟨lo, hi⟩) (((ts.drop (j + 1)).map fun t => Tsk.row k ⟨ts, bd⟩ t.cell) ++ RS) = F) := hid (by
                    rw [ne_same] at hne2
                    rw [← HR3.out, if_neg (by simpa using hne2)])
                  clear HR3
                  go_wp2_with fail
                  clear hne2
                  refine (rNote_any B 0 (k : Int) (c : Int) lo hi _ _ ⟨ss, box, true, fi⟩ (fun q => q = p4 ∨ q = p8 ∨ L q) W0 _ hI.pb (fun q e => hLs q e _ (hI.b8.lt (by simp))) (by show ss.length ≤ 65536; omega) (by show box.length ≤ 1000; have := HBL.out; omega) hB).mono ?_
                  rintro e w2 ⟨vs', vb', rfl, hE, fxn, hbk⟩
                  have hI2 := hI.noted hge.1 hge.2.2 hne hE fxn hbk
                  have hnb := noteX_box B ⟨ss, box, true, fi⟩ 0 (k : Int) (c : Int) ⟨lo, hi⟩
                  have hns := noteX_steps (x := ⟨ss, box, true, fi⟩) hsl 0 (k : Int) (c : Int) ⟨lo, hi⟩
                  have b4n := hI.b4.fx fxn (hI.b4.lt (by simp)) (fun e => (hI.blk p4 e).2.1 rfl)
                  generalize noteX B ⟨ss, box, true, fi⟩ 0 (k : Int) (c : Int) ⟨lo, hi⟩ = y at *
                  obtain ⟨As', ns', cs', rfl⟩ := hE.stp.isSl
                  obtain ⟨Ab', cb', rfl, _, _⟩ := hE.bx.here.form
                  obtain ⟨yss, ybox, yo, yf⟩ := y
                  dsimp only at *
                  have f0 := b4n.free (j := 0) (by simp)
                  have f1 := b4n.free (j := 1) (by simp)
                  have f2 := b4n.free (j := 2) (by simp)
                  have f3 := b4n.free (j := 3) (by simp)
                  have d0 := b4n.cell (j := 0) rfl
                  have d1 := b4n.cell (j := 1) rfl
                  have d2 := b4n.cell (j := 2) rfl
                  have d3 := b4n.cell (j := 3) rfl
                  have hl4n := b4n.lt (by simp)
                  clear hI hE b4n hbk
                  replace hnb := hid hnb
                  clear y0 y1 hyl i0 i1 i2 i3 l4 BT9
                  go_upto_region 8 with (fail)
                  generalize (((w2.setCell ⟨p4, 0, none⟩ (.slice As' ns' cs')).setCell ⟨p4, 1, none⟩ (.slice Ab' ybox.length cb')).setCell ⟨p4, 2, none⟩ (.bool yo)).setCell ⟨p4, 3, none⟩ (.bool yf) = w4 at *
                  clear f0 f1 f2 f3 d0 d1 d2 d3 hl4n fxn
                  go_wp2_with fail
                  go_roundw
                  case rel => exact ⟨j + 1, _, _, _, hj1, by go_num, hI2, hid HR4.out, hid (hnb.out.trans HBL.out), hns⟩
                  case measure => simp [intOf]; omega
            · have hjt : ¬ (j : Int) < (ts.length : Int) := by omega
              have HR3 : Hid (runT B ⟨ss, box, o, fi⟩ (rowsT (k + 1) (rows.drop (k + 1)) ++ grsT 0 grs) = F) := hid (by
                rw [← HR.out, List.drop_of_length_le (show ts.length ≤ j by omega), hRS.out]
                rfl)
              have hk1 : k + 1 ≤ rows.length := hlt
              go_wp2_with fail
              go_roundw
              case rel => exact ⟨k + 1, _, _, _, hk1, by go_num, hI, HR3, HBL, hsl⟩
              case measure => simp [intOf]; omega
    · have hkr : ¬ (k : Int) < (rows.length : Int) := by omega
      have HG1 : Hid (runT B x (grsT 0 (grs.drop 0)) = F) := hid (by
        rw [List.drop_zero, ← HR.out, List.drop_of_length_le (show rows.length ≤ k by omega)]
        rfl)
      clear HR
      go_wp2_with fail
      go_loopw [13] (fun i wr => ∃ (k : Nat) (vs vb : Value) (x : PX), k ≤ grs.length ∧ i = .int .i64 (k : Int) ∧ RPI L W0 w vs0 p4 p8 wr vs vb x ∧ Hid (runT B x (grsT k (grs.drop k)) = F) ∧ Hid (x.box.length = n) ∧ x.steps.length ≤ B) (fun i _ => grs.length - (intOf i).toNat)
      case atStart => exact ⟨0, _, _, x, Nat.zero_le _, rfl, hI, HG1, HBL, hsl⟩
      case round =>
        clear hI HG1 HBL hsl hkr hk
        obtain ⟨k, vs, vb, x, hk, rfl, hI, HR, HBL, hsl⟩ := hrel
        by_cases hltg : k < grs.length
        · have hok := hid (hgr _ (List.getElem_mem hltg))
          have HG0 := hid (fun (W : World) (kW : Kp W0 W) => (hg.keep rdGr_stable kW).gr hltg)
          have HR2 : Hid (runT B x (grT k grs[k] ++ grsT (k + 1) (grs.drop (k + 1))) = F) := hid (by rw [← HR.out, grsT_drop hltg])
          obtain ⟨RS, hRS⟩ : ∃ RS, RS = grsT (k + 1) (grs.drop (k + 1)) := ⟨_, rfl⟩
          rw [← hRS] at HR2
          replace hRS := hid hRS
          clear HR
          generalize grs[k] = g at *
          obtain ⟨f, s, hf, hs, hs1, hs6, hfs, hll, h36⟩ := gr_facts hok.out
          obtain ⟨fi0, sz, le⟩ := g
          dsimp only at hf hs hfs hll h36 HG0
          subst hf hs
          have hss : ((s * s : Nat) : Int) = (s : Int) * (s : Int) := by simp
          obtain ⟨m, hm0⟩ : ∃ m, m = s * s := ⟨_, rfl⟩
          rw [← hm0] at hll hfs
          have hm36 : m ≤ 36 := by omega
          have HWM : Hid (IntKind.i64.wrap ((s : Int) * (s : Int)) = (m : Int) ∧ wrap64 ((s : Int) * (s : Int)) = (m : Int)) := hid (by
            rw [← hss, ← hm0]
            rw [← hm0] at hss
            clear hm0
            exact ⟨IntWalk.i64_in _ (by omega), IntWalk.wrap64_in _ (by omega)⟩)
          replace hm0 := hid hm0
          have HLL := hid hll
          have HR' : Hid (runT B x (((List.range le.length).drop 0).map (Tsk.gr k ⟨(f : Int), (s : Int), le⟩) ++ RS) = F) := hid (by rw [List.drop_zero]; exact HR2.out)
          have q1 : (0 : Int) ≤ (k : Int) := by omega
          have q2 : (k : Int) < (grs.length : Int) := by omega
          clear hss hll HR2
          go_wp2_with fail
          go_loopw [14] (fun i wr => ∃ (j : Nat) (vs vb : Value) (x : PX), j ≤ m ∧ i = .int .i64 (j : Int) ∧ RPI L W0 w vs0 p4 p8 wr vs vb x ∧ Hid (runT B x (((List.range le.length).drop j).map (Tsk.gr k ⟨(f : Int), (s : Int), le⟩) ++ RS) = F) ∧ Hid (x.box.length = n) ∧ x.steps.length ≤ B) (fun i _ => m - (intOf i).toNat)
          case atStart => exact ⟨0, _, _, x, Nat.zero_le _, rfl, hI, HR', HBL, hsl⟩
          case round =>
            clear HR' hI HBL hsl
            obtain ⟨j, vs, vb, x, hj, rfl, hI, HR, HBL, hsl⟩ := hrel
            obtain ⟨gg, og, A1, c1, rfl, hgg, r0, r1, r2, r3⟩ := HG0.out _ hI.pb.kp
            obtain ⟨ss, box, o, fi⟩ := x
            obtain ⟨Asv, nsv, csv, rfl⟩ := hI.pb.stp.isSl
            obtain ⟨Abv, cbv, rfl, _, _⟩ := hI.pb.bx.here.form
            dsimp only at *
            go_upto_region 18 with (fail)
            obtain ⟨wm1, wm2⟩ := HWM.out
            refine G2.wp_region_growT Kp [] 12 141 (G2.pvL [G2.eqv (.int .i64 (j : Int)), G2.eqv (.slice (some ⟨gg, og, none⟩) grs.length cg), G2.eqv (.int .i64 (k : Int)), G2.eqv (.pointer (some ⟨gg, og + k * 3, none⟩)), G2.eqv (.pointer (some ⟨gg, og + k * 3 + 1, none⟩)), G2.eqv (.int .i64 (s : Int)), G2.eqv (.slice (some ⟨gg, og, none⟩) grs.length cg), G2.eqv (.int .i64 (k : Int)), G2.eqv (.pointer (some ⟨gg, og + k * 3, none⟩)), G2.eqv (.pointer (some ⟨gg, og + k * 3 + 1, none⟩)), G2.eqv (.int .i64 (s : Int)), G2.eqv (.int .i64 (m : Int))]) (by kernel_rfl) (by kernel_rfl) rfl (fun x => Kp.refl x) (fun _ _ _ h k => h.trans k) (Kp.refl _).drew (fun _ _ _ _ _ h => h) (G2.pvL_keep (G2.stabL_cons (G2.stab_eq _) (G2.stabL_cons (G2.stab_eq _) (G2.stabL_cons (G2.stab_eq _) (G2.stabL_cons (G2.stab_eq _) (G2.stabL_cons (G2.stab_eq _) (G2.stabL_cons (G2.stab_eq _) (G2.stabL_cons (G2.stab_eq _) (G2.stabL_cons (G2.stab_eq _) (G2.stabL_cons (G2.stab_eq _) (G2.stabL_cons (G2.stab_eq _) (G2.stabL_cons (G2.stab_eq _) (G2.stabL_cons (G2.stab_eq _) (G2.stabL_nil)))))))))))))) (G2.stepsT_cons 0 ?_ (G2.stepsT_cons 1 ?_ (G2.stepsT_cons 2 ?_ (G2.stepsT_cons 3 ?_ (G2.stepsT_cons 4 ?_ (G2.stepsT_cons 5 ?_ (G2.stepsT_cons 6 ?_ (G2.stepsT_cons 7 ?_ (G2.stepsT_cons 8 ?_ (G2.stepsT_cons 9 ?_ (G2.stepsT_cons 10 ?_ (G2.stepsT_cons 11 ?_ (G2.stepsT_nil _ _ _))))))))))))) ?_ ?_
            · intro a w' hk hF hD K hK
              have h14 : a.tmps[14]?.getD undef = .int .i64 (j : Int) := hF 14 (by kernel_rfl)
              clear hF hD
              go_simp
              exact hK.out _ _ (Kp.refl _) rfl
            · intro a w' hk hF hD K hK
              have h2 : a.tmps[2]?.getD undef = .slice (some ⟨gg, og, none⟩) grs.length cg := hF 2 (by kernel_rfl)
              clear hF hD
              go_simp
              exact hK.out _ _ (Kp.refl _) rfl
            · intro a w' hk hF hD K hK
              have h13 : a.tmps[13]?.getD undef = .int .i64 (k : Int) := hF 13 (by kernel_rfl)
              clear hF hD
              go_simp
              exact hK.out _ _ (Kp.refl _) rfl
            · intro a w' hk hF hD K hK
              have h96 : a.tmps[96]?.getD undef = .slice (some ⟨gg, og, none⟩) grs.length cg := hD 1 (by kernel_rfl)
              have h97 : a.tmps[97]?.getD undef = .int .i64 (k : Int) := hD 2 (by kernel_rfl)
              clear hF hD
              go_simp
              exact hK.out _ _ (Kp.refl _) rfl
            · intro a w' hk hF hD K hK
              have h98 : a.tmps[98]?.getD undef = .pointer (some ⟨gg, og + k * 3, none⟩) := hD 3 (by kernel_rfl)
              clear hF hD
              go_simp
              exact hK.out _ _ (Kp.refl _) rfl
            · intro a w' hk hF hD K hK
              have h99 : a.tmps[99]?.getD undef = .pointer (some ⟨gg, og + k * 3 + 1, none⟩) := hD 4 (by kernel_rfl)
              clear hF hD
              have z0 := hk.cellS r1
              go_simp
              exact hK.out _ _ (Kp.refl _) rfl
            · intro a w' hk hF hD K hK
              have h2 : a.tmps[2]?.getD undef = .slice (some ⟨gg, og, none⟩) grs.length cg := hF 2 (by kernel_rfl)
              clear hF hD
              go_simp
              exact hK.out _ _ (Kp.refl _) rfl
            · intro a w' hk hF hD K hK
              have h13 : a.tmps[13]?.getD undef = .int .i64 (k : Int) := hF 13 (by kernel_rfl)
              clear hF hD
              go_simp
              exact hK.out _ _ (Kp.refl _) rfl
            · intro a w' hk hF hD K hK
              have h101 : a.tmps[101]?.getD undef = .slice (some ⟨gg, og, none⟩) grs.length cg := hD 6 (by kernel_rfl)
              have h102 : a.tmps[102]?.getD undef = .int .i64 (k : Int) := hD 7 (by kernel_rfl)
              clear hF hD
              go_simp
              exact hK.out _ _ (Kp.refl _) rfl
            · intro a w' hk hF hD K hK
              have h103 : a.tmps[103]?.getD undef = .pointer (some ⟨gg, og + k * 3, none⟩) := hD 8 (by kernel_rfl)
              clear hF hD
              go_simp
              exact hK.out _ _ (Kp.refl _) rfl
            · intro a w' hk hF hD K hK
              have h104 : a.tmps[104]?.getD undef = .pointer (some ⟨gg, og + k * 3 + 1, none⟩) := hD 9 (by kernel_rfl)
              clear hF hD
              have z0 := hk.cellS r1
              go_simp
              exact hK.out _ _ (Kp.refl _) rfl
            · intro a w' hk hF hD K hK
              have h100 : a.tmps[100]?.getD undef = .int .i64 (s : Int) := hD 5 (by kernel_rfl)
              have h105 : a.tmps[105]?.getD undef = .int .i64 (s : Int) := hD 10 (by kernel_rfl)
              clear hF hD
              go_simp
              exact hK.out _ _ (Kp.refl _) rfl
            · exact fun i0 hi0 => by simp at hi0
            intro v w9 k9 hv
            have v0 : v 0 = .int .i64 (j : Int) := hv 0 (by omega)
            have v11 : v 11 = .int .i64 (m : Int) := hv 11 (by omega)
            clear hv
            simp only [G2.growPut, G2.gSlot, List.getElem?_toArray, List.getElem?_cons_zero, List.getElem?_cons_succ, Option.bind_some, List.setIfInBounds_toArray, List.set_cons_zero, List.set_cons_succ, List.drop_succ_cons, List.drop_zero, v0, v11]
            clear wm1 wm2
            replace hI := hI.keep k9
            replace r0 := k9.cellS r0
            replace r1 := k9.cellS r1
            replace r2 := k9.cellS r2
            replace r3 := r3.keep (pl_stable _) k9
            clear k9
            obtain ⟨wo, rfl⟩ : ∃ wo : World, wo = w9 := ⟨_, rfl⟩
            by_cases hlt2 : j < m
            · have hjm : (j : Int) < (m : Int) := by omega
              have hjl : j < le.length := by rw [HLL.out]; exact hlt2
              have hj1 : j + 1 ≤ m := hlt2
              have hcn : f + j < box.length := by have := HBL.out; omega
              have HR2 : Hid (runT B (doT B ⟨ss, box, o, fi⟩ (.gr k ⟨(f : Int), (s : Int), le⟩ j)) (((List.range le.length).drop (j + 1)).map (Tsk.gr k ⟨(f : Int), (s : Int), le⟩) ++ RS) = F) := hid (by rw [← HR.out, grTs_drop hjl]; rfl)
              clear HR
              have HW : Hid (wrap64 ((f : Int) + (j : Int)) = (f : Int) + (j : Int) ∧ IntKind.i64.wrap ((f : Int) + (j : Int)) = (f : Int) + (j : Int)) := hid ⟨IntWalk.wrap64_in _ (by omega), IntWalk.i64_in _ (by omega)⟩
              have i2 := hI.b4.cell (j := 2) rfl
              have l4 := hI.b4.lt (by simp)
              cases o with
              | false =>
                have HR3 : Hid (runT B ⟨ss, box, false, fi⟩ (((List.range le.length).drop (j + 1)).map (Tsk.gr k ⟨(f : Int), (s : Int), le⟩) ++ RS) = F) := hid HR2.out
                obtain ⟨hw1, hw2⟩ := HW.out
                go_wp2_with fail
                clear hw1 hw2
                go_roundw
                case rel => exact ⟨j + 1, _, _, _, hj1, by go_num, hI, HR3, HBL, hsl⟩
                case measure => simp [intOf]; omega
              | true =>
                obtain ⟨R, hR⟩ : ∃ R, R = cutG ⟨(f : Int), (s : Int), le⟩ box j := ⟨_, rfl⟩
                obtain ⟨gb, ob, rfl, hgb, v1, v2⟩ := hI.pb.bx.here.rng hcn
                have hpk : pick box ((f : Int) + (j : Int)) = box[f + j] := by rw [show (f : Int) + (j : Int) = ((f + j : Nat) : Int) by push_cast; rfl]; exact pick_at box (f + j) hcn
                have HR3 : Hid (runT B (if sameR R (pick box ((f : Int) + (j : Int))) then ⟨ss, box, true, fi⟩ else noteX B ⟨ss, box, true, fi⟩ 1 k ((f : Int) + (j : Int)) R) (((List.range le.length).drop (j + 1)).map (Tsk.gr k ⟨(f : Int), (s : Int), le⟩) ++ RS) = F) := hid (by rw [← HR2.out, hR]; rfl)
                rw [hpk] at HR3
                have HT := hid hR.symm
                have hokb := hid (show grOk box.length ⟨(f : Int), (s : Int), le⟩ = true by rw [HBL.out]; exact hok.out)
                have hbl9 : box.length ≤ 1000 := by have := HBL.out; omega
                clear HR2 hpk hR
                generalize box[f + j] = bc at *
                obtain ⟨blo, bhi⟩ := bc
                obtain ⟨lo, hi⟩ := R
                dsimp only at v1 v2
                have hcb : (f : Int) + (j : Int) < (box.length : Int) := by omega
                have hc0 : (0 : Int) ≤ (f : Int) + (j : Int) := by omega
                have hct : ((f : Int) + (j : Int)).toNat = f + j := by omega
                have hjl2 : (j : Int) < (le.length : Int) := by omega
                have i1 := hI.b4.cell (j := 1) rfl
                have r3' := hid r3
                clear r3
                obtain ⟨hw1, hw2⟩ := HW.out
                go_upto_region 22 with (fail)
                clear hw1 hw2
                refine G2.wp_region_growT Kp [] 9 141 (G2.pvL [G2.eqv (.slice (some ⟨gg, og, none⟩) grs.length cg), G2.eqv (.int .i64 (k : Int)), G2.eqv (.pointer (some ⟨gg, og + k * 3, none⟩)), G2.eqv (.agg #[.int .i64 (f : Int), .int .i64 (s : Int), .slice A1 le.length c1]), G2.eqv (.pointer (some ⟨p4, 1, none⟩)), G2.eqv (.slice (some ⟨gb, ob, none⟩) box.length cbv), G2.eqv (.int .i64 (j : Int)), G2.eqv (.agg #[.int .i64 lo, .int .i64 hi]), (fun v w => ∃ p, v = .pointer (some ⟨p, 0, none⟩) ∧ wo.heap.size ≤ p ∧ Bx w p [.int .i64 0, .int .i64 0])]) (by kernel_rfl) (by kernel_rfl) rfl (fun x => Kp.refl x) (fun _ _ _ h k => h.trans k) (Kp.refl _).drew (fun _ _ _ _ _ h => h) (G2.pvL_keep (G2.stabL_cons (G2.stab_eq _) (G2.stabL_cons (G2.stab_eq _) (G2.stabL_cons (G2.stab_eq _) (G2.stabL_cons (G2.stab_eq _) (G2.stabL_cons (G2.stab_eq _) (G2.stabL_cons (G2.stab_eq _) (G2.stabL_cons (G2.stab_eq _) (G2.stabL_cons (G2.stab_eq _) (G2.stabL_cons (fun _ _ _ h hk => h.imp fun _ h => ⟨h.1, h.2.1, h.2.2.kp hk (h.2.2.lt (by simp))⟩) (G2.stabL_nil))))))))))) (G2.stepsT_cons 0 ?_ (G2.stepsT_cons 1 ?_ (G2.stepsT_cons 2 ?_ (G2.stepsT_cons 3 ?_ (G2.stepsT_cons 4 ?_ (G2.stepsT_cons 5 ?_ (G2.stepsT_cons 6 ?_ (G2.stepsT_cons 7 ?_ (G2.stepsT_cons 8 ?_ (G2.stepsT_nil _ _ _)))))))))) ?_ ?_
                · intro a w' hk hF hD K hK
                  have h2 : a.tmps[2]?.getD undef = .slice (some ⟨gg, og, none⟩) grs.length cg := hF 2 (by kernel_rfl)
                  clear hF hD
                  go_simp
                  exact hK.out _ _ (Kp.refl _) rfl
                · intro a w' hk hF hD K hK
                  have h13 : a.tmps[13]?.getD undef = .int .i64 (k : Int) := hF 13 (by kernel_rfl)
                  clear hF hD
                  go_simp
                  exact hK.out _ _ (Kp.refl _) rfl
                · intro a w' hk hF hD K hK
                  have h119 : a.tmps[119]?.getD undef = .slice (some ⟨gg, og, none⟩) grs.length cg := hD 0 (by kernel_rfl)
                  have h120 : a.tmps[120]?.getD undef = .int .i64 (k : Int) := hD 1 (by kernel_rfl)
                  clear hF hD
                  go_simp
                  exact hK.out _ _ (Kp.refl _) rfl
                · intro a w' hk hF hD K hK
                  have h121 : a.tmps[121]?.getD undef = .pointer (some ⟨gg, og + k * 3, none⟩) := hD 2 (by kernel_rfl)
                  clear hF hD
                  have z0 := hk.cellS r0
                  have z1 := hk.cellS r1
                  have z2 := hk.cellS r2
                  go_simp
                  exact hK.out _ _ (Kp.refl _) rfl
                · intro a w' hk hF hD K hK
                  have h4 : a.tmps[4]?.getD undef = .pointer (some ⟨p4, 0, none⟩) := hF 4 (by kernel_rfl)
                  clear hF hD
                  go_simp
                  exact hK.out _ _ (Kp.refl _) rfl
                · intro a w' hk hF hD K hK
                  have h123 : a.tmps[123]?.getD undef = .pointer (some ⟨p4, 1, none⟩) := hD 4 (by kernel_rfl)
                  clear hF hD
                  have z0 := hk.cellS i1
                  go_simp
                  exact hK.out _ _ (Kp.refl _) rfl
                · intro a w' hk hF hD K hK
                  have h14 : a.tmps[14]?.getD undef = .int .i64 (j : Int) := hF 14 (by kernel_rfl)
                  clear hF hD
                  go_simp
                  exact hK.out _ _ (Kp.refl _) rfl
                · intro a w' hk hF hD K hK
                  have h122 : a.tmps[122]?.getD undef = .agg #[.int .i64 (f : Int), .int .i64 (s : Int), .slice A1 le.length c1] := hD 3 (by kernel_rfl)
                  have h124 : a.tmps[124]?.getD undef = .slice (some ⟨gb, ob, none⟩) box.length cbv := hD 5 (by kernel_rfl)
                  have h125 : a.tmps[125]?.getD undef = .int .i64 (j : Int) := hD 6 (by kernel_rfl)
                  clear hF hD
                  go_simp
                  refine (rCut_any _ _ ⟨(f : Int), (s : Int), le⟩ box j _ ⟨A1, c1, rfl, r3'.out.keep (pl_stable _) hk⟩ (hI.pb.bx.fx (hk.fx _)).here hokb.out hbl9 hjl).mono ?_
                  rw [HT.out]
                  rintro e w9 ⟨rfl, hk9⟩
                  exact hK.out _ _ hk9 rfl
                · intro a w' hk hF hD K hK
                  clear hF hD
                  go_simp
                  exact hK.out _ _ ((Kp.refl w').alloc _) ⟨_, rfl, hk.size, Bx.new w' #[.int .i64 0, .int .i64 0] 57⟩
                · exact fun i0 hi0 => by simp at hi0
                intro v w9 k9 hv
                have v8 : (fun v w => ∃ p, v = .pointer (some ⟨p, 0, none⟩) ∧ wo.heap.size ≤ p ∧ Bx w p [.int .i64 0, .int .i64 0]) (v 8) w9 := hv 8 (by omega)
                have v7 : v 7 = .agg #[.int .i64 lo, .int .i64 hi] := hv 7 (by omega)
                clear hv
                obtain ⟨pt, v8', hpt, BT⟩ := v8
                simp only [G2.growPut, G2.gSlot, List.getElem?_toArray, List.getElem?_cons_zero, List.getElem?_cons_succ, Option.bind_some, List.setIfInBounds_toArray, List.set_cons_zero, List.set_cons_succ, List.drop_succ_cons, List.drop_zero, v7, v8']
                have kwa := k9.set (p := ⟨pt, 0, none⟩) hpt (.int .i64 lo)
                have kwb := kwa.set (p := ⟨pt, 1, none⟩) hpt (.int .i64 hi)
                have f0 := BT.free (j := 0) (by simp)
                have f1 := BT.free (j := 1) (by simp)
                have d0 := BT.cell (j := 0) rfl
                have d1 := BT.cell (j := 1) rfl
                have hlt9 := BT.lt (by simp)
                have BT := BT.set2 (.int .i64 lo) (.int .i64 hi)
                replace hI := hI.keep kwb
                replace v1 := kwb.cellS v1
                replace v2 := kwb.cellS v2
                clear i1 i2 l4 k9 r0 r1 r2 kwa kwb
                go_upto_region 23 with (fail)
                generalize (World.setCell _ ⟨pt, 0, none⟩ (.int .i64 lo)).setCell ⟨pt, 1, none⟩ (.int .i64 hi) = wa at *
                clear f0 f1 d0 d1 hlt9
                have y0 := BT.cell (j := 0) rfl
                have y1 := BT.cell (j := 1) rfl
                have i1 := hI.b4.cell (j := 1) rfl
                have hneq := fun W a' b' c' d' => run_neq_rng W a' b' c' d'
                refine G2.wp_region_growT Kp [] 6 141 (G2.pvL [G2.eqv (.agg #[.int .i64 lo, .int .i64 hi]), G2.eqv (.pointer (some ⟨p4, 1, none⟩)), G2.eqv (.slice (some ⟨gb, ob, none⟩) box.length cbv), G2.eqv (.int .i64 ((f : Int) + (j : Int))), G2.eqv (.pointer (some ⟨gb, ob + (f + j) * 2, none⟩)), G2.eqv (.agg #[.int .i64 blo, .int .i64 bhi])]) (by kernel_rfl) (by kernel_rfl) rfl (fun x => Kp.refl x) (fun _ _ _ h k => h.trans k) (Kp.refl _).drew (fun _ _ _ _ _ h => h) (G2.pvL_keep (G2.stabL_cons (G2.stab_eq _) (G2.stabL_cons (G2.stab_eq _) (G2.stabL_cons (G2.stab_eq _) (G2.stabL_cons (G2.stab_eq _) (G2.stabL_cons (G2.stab_eq _) (G2.stabL_cons (G2.stab_eq _) (G2.stabL_nil)))))))) (G2.stepsT_cons 0 ?_ (G2.stepsT_cons 1 ?_ (G2.stepsT_cons 2 ?_ (G2.stepsT_cons 3 ?_ (G2.stepsT_cons 4 ?_ (G2.stepsT_cons 5 ?_ (G2.stepsT_nil _ _ _))))))) ?_ ?_
                · intro a w' hk hF hD K hK
                  have h16 : a.tmps[16]?.getD undef = .pointer (some ⟨pt, 0, none⟩) := hF 16 (by kernel_rfl)
                  clear hF hD
                  have z0 := hk.cellS y0
                  have z1 := hk.cellS y1
                  go_simp
                  exact hK.out _ _ (Kp.refl _) rfl
                · intro a w' hk hF hD K hK
                  have h4 : a.tmps[4]?.getD undef = .pointer (some ⟨p4, 0, none⟩) := hF 4 (by kernel_rfl)
                  clear hF hD
                  go_simp
                  exact hK.out _ _ (Kp.refl _) rfl
                · intro a w' hk hF hD K hK
                  have h128 : a.tmps[128]?.getD undef = .pointer (some ⟨p4, 1, none⟩) := hD 1 (by kernel_rfl)
                  clear hF hD
                  have z0 := hk.cellS i1
                  go_simp
                  exact hK.out _ _ (Kp.refl _) rfl
                · intro a w' hk hF hD K hK
                  have h15 : a.tmps[15]?.getD undef = .int .i64 ((f : Int) + (j : Int)) := hF 15 (by kernel_rfl)
                  clear hF hD
                  go_simp
                  exact hK.out _ _ (Kp.refl _) rfl
                · intro a w' hk hF hD K hK
                  have h129 : a.tmps[129]?.getD undef = .slice (some ⟨gb, ob, none⟩) box.length cbv := hD 2 (by kernel_rfl)
                  have h130 : a.tmps[130]?.getD undef = .int .i64 ((f : Int) + (j : Int)) := hD 3 (by kernel_rfl)
                  clear hF hD
                  go_simp
                  exact hK.out _ _ (Kp.refl _) rfl
                · intro a w' hk hF hD K hK
                  have h131 : a.tmps[131]?.getD undef = .pointer (some ⟨gb, ob + (f + j) * 2, none⟩) := hD 4 (by kernel_rfl)
                  clear hF hD
                  have z0 := hk.cellS v1
                  have z1 := hk.cellS v2
                  go_simp
                  exact hK.out _ _ (Kp.refl _) rfl
                · exact fun i0 hi0 => by simp at hi0
                intro v w9 k9 hv
                have v0 : v 0 = .agg #[.int .i64 lo, .int .i64 hi] := hv 0 (by omega)
                have v5 : v 5 = .agg #[.int .i64 blo, .int .i64 bhi] := hv 5 (by omega)
                clear hv
                simp only [G2.growPut, G2.gSlot, List.getElem?_toArray, List.getElem?_cons_zero, List.getElem?_cons_succ, Option.bind_some, List.setIfInBounds_toArray, List.set_cons_zero, List.set_cons_succ, List.drop_succ_cons, List.drop_zero, v0, v5]
                replace hI := hI.keep k9
                have BT9 := BT.kp k9 (BT.lt (by simp))
                clear i1 y0 y1 v1 v2 BT
                have y0 := BT9.cell (j := 0) rfl
                have y1 := BT9.cell (j := 1) rfl
                have hyl := BT9.lt (by simp)
                have i0 := hI.b4.cell (j := 0) rfl
                have i1 := hI.b4.cell (j := 1) rfl
                have i2 := hI.b4.cell (j := 2) rfl
                have i3 := hI.b4.cell (j := 3) rfl
                have l4 := hI.b4.lt (by simp)
                cases hne2 : rngNe lo hi blo bhi with
                | false =>
                  have HR4 : Hid (runT B ⟨ss, box, true, fi⟩ (((List.range le.length).drop (j + 1)).map (Tsk.gr k ⟨(f : Int), (s : Int), le⟩) ++ RS) = F) := hid (by
                    rw [ne_same] at hne2
                    rw [← HR3.out, if_pos (by simpa using hne2)])
                  go_wp2_with fail
                  go_roundw
                  case rel => exact ⟨j + 1, _, _, _, hj1, by go_num, hI, HR4, HBL, hsl⟩
                  case measure => simp [intOf]; omega
                | true =>
                  have HR4 : Hid (runT B (noteX B ⟨ss, box, true, fi⟩ 1 k ((f : Int) + (j : Int)) ⟨lo, hi⟩) (((List.range le.length).drop (j + 1)).map (Tsk.gr k ⟨(f : Int), (s : Int), le⟩) ++ RS) = F) := hid (by
                    rw [ne_same] at hne2
                    rw [← HR3.out, if_neg (by simpa using hne2)])
                  clear HR3
                  go_wp2_with fail
                  clear hne2
                  refine (rNote_any B 1 (k : Int) ((f : Int) + (j : Int)) lo hi _ _ ⟨ss, box, true, fi⟩ (fun q => q = p4 ∨ q = p8 ∨ L q) W0 _ hI.pb (fun q e => hLs q e _ (hI.b8.lt (by simp))) (by show ss.length ≤ 65536; omega) (by show box.length ≤ 1000; have := HBL.out; omega) hB).mono ?_
                  rintro e w2 ⟨vs', vb', rfl, hE, fxn, hbk⟩
                  have hI2 := hI.noted hge.1 hge.2.2 hne hE fxn hbk
                  have hnb := noteX_box B ⟨ss, box, true, fi⟩ 1 (k : Int) ((f : Int) + (j : Int)) ⟨lo, hi⟩
                  have hns := noteX_steps (x := ⟨ss, box, true, fi⟩) hsl 1 (k : Int) ((f : Int) + (j : Int)) ⟨lo, hi⟩
                  have b4n := hI.b4.fx fxn (hI.b4.lt (by simp)) (fun e => (hI.blk p4 e).2.1 rfl)
                  generalize noteX B ⟨ss, box, true, fi⟩ 1 (k : Int) ((f : Int) + (j : Int)) ⟨lo, hi⟩ = y at *
                  obtain ⟨As', ns', cs', rfl⟩ := hE.stp.isSl
                  obtain ⟨Ab', cb', rfl, _, _⟩ := hE.bx.here.form
                  obtain ⟨yss, ybox, yo, yf⟩ := y
                  dsimp only at *
                  have f0 := b4n.free (j := 0) (by simp)
                  have f1 := b4n.free (j := 1) (by simp)
                  have f2 := b4n.free (j := 2) (by simp)
                  have f3 := b4n.free (j := 3) (by simp)
                  have d0 := b4n.cell (j := 0) rfl
                  have d1 := b4n.cell (j := 1) rfl
                  have d2 := b4n.cell (j := 2) rfl
                  have d3 := b4n.cell (j := 3) rfl
                  have hl4n := b4n.lt (by simp)
                  clear hI hE b4n hbk
                  replace hnb := hid hnb
                  clear y0 y1 hyl i0 i1 i2 i3 l4 BT9
                  go_upto_region 19 with (fail)
                  generalize (((w2.setCell ⟨p4, 0, none⟩ (.slice As' ns' cs')).setCell ⟨p4, 1, none⟩ (.slice Ab' ybox.length cb')).setCell ⟨p4, 2, none⟩ (.bool yo)).setCell ⟨p4, 3, none⟩ (.bool yf) = w4 at *
                  clear f0 f1 f2 f3 d0 d1 d2 d3 hl4n fxn
                  go_wp2_with fail
                  go_roundw
                  case rel => exact ⟨j + 1, _, _, _, hj1, by go_num, hI2, hid HR4.out, hid (hnb.out.trans HBL.out), hns⟩
                  case measure => simp [intOf]; omega
            · have hjt : ¬ (j : Int) < (m : Int) := by omega
              have HR3 : Hid (runT B ⟨ss, box, o, fi⟩ (grsT (k + 1) (grs.drop (k + 1))) = F) := hid (by
                rw [← HR.out, List.drop_of_length_le (show (List.range le.length).length ≤ j by rw [List.length_range, HLL.out]; omega), hRS.out]
                rfl)
              have hk1 : k + 1 ≤ grs.length := hltg
              go_wp2_with fail
              go_roundw
              case rel => exact ⟨k + 1, _, _, _, hk1, by go_num, hI, HR3, HBL, hsl⟩
              case measure => simp [intOf]; omega
        · have hkg : ¬ (k : Int) < (grs.length : Int) := by omega
          have HX : Hid (x = F) := hid (by
            rw [← HR.out, List.drop_of_length_le (show grs.length ≤ k by omega)]
            rfl)
          obtain rfl := HX.out
          obtain ⟨Asv, nsv, csv, rfl⟩ := hI.pb.stp.isSl
          obtain ⟨Abv, cbv, rfl, _, _⟩ := hI.pb.bx.here.form
          have i0 := hI.b4.cell (j := 0) rfl
          have i1 := hI.b4.cell (j := 1) rfl
          have i2 := hI.b4.cell (j := 2) rfl
          have i3 := hI.b4.cell (j := 3) rfl
          have l4 := hI.b4.lt (by simp)
          have f0 := hI.b8.free (j := 0) (by simp)
          have f1 := hI.b8.free (j := 1) (by simp)
          have f2 := hI.b8.free (j := 2) (by simp)
          have f3 := hI.b8.free (j := 3) (by simp)
          have d0 := hI.b8.cell (j := 0) rfl
          have d1 := hI.b8.cell (j := 1) rfl
          have d2 := hI.b8.cell (j := 2) rfl
          have d3 := hI.b8.cell (j := 3) rfl
          have l8 := hI.b8.lt (by simp)
          have BE := hI.b8.all (cs := [.slice Asv nsv csv, .slice Abv x.box.length cbv, .bool x.opn, .bool x.fine]) rfl
          replace HBL := hid HBL
          clear HR
          go_wp2
          change bodyPost _ _ _ _ _ (World.setCells _ p8 0 [.slice Asv nsv csv, .slice Abv x.box.length cbv, .bool x.opn, .bool x.fine])
          refine bodyPost_ret (results_cell_bx rfl _ _ p8 [.slice Asv nsv csv, .slice Abv x.box.length cbv, .bool x.opn, .bool x.fine] _ rfl BE.range Tryz.underlying96 rfl (by kernel_rfl)) rfl ?_
          have kS : Fx (fun q => q = p8) wr (World.setCells wr p8 0 [.slice Asv nsv csv, .slice Abv x.box.length cbv, .bool x.opn, .bool x.fine]) := setsFx p8 0 _ _ (Fx.refl _ _) (.inl rfl)
          rw [← hvs0.out]
          refine ⟨_, _, rfl, ⟨kS.kp_of hI.pb.kp (fun q e => by have h1 : q = p8 := e; have h2 := hge.2.1; have h3 := hge.2.2; have h4 := hw0; omega), hI.pb.stp.fx kS (fun q hq e => (hI.blk q hq).2.2 e), (hI.pb.bx.fx (kS.mono fun q _ e => .inr (.inr (.inl e)))).mono fun q e => ?_⟩, hI.fx.thru kS (fun q h1 e => ?_), fun q hq => ?_⟩
          · rcases e with e | e
            · exact .inl e
            · exact .inr (.inr (.inr e))
          · have h2 : q = p8 := e
            have h3 := hge.2.1
            omega
          · exact (hI.blk q hq).1
end Go.Proofs.YtlbhidiliogflaaGreat
