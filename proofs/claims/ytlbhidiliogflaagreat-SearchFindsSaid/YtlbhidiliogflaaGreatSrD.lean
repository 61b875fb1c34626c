
/-
Search, the reference: Run, Propagate: the walks.
-/
import Derived.Test.YtlbhidiliogflaaGreatSrC
import Derived.Test.YtlbhidiliogflaaGreatSeX
import Derived.Deep.LoopGhost
namespace Go.Proofs.YtlbhidiliogflaaGreat
set_option linter.unusedSimpArgs false
set_option linter.unusedVariables false
open Go.RowKit

theorem doT_box (B : Nat) (x : PX) (t : Tsk) : (doT B x t).box.length = x.box.length := by
  cases t <;> simp only [doT] <;> repeat' split
  all_goals first | rfl | exact noteX_box ..
theorem doT_steps {B : Nat} {x : PX} (h : x.steps.length ≤ B) (t : Tsk) : (doT B x t).steps.length ≤ B := by
  cases t <;> simp only [doT] <;> repeat' split
  all_goals first | exact h | exact noteX_steps h ..
theorem runT_box (B : Nat) : ∀ (l : List Tsk) (x : PX), (runT B x l).box.length = x.box.length
  | [], _ => rfl
  | t :: l, x => by
    rw [runT_cons, runT_box B l, doT_box]
theorem runT_steps {B : Nat} : ∀ (l : List Tsk) {x : PX}, x.steps.length ≤ B → (runT B x l).steps.length ≤ B
  | [], _, h => h
  | t :: l, x, h => by
    rw [runT_cons]
    exact runT_steps l (doT_steps h t)
set_option maxRecDepth 8000 in
set_option maxHeartbeats 8000000 in
theorem rRun_any (B n : Nat) (vb vr vg : Value) (box : List Rng) (rows : List Row) (grs : List Gr) (w : World) (hb : Rngs w vb box) (hr : RowsL w vr rows) (hg : GrsL w vg grs) (hbl : box.length = n) (hn : n ≤ 128) (hB : B ≤ 65536)
    (hfr : ∀ r ∈ rows, fitsB n r = true) (hgr : ∀ g ∈ grs, grOk n g = true) :
    Calls Tryz.prog 49 #[vb, vr, vg, .int .i64 (B : Int)] w fun e w' => ∃ vs' vb', e = .returned (.agg #[vs', vb', .bool (runB B rows grs box).opn, .bool (runB B rows grs box).fine]) ∧ Kp w w' ∧ Own encStp 54 3 w.heap.size w' vs' (runB B rows grs box).steps ∧ Rngs w' vb' (runB B rows grs box).box := by
  obtain ⟨Ab, cb, rfl, hcb, hmb⟩ := hb.form
  obtain ⟨Ar, cr, rfl, hcr, hmr⟩ := hr.form
  obtain ⟨Ag, cg, rfl, hcg, hmg⟩ := hg.form
  obtain ⟨F, hF⟩ : ∃ F, runB B rows grs box = F := ⟨_, rfl⟩
  rw [hF]
  unfold runB at hF
  have HF := hid hF
  have hwl : withL box (-1) ⟨0, 0⟩ = box := by
    unfold withL
    rw [if_neg (by omega)]
  have hw := rWith_any _ box (-1) 0 0 (w.alloc (.cells #[.slice none 0 0, .slice none 0 0, .bool false, .bool false] 96)) (hb.keep (pl_stable _) ((Kp.refl w).alloc (.cells #[.slice none 0 0, .slice none 0 0, .bool false, .bool false] 96))) (by omega)
  rw [hwl] at hw
  have HW := hid hw
  have HBL := hid hbl
  clear hw hwl hF hbl
  have k8 := (Kp.refl w).alloc (.cells #[.slice none 0 0, .slice none 0 0, .bool false, .bool false] 96)
  have B8 := Bx.new w #[.slice none 0 0, .slice none 0 0, .bool false, .bool false] 96
  have z8 := World.size_alloc w (.cells #[.slice none 0 0, .slice none 0 0, .bool false, .bool false] 96)
  go_enter Tryz.func49, Tryz.ntmps49
  go_wp2_with fail
  generalize w.alloc (.cells #[.slice none 0 0, .slice none 0 0, .bool false, .bool false] 96) = w1 at *
  refine HW.out.mono ?_
  rintro e w2 ⟨v1, rfl, own1, k2⟩
  obtain ⟨A1, n1, c1, rfl⟩ := own1.isSl
  have k3 := (Kp.refl w2).alloc (.cells #[.slice none 0 0, .slice A1 n1 c1, .bool true, .bool true] 96)
  have B9 := Bx.new w2 #[.slice none 0 0, .slice A1 n1 c1, .bool true, .bool true] 96
  have hg1 := own1.ge
  have hl1 := own1.blk_lt
  have hl8 := B8.lt (by simp)
  have B8' := (B8.kp k2 hl8).kp k3 (Nat.lt_of_lt_of_le hl8 k2.size)
  obtain ⟨p8, hp8⟩ : ∃ p8, p8 = w.heap.size := ⟨_, rfl⟩
  obtain ⟨p9, hp9⟩ : ∃ p9, p9 = w2.heap.size := ⟨_, rfl⟩
  rw [← hp8] at B8'
  rw [← hp9] at B9
  have hs2 := k2.size
  have hne : p8 ≠ p9 ∧ w.heap.size ≤ p8 ∧ w.heap.size ≤ p9 := by omega
  have hPB : PB (fun q => q = p9 ∨ q = p8) w (w2.alloc (.cells #[.slice none 0 0, .slice A1 n1 c1, .bool true, .bool true] 96)) (.slice none 0 0) (.slice A1 n1 c1) ⟨[], box, true, true⟩ :=
    ⟨(k8.trans k2).trans k3, Own.nil _ _ _ _ _, fun W kW => ((own1.kp k3).fx kW (fun q hq e => by
      have h1 := hg1 q hq
      have h2 := hl1 q hq
      rcases e with e | e | e
      · simp [Value.ownBlock] at e
      · omega
      · omega)).sl encRng_len⟩
  clear B8 own1 k2 k3 hl8 k8
  go_upto_region 2 with (fail)
  rw [← hp8, ← hp9]
  generalize w2.alloc (.cells #[.slice none 0 0, .slice A1 n1 c1, .bool true, .bool true] 96) = w3 at *
  replace hp8 := hid hp8
  replace hp9 := hid hp9
  replace z8 := hid z8
  clear hg1 hl1 hs2
  go_loopg [10] (B + 1) (fun gk v wr => ∃ (N : Nat) (vs vb : Value) (x : PX), PB (fun q => q = p9 ∨ q = p8) w wr vs vb x ∧ Bx wr p9 [vs, vb, .bool true, .bool true] ∧ Bx wr p8 [.slice none 0 0, .slice none 0 0, .bool false, .bool false] ∧ (∀ q, vs.ownBlock = some q → q ≠ p8 ∧ q ≠ p9) ∧ Hid (runX B rows grs N x = F) ∧
    x.opn = true ∧ x.fine = true ∧ x.steps.length ≤ B ∧ Hid (x.box.length = n) ∧ B - x.steps.length < N ∧ B - x.steps.length < gk)
  case atStart => exact ⟨B + 1, _, _, ⟨[], box, true, true⟩, hPB, B9, B8', fun q hq => by simp [Value.ownBlock] at hq, HF, rfl, rfl, Nat.zero_le _, HBL, by simp, by simp⟩
  case round =>
    clear hPB B9 B8' HF HBL
    obtain ⟨N, vs, vb, x, hP, b9, b8, hblk, HX, ho, hfi, hsl, HBL, hN, hgk⟩ := hrel
    obtain ⟨ss, bx, o, fi⟩ := x
    dsimp only at ho hfi hsl HBL hN hgk
    subst ho hfi
    obtain ⟨Asv, csv, rfl, _, _⟩ := hP.stp.form
    obtain ⟨Abv, cbv, rfl, _, _⟩ := hP.bx.here.form
    obtain ⟨M, rfl⟩ : ∃ M, N = M + 1 := ⟨N - 1, by omega⟩
    have i0 := b9.cell (j := 0) rfl
    have i1 := b9.cell (j := 1) rfl
    have i2 := b9.cell (j := 2) rfl
    have i3 := b9.cell (j := 3) rfl
    have l9 := b9.lt (by simp)
    have l8 := b8.lt (by simp)
    have hPA := hid (rPass_any B n (.slice Asv ss.length csv) (.slice Abv bx.length cbv) _ _ ⟨ss, bx, true, true⟩ rows grs (fun q => q = p9 ∨ q = p8) w wr hP (fun q e => by rcases e with e | e <;> omega) hr hg hsl HBL.out hn hB hfr hgr)
    dsimp only at i0 i1
    replace hN := hid hN
    replace hgk := hid hgk
    replace hblk := hid hblk
    obtain ⟨y, hy⟩ : ∃ y, Hid (runT B ⟨ss, bx, true, true⟩ (tasks rows grs) = y) := ⟨_, hid rfl⟩
    have hyl := runT_len B (tasks rows grs) ⟨ss, bx, true, true⟩
    have hyb := runT_box B (tasks rows grs) ⟨ss, bx, true, true⟩
    have hys := runT_steps (tasks rows grs) (x := ⟨ss, bx, true, true⟩) hsl
    rw [hy.out] at hPA hyl hyb hys
    dsimp only at hyl hyb
    go_wp2_with fail
    refine hPA.out.mono ?_
    rintro e w4 ⟨vs', vb', rfl, hE, fxn, hbk⟩
    obtain ⟨As', cs', rfl, _, _⟩ := hE.stp.form
    obtain ⟨Ab', cb', rfl, _, _⟩ := hE.bx.here.form
    have hb4 := b9.fx fxn l9 (fun e => (hblk.out p9 e).2 rfl)
    have hblk' : ∀ q, (Value.slice As' y.steps.length cs').ownBlock = some q → q ≠ p8 ∧ q ≠ p9 := fun q hq => by
      rcases hbk q hq with e | e
      · exact hblk.out q e
      · omega
    have b9n := hb4.put4 (.slice As' y.steps.length cs') (.slice Ab' y.box.length cb') (.bool y.opn) (.bool y.fine)
    have gx := fx_put4 w4 p9 (.slice As' y.steps.length cs') (.slice Ab' y.box.length cb') (.bool y.opn) (.bool y.fine)
    have b8n := (b8.fx fxn l8 (fun e => (hblk.out p8 e).1 rfl)).fx gx (Nat.lt_of_lt_of_le l8 fxn.size) hne.1
    have hPn : PB (fun q => q = p9 ∨ q = p8) w _ (.slice As' y.steps.length cs') (.slice Ab' y.box.length cb') y := ⟨gx.kp_of hE.kp (fun q e => by rw [e]; exact hne.2.2), hE.stp.fx gx (fun q hq e => (hblk' q hq).2 e), hE.bx.fx (gx.mono fun q _ e => .inr (.inl e))⟩
    have f0 := hb4.free (j := 0) (by simp)
    have f1 := hb4.free (j := 1) (by simp)
    have f2 := hb4.free (j := 2) (by simp)
    have f3 := hb4.free (j := 3) (by simp)
    have d0 := hb4.cell (j := 0) rfl
    have d1 := hb4.cell (j := 1) rfl
    have d2 := hb4.cell (j := 2) rfl
    have d3 := hb4.cell (j := 3) rfl
    have l4 := hb4.lt (by simp)
    replace hblk' := hid hblk'
    replace hyl := hid hyl
    replace hyb := hid hyb
    replace hys := hid hys
    clear hP b9 b8 hE gx hb4 hbk fxn i0 i1 i2 i3 hPA l9 l8
    go_upto_region 4 with (fail)
    generalize (((w4.setCell ⟨p9, 0, none⟩ (.slice As' y.steps.length cs')).setCell ⟨p9, 1, none⟩ (.slice Ab' y.box.length cb')).setCell ⟨p9, 2, none⟩ (.bool y.opn)).setCell ⟨p9, 3, none⟩ (.bool y.fine) = w5 at *
    clear f0 f1 f2 f3 d0 d1 d2 d3 l4
    have i0 := b9n.cell (j := 0) rfl
    have i1 := b9n.cell (j := 1) rfl
    have i2 := b9n.cell (j := 2) rfl
    have i3 := b9n.cell (j := 3) rfl
    have l9 := b9n.lt (by simp)
    cases ho : y.opn with
    | false =>
      have HY : Hid (F = y) := hid (by rw [← HX.out]; exact runX_stop hy.out (.inl ho))
      rw [ho] at i2
      have f0 := b8n.free (j := 0) (by simp)
      have f1 := b8n.free (j := 1) (by simp)
      have f2 := b8n.free (j := 2) (by simp)
      have f3 := b8n.free (j := 3) (by simp)
      have d0 := b8n.cell (j := 0) rfl
      have d1 := b8n.cell (j := 1) rfl
      have d2 := b8n.cell (j := 2) rfl
      have d3 := b8n.cell (j := 3) rfl
      have l8 := b8n.lt (by simp)
      have BE := b8n.all (cs := [.slice As' y.steps.length cs', .slice Ab' y.box.length cb', .bool false, .bool y.fine]) rfl
      go_wp2
      change bodyPost _ _ _ _ _ (w5.setCells p8 0 [.slice As' y.steps.length cs', .slice Ab' y.box.length cb', .bool false, .bool y.fine])
      refine bodyPost_ret (results_cell_bx rfl _ _ p8 [.slice As' y.steps.length cs', .slice Ab' y.box.length cb', .bool false, .bool y.fine] _ rfl BE.range Tryz.underlying96 rfl (by kernel_rfl)) rfl ?_
      have kS : Fx (fun q => q = p8) w5 (w5.setCells p8 0 [.slice As' y.steps.length cs', .slice Ab' y.box.length cb', .bool false, .bool y.fine]) := setsFx p8 0 _ _ (Fx.refl _ _) (.inl rfl)
      rw [HY.out]
      refine ⟨_, _, by rw [ho], kS.kp_of hPn.kp (fun q e => by rw [e]; exact hne.2.1), hPn.stp.fx kS (fun q hq e => (hblk'.out q hq).1 e), (hPn.bx.fx (kS.mono fun q _ e => .inr (.inr e))).here⟩
    | true =>
      by_cases hq : y.steps.length = ss.length
      · have HY : Hid (F = y) := hid (by rw [← HX.out]; exact runX_stop hy.out (.inr hq))
        have e1 : ((y.steps.length : Int) == (ss.length : Int)) = true := by rw [hq]; simp
        rw [ho] at i2
        replace hq := hid hq
        have f0 := b8n.free (j := 0) (by simp)
        have f1 := b8n.free (j := 1) (by simp)
        have f2 := b8n.free (j := 2) (by simp)
        have f3 := b8n.free (j := 3) (by simp)
        have d0 := b8n.cell (j := 0) rfl
        have d1 := b8n.cell (j := 1) rfl
        have d2 := b8n.cell (j := 2) rfl
        have d3 := b8n.cell (j := 3) rfl
        have l8 := b8n.lt (by simp)
        have BE := b8n.all (cs := [.slice As' y.steps.length cs', .slice Ab' y.box.length cb', .bool true, .bool y.fine]) rfl
        go_wp2
        change bodyPost _ _ _ _ _ (w5.setCells p8 0 [.slice As' y.steps.length cs', .slice Ab' y.box.length cb', .bool true, .bool y.fine])
        refine bodyPost_ret (results_cell_bx rfl _ _ p8 [.slice As' y.steps.length cs', .slice Ab' y.box.length cb', .bool true, .bool y.fine] _ rfl BE.range Tryz.underlying96 rfl (by kernel_rfl)) rfl ?_
        have kS : Fx (fun q => q = p8) w5 (w5.setCells p8 0 [.slice As' y.steps.length cs', .slice Ab' y.box.length cb', .bool true, .bool y.fine]) := setsFx p8 0 _ _ (Fx.refl _ _) (.inl rfl)
        rw [HY.out]
        refine ⟨_, _, by rw [ho], kS.kp_of hPn.kp (fun q e => by rw [e]; exact hne.2.1), hPn.stp.fx kS (fun q hq e => (hblk'.out q hq).1 e), (hPn.bx.fx (kS.mono fun q _ e => .inr (.inr e))).here⟩
      · have e1 : ((y.steps.length : Int) == (ss.length : Int)) = false := by simpa using fun h => hq (Int.ofNat.inj h)
        have e1' : (y.steps.length == ss.length) = false := by simpa using hq
        have HX2 : Hid (runX B rows grs M y = F) := hid (by rw [← HX.out]; exact (runX_go hy.out ho hq).symm)
        have hyf : y.fine = true := by
          cases h : y.fine with
          | true => rfl
          | false => have := hyl.out.2 h trivial; rw [ho] at this; cases this
        have hM : B - y.steps.length < M ∧ B - y.steps.length < B - ss.length := by
          have h1 := hyl.out.1
          have h2 := hys.out
          have h3 := hN.out
          omega
        have hBLy := hid (hyb.out.trans HBL.out)
        rw [ho] at i2 b9n
        rw [hyf] at b9n i3
        have hg : B - y.steps.length < B - ss.length := hM.2
        replace hM := hid hM
        replace hq := hid hq
        go_wp2_with fail
        go_roundg (B - ss.length)
        case measure => exact hgk.out
        case rel => exact ⟨M, _, _, y, hPn, b9n, b8n, hblk'.out, HX2, ho, hyf, hys.out, hBLy, hM.out.1, hg⟩
end Go.Proofs.YtlbhidiliogflaaGreat
