
/-
The reference's Branch: the walk.
-/
import Derived.Test.YtfllmnaillilhaaSys19
import Derived.Test.YtfllmnaillilhaaTC
import Derived.Test.YtfllmnaillilhaaGrow2
namespace Go.Proofs.Ytfllmnaillilhaa
set_option linter.unusedSimpArgs false
set_option linter.unusedVariables false
open Go.RowKit

/-- what the operations of the round's statement yield -/
def brPV (bo g4 gr ix k : Nat) (RS SV SR R : Value) (el : Elm 2) : Nat → Value → World → Prop
  | 0, v, _ => v = .pointer (some ⟨bo, 1, none⟩)
  | 1, v, _ => v = RS
  | 2, v, _ => v = .pointer (some ⟨bo, 3, none⟩)
  | 3, v, _ => v = SV
  | 4, v, _ => v = .int .i64 ix
  | 5, v, _ => v = .pointer (some ⟨g4, ix, none⟩)
  | 6, v, _ => v = SR
  | 7, v, _ => v = .int .i64 k
  | 8, v, _ => v = .pointer (some ⟨gr, k * 2, none⟩)
  | 9, v, _ => v = R
  | 10, v, w => ∃ p : Nat, v = .slice (some ⟨p, 0, none⟩) 1 1 ∧ Sl (Pl encC) 2 w (.slice (some ⟨p, 0, none⟩) 1 1) [el]
  | _, _, _ => True
theorem brPV_keep (bo g4 gr ix k : Nat) (RS SV SR R : Value) (el : Elm 2) (j : Nat) (v : Value) (w1 w2 : World) (h : brPV bo g4 gr ix k RS SV SR R el j v w1) (hk : Kp w1 w2) : brPV bo g4 gr ix k RS SV SR R el j v w2 := by
  match j, h with
  | 0, h | 1, h | 2, h | 3, h | 4, h | 5, h | 6, h | 7, h | 8, h | 9, h => exact h
  | 10, h =>
    obtain ⟨p, e, o⟩ := h
    exact ⟨p, e, o.keep (pl_stable _) hk⟩
  | n + 11, _ => trivial
set_option maxRecDepth 8000 in
set_option maxHeartbeats 16000000 in
theorem qBranch_any (va : Value) (s : Sys) (x : Int) (w : World) (hs : SysV w va s) :
    Calls Try.prog 32 #[va, .int .i64 x] w fun e w' => ∃ v, e = .returned (.tuple #[v, .int .i64 (BranchR s x).2]) ∧ SysV w' v (BranchR s x).1 ∧ Kp w w' := by
  have hs' := hs
  obtain ⟨Ab, cb, Ar, cr, Ag, cg, Ac, cc, rfl, hb, hr, hg, hc⟩ := hs'
  obtain ⟨l1, m1⟩ := hb.caps
  obtain ⟨l2, m2⟩ := hr.caps
  obtain ⟨l3, m3⟩ := hg.caps
  obtain ⟨l4, m4⟩ := hc.caps
  have k0 := ((Kp.refl w).alloc (.cells #[.slice Ab s.box.length cb, .slice Ar s.rows.length cr, .slice Ag s.graphs.length cg, .slice Ac s.cases.length cc] 27)).alloc (.cells #[.slice none 0 0, .slice none 0 0, .slice none 0 0, .slice none 0 0] 27)
  have B0 := (SysB.new w #[.slice Ab s.box.length cb, .slice Ar s.rows.length cr, .slice Ag s.graphs.length cg, .slice Ac s.cases.length cc] 27).keep ((Kp.refl _).alloc (.cells #[.slice none 0 0, .slice none 0 0, .slice none 0 0, .slice none 0 0] 27))
  have hR := Bx.new (w.alloc (.cells #[.slice Ab s.box.length cb, .slice Ar s.rows.length cr, .slice Ag s.graphs.length cg, .slice Ac s.cases.length cc] 27)) #[.slice none 0 0, .slice none 0 0, .slice none 0 0, .slice none 0 0] 27
  rw [World.size_alloc] at hR
  have hzw : ((w.alloc (.cells #[.slice Ab s.box.length cb, .slice Ar s.rows.length cr, .slice Ag s.graphs.length cg, .slice Ac s.cases.length cc] 27)).alloc (.cells #[.slice none 0 0, .slice none 0 0, .slice none 0 0, .slice none 0 0] 27)).heap.size = w.heap.size + 2 := by simp
  go_enter Try.func32, Try.ntmps32
  go_wp2_with fail
  generalize (w.alloc (.cells #[.slice Ab s.box.length cb, .slice Ar s.rows.length cr, .slice Ag s.graphs.length cg, .slice Ac s.cases.length cc] 27)).alloc (.cells #[.slice none 0 0, .slice none 0 0, .slice none 0 0, .slice none 0 0] 27) = w0 at *
  generalize hbw : w.heap.size = b at *
  replace hbw := hid hbw
  replace hzw := hid hzw
  refine (qValid_any _ s _ (hs.keep k0)).mono ?_
  rintro e w1 ⟨rfl, k1⟩
  have hb1 : b + 1 < w1.heap.size := by have := k1.size; have := hzw.out; omega
  have hR1 := hR.kp k1 (by have := hzw.out; omega)
  replace B0 := B0.keep k1
  have hz1 : b + 2 ≤ w1.heap.size := by have := k1.size; have := hzw.out; omega
  replace k1 := k0.trans k1
  obtain ⟨c0, c1, c2, c3⟩ := B0.cells
  have hgl := block_lt_of_cell c0
  cases hV : validS s with
  | false =>
    have HN : Hid (BranchR s x = (zSys, 1)) := hid (by unfold BranchR; rw [hV]; rfl)
    have hRx := hR1
    have kx := k1
    clear hV hR1
    have f0 := hRx.free (j := 0) (by simp)
    have f1 := hRx.free (j := 1) (by simp)
    have f2 := hRx.free (j := 2) (by simp)
    have f3 := hRx.free (j := 3) (by simp)
    have y0 := hRx.cell (j := 0) rfl
    have y1 := hRx.cell (j := 1) rfl
    have y2 := hRx.cell (j := 2) rfl
    have y3 := hRx.cell (j := 3) rfl
    have hBF := hRx.set4 (.slice none 0 0) (.slice none 0 0) (.slice none 0 0) (.slice none 0 0)
    have kF := Kg.to_kp kx (Kg.set4 w1 (b + 1) (.slice none 0 0) (.slice none 0 0) (.slice none 0 0) (.slice none 0 0)) (by have := hbw.out; omega)
    clear hRx hR
    go_wp2
    refine bodyPost_ret (results_cell_bx2 rfl _ _ (b + 1) [.slice none 0 0, .slice none 0 0, .slice none 0 0, .slice none 0 0] _ rfl hBF.range Try.underlying27 rfl (by kernel_rfl)) rfl ?_
    exact ⟨_, by rw [HN.out]; rfl, by rw [HN.out]; exact zSys_v _, kF⟩
  | true =>
    by_cases hx : 0 ≤ x ∧ x < s.cases.length
    · obtain ⟨i, rfl⟩ := Int.eq_ofNat_of_zero_le hx.1
      have hi : i < s.cases.length := by omega
      have e1 : decide ((i : Int) < 0) = false := decide_eq_false (by omega)
      have e2 : decide ((s.cases.length : Int) ≤ (i : Int)) = false := decide_eq_false (by omega)
      have e2n : decide (s.cases.length ≤ i) = false := decide_eq_false (by omega)
      obtain ⟨q, o, Ai, ci, rfl, hq, h1', h2'⟩ := (hc.keep rdRows_stable k1).rowsAt hi
      have hgd : s.cases.getD i [] = s.cases[i] := by simp [List.getD, hi]
      have hsz := size_of hV
      have hlc := (hsz.case s.cases[i] (List.getElem_mem hi)).1
      have hlr := hsz.rows
      have HB : Hid (BranchR s (i : Int) = if 1024 < s.rows.length + s.cases[i].length then (zSys, 8) else (⟨s.box, s.rows ++ s.cases[i], s.graphs, []⟩, 0)) := hid (by
        unfold BranchR
        rw [hV, if_pos rfl, if_pos hx, Int.toNat_natCast, hgd])
      obtain ⟨m5, m6⟩ := h2'.caps
      clear hx hgd h2'
      have q1 : (0 : Int) ≤ i := by omega
      have q2 : (i : Int) < s.cases.length := by omega
      go_wp2
      refine wp_region_kw (by kernel_rfl) (by kernel_rfl) ?_
      repeat (go_big_quiet_step (fail))
      refine wpQuiet_nil ?_
      intro _ hw'
      obtain ⟨u, hw''⟩ := hw'
      subst hw''
      have kU := kw_kp w1 u
      replace B0 := B0.keep kU
      have hRx := hR1.kp kU hb1
      have kx := k1.trans kU
      have hzx : b + 2 ≤ (Kw w1 u).heap.size := by have := kU.size; omega
      clear c0 c1 c2 c3 hgl hR1 hz1 hb1 h1' hq k1 e1 e2 e2n
      generalize Kw w1 u = w2 at *
      clear kU
      obtain ⟨c0, c1, c2, c3⟩ := B0.cells
      have hgl := block_lt_of_cell c0
      have hb1 : b + 1 < w2.heap.size := by omega
      by_cases hbig : 1024 < s.rows.length + s.cases[i].length
      · have HN : Hid (BranchR s (i : Int) = (zSys, 8)) := hid (by rw [HB.out, if_pos hbig])
        have e3 : decide ((1024 : Int) < (s.rows.length : Int) + (s.cases[i].length : Int)) = true := decide_eq_true (by omega)
        have e4 : decide (1024 < s.rows.length + s.cases[i].length) = true := decide_eq_true (by omega)
        have f0 := hRx.free (j := 0) (by simp)
        have f1 := hRx.free (j := 1) (by simp)
        have f2 := hRx.free (j := 2) (by simp)
        have f3 := hRx.free (j := 3) (by simp)
        have y0 := hRx.cell (j := 0) rfl
        have y1 := hRx.cell (j := 1) rfl
        have y2 := hRx.cell (j := 2) rfl
        have y3 := hRx.cell (j := 3) rfl
        have hBF := hRx.set4 (.slice none 0 0) (.slice none 0 0) (.slice none 0 0) (.slice none 0 0)
        have kF := Kg.to_kp kx (Kg.set4 w2 (b + 1) (.slice none 0 0) (.slice none 0 0) (.slice none 0 0) (.slice none 0 0)) (by have := hbw.out; omega)
        clear hRx hR
        go_wp2
        refine bodyPost_ret (results_cell_bx2 rfl _ _ (b + 1) [.slice none 0 0, .slice none 0 0, .slice none 0 0, .slice none 0 0] _ rfl hBF.range Try.underlying27 rfl (by kernel_rfl)) rfl ?_
        exact ⟨_, by rw [HN.out]; rfl, by rw [HN.out]; exact zSys_v _, kF⟩
      · have HN : Hid (BranchR s (i : Int) = (⟨s.box, s.rows ++ s.cases[i], s.graphs, []⟩, 0)) := hid (by rw [HB.out, if_neg hbig])
        have e3 : decide ((1024 : Int) < (s.rows.length : Int) + (s.cases[i].length : Int)) = false := decide_eq_false (by omega)
        have e4 : decide (1024 < s.rows.length + s.cases[i].length) = false := decide_eq_false (by omega)
        have hbg : s.rows.length + s.cases[i].length ≤ 1024 := by omega
        clear hbig
        go_wp2_with fail
        refine (qCopySystem_any _ s _ (hs.keep kx) hsz).mono ?_
        rintro e w3 ⟨vb, vr, vg, vc, τ, rfl, hT, hO, k3⟩
        obtain ⟨A1, a1, rfl, _, _⟩ := hO.box.form
        obtain ⟨css, hr0⟩ := hO.rows
        obtain ⟨A2, a2, rfl, _, _⟩ := hr0.form
        obtain ⟨A3, a3, rfl, _, _⟩ := hO.graphs.here.form
        obtain ⟨vs, o4, l4, t4, n4⟩ := hO.cases
        obtain ⟨A4, a4, rfl, _, _⟩ := o4.form
        obtain ⟨vcs, cssc, hvc, hNc⟩ := n4 i (by omega) hi
        obtain ⟨A5, a5, rfl, _, _⟩ := hNc.form
        obtain ⟨g4, rfl, -, hg4⟩ := o4.at_ (by omega)
        have c4 : w3.cell? ⟨g4, i, none⟩ = some (.slice A5 s.cases[i].length a5) := by
          have := o4.cellAt encC_len rfl (k := i) (by omega) (j := 0) (by omega)
          rw [Nat.mul_one, Nat.add_zero] at this
          refine this.trans ?_
          show vs[i].val[0]? = _
          rw [hvc]
          rfl
        have tg4 := t4 g4 rfl
        rw [l4] at hO
        replace l4 := hid l4
        clear o4 t4 n4 hvc
        have kA := (Kp.refl w3).alloc (.cells #[.slice A1 s.box.length a1, .slice A2 s.rows.length a2, .slice A3 s.graphs.length a3, .slice (some ⟨g4, 0, none⟩) vs.length a4] 27)
        rw [l4.out] at kA
        have hB := Bx.new w3 #[.slice A1 s.box.length a1, .slice A2 s.rows.length a2, .slice A3 s.graphs.length a3, .slice (some ⟨g4, 0, none⟩) s.cases.length a4] 27
        have hbo := alloc_lt w3 (.cells #[.slice A1 s.box.length a1, .slice A2 s.rows.length a2, .slice A3 s.graphs.length a3, .slice (some ⟨g4, 0, none⟩) s.cases.length a4] 27)
        have hO4 := hO.kp kA _ hT
        have hr4 := hr0.kp kA
        have hN4 := hNc.kp kA
        replace c4 := kA.cellS c4
        have hR4 := (hRx.kp k3 (by omega)).kp kA (by have := k3.size; omega)
        have k4 := (kx.trans k3).trans kA
        have hτ : τ w3.heap.size = 0 := by
          by_cases h : τ w3.heap.size = 0
          · exact h
          · have := (hT _ h).2
            omega
        have hτb : τ (b + 1) = 0 := by
          by_cases h : τ (b + 1) = 0
          · exact h
          · have := (hT _ h).1
            omega
        have hlo : b + 2 ≤ w3.heap.size := by have := k3.size; omega
        have hTlo := hid (fun q (h : τ q ≠ 0) => (hT q h).1)
        have hTup := hid (fun q (h : τ q ≠ 0) => (hT q h).2)
        have hszA := kA.size
        have hg4 : g4 < (w3.alloc (.cells #[.slice A1 s.box.length a1, .slice A2 s.rows.length a2, .slice A3 s.graphs.length a3, .slice (some ⟨g4, 0, none⟩) s.cases.length a4] 27)).heap.size := by omega
        replace B0 := B0.keep k3
        rw [l4.out]
        clear c0 c1 c2 c3 hgl hO hr0 hNc hRx hR k3 kA hT kx hszA
        obtain ⟨c0, c1, c2, c3⟩ := B0.cells
        have hgl := block_lt_of_cell c0
        go_upto_region 8 with (fail)
        clear c0 c1 c2 c3 hgl B0
        generalize w3.alloc (.cells #[.slice A1 s.box.length a1, .slice A2 s.rows.length a2, .slice A3 s.graphs.length a3, .slice (some ⟨g4, 0, none⟩) s.cases.length a4] 27) = w4 at *
        generalize w3.heap.size = bo at *
        generalize hL : s.cases[i] = L at *
        clear hL
        have hbx := hO4.box
        have hbt := hO4.boxT
        have hgr := hO4.graphs
        have hbo4 : g4 ≠ bo := fun e => by rw [e] at tg4; omega
        have hb14 : g4 ≠ b + 1 := fun e => by rw [e] at tg4; omega
        clear hO4
        replace hbt := hid hbt
        go_wp2
        go_loopw [7] (fun iv wr => ∃ (k : Nat) (css : List (Elm 2)) (out : List Row) (AR : Option Addr) (cR : Nat), k ≤ L.length ∧ iv = .int .i64 k ∧ Bx wr bo [.slice A1 s.box.length a1, .slice AR out.length cR, .slice A3 s.graphs.length a3, .slice (some ⟨g4, 0, none⟩) s.cases.length a4] ∧
          NL rdRow 30 2 (fun q => τ q ≠ 0 ∨ w4.heap.size ≤ q) wr (.slice AR out.length cR) css out ∧ Hid (∀ q, (Value.slice AR out.length cR).ownBlock = some q → τ q = 2 ∨ w4.heap.size ≤ q) ∧ Hid (out = s.rows ++ L.take k) ∧ Kp w wr ∧ w4.heap.size ≤ wr.heap.size ∧ Hid (∀ q, q < w4.heap.size → q ≠ bo → τ q ≠ 2 → wr.heap[q]? = w4.heap[q]?)) (fun iv _ => L.length - (intOf iv).toNat)
        case atStart => exact ⟨0, css, s.rows, A2, a2, Nat.zero_le _, rfl, hB, hr4.mono (fun q hq => .inl (by rw [hq]; omega)), hid (fun q hq => .inl (hr4.blk q hq)), hid (by simp), k4, Nat.le_refl _, hid (fun _ _ _ _ => rfl)⟩
        case round =>
          clear hB hr4 k4
          obtain ⟨k, css, out, AR, cR, hk, rfl, hBr, hNr, hAR, HO, hkw, hzw4, hK⟩ := hrel
          have y3 := hBr.cell (j := 3) rfl
          have hbr : bo < wr.heap.size := by omega
          have c4' := (World.cell?_of_block (hK.out g4 (block_lt_of_cell c4) hbo4 (by rw [tg4]; omega))).trans c4
          have hg4r : g4 < wr.heap.size := by omega
          by_cases hlt : k < L.length
          · have hNc := hN4.step hzw4 (fun q hq hlt => hK.out q hlt (fun e => by rw [e] at hq; omega) (by omega))
            have hcl := hNc.len
            obtain ⟨gr, rfl, -, hgrl⟩ := hNc.own.at_ (by omega)
            have hτr : τ gr = 5 + i := hNc.blk gr rfl
            have hkc : k < cssc.length := by omega
            obtain ⟨T, hTj, hoj⟩ := hNc.els k hkc hlt
            obtain ⟨tv, hcs, ht⟩ := hoj.here
            have cj0 : wr.cell? ⟨gr, k * 2, none⟩ = some tv := by
              have := hNc.own.cellAt encC_len (by omega) hkc (j := 0) (by omega)
              refine this.trans ?_
              show cssc[k].val[0]? = _
              rw [hcs]; rfl
            have cj1 : wr.cell? ⟨gr, k * 2 + 1, none⟩ = some (.int .i64 L[k].bound) := by
              have := hNc.own.cellAt encC_len (by omega) hkc (j := 1) (by omega)
              refine this.trans ?_
              show cssc[k].val[1]? = _
              rw [hcs]; rfl
            obtain ⟨At, ct, rfl, _, _⟩ := ht.form
            have HO2 : Hid (out ++ [L[k]] = s.rows ++ L.take (k + 1)) := hid (by rw [HO.out, List.take_succ_eq_append_getElem hlt, List.append_assoc])
            have hol : out.length = s.rows.length + k := by rw [HO.out]; simp; omega
            have y1 := hBr.cell (j := 1) rfl
            simp only [hcs] at hoj
            replace hol := hid hol
            generalize L[k] = r at *
            obtain ⟨ts, bd⟩ := r
            dsimp only at *
            have hj1 : (0 : Int) ≤ k := by omega
            have hj2 : (k : Int) < L.length := by omega
            have g0 : decide ((k : Int) < (L.length : Int)) = true := decide_eq_true hj2
            obtain ⟨el, hel⟩ : ∃ el : Elm 2, el.val = [.slice At ts.length ct, .int .i64 bd] := ⟨⟨[.slice At ts.length ct, .int .i64 bd], rfl, by simp [Value.oneCell']⟩, rfl⟩
            have hcln := hNr.len
            replace hel := hid hel
            replace hcln := hid hcln
            clear hcs hNc hcl hkc ht
            go_wp2
            refine G2.wp_region_growG Kp [] 11 61 (brPV bo g4 gr i k (.slice AR out.length cR) (.slice (some ⟨g4, 0, none⟩) s.cases.length a4) (.slice (some ⟨gr, 0, none⟩) L.length a5) (.agg #[.slice At ts.length ct, .int .i64 bd]) el) (by kernel_rfl) (by kernel_rfl) rfl (fun x => Kp.refl x) (fun _ _ _ h k => h.trans k) (Kp.refl _).drew (fun _ _ _ _ _ h => h) (brPV_keep _ _ _ _ _ _ _ _ _ _) ?_ (fun i hi => by simp at hi) ?_
            · intro i0 hi0
              have hi' : i0 = 0 ∨ i0 = 1 ∨ i0 = 2 ∨ i0 = 3 ∨ i0 = 4 ∨ i0 = 5 ∨ i0 = 6 ∨ i0 = 7 ∨ i0 = 8 ∨ i0 = 9 ∨ i0 = 10 := by omega
              rcases hi' with rfl | rfl | rfl | rfl | rfl | rfl | rfl | rfl | rfl | rfl | rfl
              · intro a w' hk hF hD K hK
                simp only [List.getElem?_toArray, List.getElem?_cons_zero, List.getElem?_cons_succ, Option.map_some, Option.getD_some]
                have h6 : a.tmps[6]?.getD undef = .pointer (some ⟨bo, 0, none⟩) := hF 6 (by kernel_rfl)
                clear hF hD
                go_simp
                exact hK.out _ _ (Kp.refl _) rfl
              · intro a w' hk hF hD K hK
                simp only [List.getElem?_toArray, List.getElem?_cons_zero, List.getElem?_cons_succ, Option.map_some, Option.getD_some]
                have h46 : a.tmps[46]?.getD undef = .pointer (some ⟨bo, 1, none⟩) := hD 0 (by kernel_rfl)
                have z1 := hk.cellS y1
                clear hF hD
                go_simp
                exact hK.out _ _ (Kp.refl _) rfl
              · intro a w' hk hF hD K hK
                simp only [List.getElem?_toArray, List.getElem?_cons_zero, List.getElem?_cons_succ, Option.map_some, Option.getD_some]
                have h6 : a.tmps[6]?.getD undef = .pointer (some ⟨bo, 0, none⟩) := hF 6 (by kernel_rfl)
                clear hF hD
                go_simp
                exact hK.out _ _ (Kp.refl _) rfl
              · intro a w' hk hF hD K hK
                simp only [List.getElem?_toArray, List.getElem?_cons_zero, List.getElem?_cons_succ, Option.map_some, Option.getD_some]
                have h48 : a.tmps[48]?.getD undef = .pointer (some ⟨bo, 3, none⟩) := hD 2 (by kernel_rfl)
                have z1 := hk.cellS y3
                clear hF hD
                go_simp
                exact hK.out _ _ (Kp.refl _) rfl
              · intro a w' hk hF hD K hK
                simp only [List.getElem?_toArray, List.getElem?_cons_zero, List.getElem?_cons_succ, Option.map_some, Option.getD_some]
                have h1 : a.tmps[1]?.getD undef = .int .i64 i := hF 1 (by kernel_rfl)
                clear hF hD
                go_simp
                exact hK.out _ _ (Kp.refl _) rfl
              · intro a w' hk hF hD K hK
                simp only [List.getElem?_toArray, List.getElem?_cons_zero, List.getElem?_cons_succ, Option.map_some, Option.getD_some]
                have h49 : a.tmps[49]?.getD undef = .slice (some ⟨g4, 0, none⟩) s.cases.length a4 := hD 3 (by kernel_rfl)
                have h50 : a.tmps[50]?.getD undef = .int .i64 i := hD 4 (by kernel_rfl)
                clear hF hD
                go_simp
                exact hK.out _ _ (Kp.refl _) rfl
              · intro a w' hk hF hD K hK
                simp only [List.getElem?_toArray, List.getElem?_cons_zero, List.getElem?_cons_succ, Option.map_some, Option.getD_some]
                have h51 : a.tmps[51]?.getD undef = .pointer (some ⟨g4, i, none⟩) := hD 5 (by kernel_rfl)
                have z1 := hk.cellS c4'
                clear hF hD
                go_simp
                exact hK.out _ _ (Kp.refl _) rfl
              · intro a w' hk hF hD K hK
                simp only [List.getElem?_toArray, List.getElem?_cons_zero, List.getElem?_cons_succ, Option.map_some, Option.getD_some]
                have h7 : a.tmps[7]?.getD undef = .int .i64 k := hF 7 (by kernel_rfl)
                clear hF hD
                go_simp
                exact hK.out _ _ (Kp.refl _) rfl
              · intro a w' hk hF hD K hK
                simp only [List.getElem?_toArray, List.getElem?_cons_zero, List.getElem?_cons_succ, Option.map_some, Option.getD_some]
                have h52 : a.tmps[52]?.getD undef = .slice (some ⟨gr, 0, none⟩) L.length a5 := hD 6 (by kernel_rfl)
                have h53 : a.tmps[53]?.getD undef = .int .i64 k := hD 7 (by kernel_rfl)
                clear hF hD
                go_simp
                exact hK.out _ _ (Kp.refl _) rfl
              · intro a w' hk hF hD K hK
                simp only [List.getElem?_toArray, List.getElem?_cons_zero, List.getElem?_cons_succ, Option.map_some, Option.getD_some]
                have h54 : a.tmps[54]?.getD undef = .pointer (some ⟨gr, k * 2, none⟩) := hD 8 (by kernel_rfl)
                have z0 := hk.cellS cj0
                have z1 := hk.cellS cj1
                clear hF hD
                go_simp
                exact hK.out _ _ (Kp.refl _) rfl
              · intro a w' hk hF hD K hK
                simp only [List.getElem?_toArray, List.getElem?_cons_zero, List.getElem?_cons_succ, Option.map_some, Option.getD_some]
                have h55 : a.tmps[55]?.getD undef = .agg #[.slice At ts.length ct, .int .i64 bd] := hD 9 (by kernel_rfl)
                clear hF hD
                go_simp
                exact hK.out _ _ ((Kp.refl w').alloc (.cells #[.slice At ts.length ct, .int .i64 bd] 30)) ⟨_, rfl, Sl.one (R := Pl encC) _ [.slice At ts.length ct, .int .i64 bd] 30 2 el rfl hel.out.symm⟩
            · intro v w9 k9 hv
              have v1 : v 1 = .slice AR out.length cR := hv 1 (by omega)
              obtain ⟨p, v10, hp⟩ : ∃ p : Nat, v 10 = .slice (some ⟨p, 0, none⟩) 1 1 ∧ Sl (Pl encC) 2 w9 (.slice (some ⟨p, 0, none⟩) 1 1) [el] := hv 10 (by omega)
              clear hv
              have hB9 := hBr.kp k9 hbr
              have hN9 := hNr.kp k9
              have hs9 := k9.size
              have hbo9 : bo < w9.heap.size := by omega
              have hARb : ∀ q, (Value.slice AR out.length cR).ownBlock = some q → q ≠ bo := fun q hq e => by
                have := hAR.out q hq
                rw [e] at this
                omega
              have hge : ∀ q, (Value.slice AR out.length cR).ownBlock = some q → w.heap.size ≤ q := fun q hq => by
                have hbw' := hbw.out
                rcases hAR.out q hq with h | h
                · have := hTlo.out q (by omega)
                  omega
                · omega
              simp only [G2.growPut, G2.gSlot, List.getElem?_toArray, List.getElem?_cons_zero, List.getElem?_cons_succ, Option.bind_some, List.setIfInBounds_toArray, List.set_cons_zero, List.set_cons_succ, List.drop_succ_cons, List.drop_zero, v1, v10]
              replace hARb := hid hARb
              replace hge := hid hge
              clear y1 y3 cj0 cj1
              go_wp2_with (at_builtin; refine wpl_append_flat (l := css) (m := [el]) rfl (.tmp 47) (.tmp 56) rfl stRowM encC_len encC_one rfl hN9.own rfl hp (by have := hcln.out; have := hol.out; simp; omega) (by have := hcln.out; have := hol.out; simp; omega) (by simp) ?_; intro v8 w8 hown8 hgrow8 hat8 hnil8; have hB8 := hB9.grown hgrow8 (fun e => hARb.out _ e rfl) hbo9; have s0 := hB8.cell (j := 1) rfl; have f0 := hB8.free (j := 1) (by simp); have hs8 := hgrow8.size; have hbo8 : bo < w8.heap.size := (by omega); obtain ⟨A8, c8, hv8, hc8, hm8⟩ := hown8.form; subst hv8)
              have hkg8 : Kg w8 (w8.setCell ⟨bo, 1, none⟩ (.slice A8 (css ++ [el]).length c8)) bo := (Kg.refl _ _).set (p := ⟨bo, 1, none⟩) (.inl rfl) _
              have hN8 := (hN9.snoc (S' := fun q => τ q ≠ 0 ∨ w4.heap.size ≤ q) (x := ⟨ts, bd⟩) hown8 hgrow8 hat8 T (fun q hq => ⟨.inl (by have := (hTj q hq).1; omega), fun e => by have h1 := hAR.out q e; have h2 := (hTj q hq).1; have h3 := hTup.out q (by omega); omega, Nat.lt_of_lt_of_le (hTj q hq).2.2 hs9⟩) (by rw [hel.out]; exact hoj.kp k9) (fun q hq => hq) (.inr (by omega))).kg hkg8 (fun h => by rcases h with h | h; exact h hτ; omega)
              have hB10 := hB8.set (j := 1) (by simp) (.slice A8 (css ++ [el]).length c8)
              simp only [List.set_cons_zero, List.set_cons_succ] at hB10
              have hkF := Kg.to_kp ((hkw.trans k9).grown hgrow8 hge.out) hkg8 (by have := hbw.out; omega)
              have hKF := hid (fun (q : Nat) (h1 : q < w4.heap.size) (h2 : q ≠ bo) (h3 : τ q ≠ 2) => show (w8.setCell ⟨bo, 1, none⟩ (.slice A8 (css ++ [el]).length c8)).heap[q]? = w4.heap[q]? from by
                rw [hkg8.block q (by omega) (fun e => h2 (by injection e)), hgrow8.block q (by omega) (fun e => by have := hAR.out q e.symm; omega), k9.block (by omega)]
                exact hK.out q h1 h2 h3)
              have hAR8 := hid (fun q (hq : (Value.slice A8 (css ++ [el]).length c8).ownBlock = some q) => show τ q = 2 ∨ w4.heap.size ≤ q from by
                rcases hat8 with h | h
                · exact hAR.out q (h ▸ hq)
                · rw [h] at hq
                  injection hq with hq
                  omega)
              have hsF := hkg8.size
              have e8 : (css ++ [el]).length = (out ++ [(⟨ts, bd⟩ : Row)]).length := by simp [hcln.out]
              have e9 : css.length + 1 = (out ++ [(⟨ts, bd⟩ : Row)]).length := by simp [hcln.out]
              rw [e8] at hB10 hN8 hkF hKF hAR8 hsF
              rw [e9]
              refine ⟨⟨k + 1, _, out ++ [⟨ts, bd⟩], A8, c8, by omega, by go_num, hB10, hN8, hAR8, HO2, hkF, by omega, hKF⟩, ?_⟩
              simp [intOf]; omega
          · have HF : Hid (out = s.rows ++ L) := hid (by rw [HO.out, List.take_of_length_le (by omega)])
            have g0 : decide ((k : Int) < (L.length : Int)) = false := decide_eq_false (by omega)
            have hRz := hR4.keep (hK.out (b + 1) (by omega) (by omega) (by omega))
            have hbxz := hbx.owS.step hzw4 (fun q hq hlt => hK.out q hlt (fun e => by have := hbt.out q hq; rw [e] at this; omega) (by have := hbt.out q hq; omega))
            have hgrz := hgr.step hzw4 (fun q hq hlt => hK.out q hlt (fun e => by rw [e] at hq; omega) (by omega))
            have hB9 := hBr.set (j := 3) (by simp) (.slice none 0 0)
            simp only [List.set_cons_zero, List.set_cons_succ] at hB9
            have hKg2 : Kg wr (wr.setCell ⟨bo, 3, none⟩ (.slice none 0 0)) bo := (Kg.refl _ _).set (.inl rfl) _
            have hR9 := hRz.kg hKg2 (by omega) (by omega)
            have hN9 := (hNr.kg hKg2 (fun h => by rcases h with h | h; exact h hτ; omega))
            have hbx9 := hbxz.kg hKg2 (fun h => by have := hbt.out _ h; omega)
            have hgr9 := hgrz.kg hKg2 (fun h => by omega)
            have hk9 := Kg.to_kp hkw hKg2 (by have := hbw.out; omega)
            have v3 := hBr.free (j := 3) (by simp)
            have hs9 := hKg2.size
            clear hBr hRz hbxz hgrz hNr
            go_upto_region 13 with (fail)
            clear y3 v3
            generalize wr.setCell ⟨bo, 3, none⟩ (.slice none 0 0) = w10 at *
            have hBF := hR9.set4 (.slice A1 s.box.length a1) (.slice AR out.length cR) (.slice A3 s.graphs.length a3) (.slice none 0 0)
            have hKg3 := Kg.set4 w10 (b + 1) (.slice A1 s.box.length a1) (.slice AR out.length cR) (.slice A3 s.graphs.length a3) (.slice none 0 0)
            have hNF := (hN9.kg hKg3 (fun h => by rcases h with h | h; exact h hτb; omega)).sl
            have hbxF := (hbx9.kg hKg3 (fun h => by have := hbt.out _ h; omega)).here.sl encRng_len
            have hgrF := (hgr9.kg hKg3 (fun h => by omega)).here
            have kF := Kg.to_kp hk9 hKg3 (by have := hbw.out; omega)
            have p0 := hB9.cell (j := 0) rfl
            have p1 := hB9.cell (j := 1) rfl
            have p2 := hB9.cell (j := 2) rfl
            have p3 := hB9.cell (j := 3) rfl
            have hbb1 : b + 1 < w10.heap.size := hR9.lt (by simp)
            have hbob : bo < w10.heap.size := hB9.lt (by simp)
            have f0 := hR9.free (j := 0) (by simp)
            have f1 := hR9.free (j := 1) (by simp)
            have f2 := hR9.free (j := 2) (by simp)
            have f3 := hR9.free (j := 3) (by simp)
            have y0 := hR9.cell (j := 0) rfl
            have y1 := hR9.cell (j := 1) rfl
            have y2 := hR9.cell (j := 2) rfl
            have y3 := hR9.cell (j := 3) rfl
            clear hR9 hB9 hKg3 hk9 hKg2 hN9 hbx9 hgr9
            go_wp2
            refine bodyPost_ret (results_cell_bx2 rfl _ _ (b + 1) [.slice A1 s.box.length a1, .slice AR out.length cR, .slice A3 s.graphs.length a3, .slice none 0 0] _ rfl hBF.range Try.underlying27 rfl (by kernel_rfl)) rfl ?_
            refine ⟨_, by rw [HN.out]; rfl, ?_, kF⟩
            rw [HN.out]
            rw [HF.out] at hNF hbxF hgrF ⊢
            exact ⟨_, _, _, _, _, _, _, _, rfl, hbxF, hNF, hgrF, Sl.nil _ _ _⟩
    · have HN : Hid (BranchR s x = (zSys, 2)) := hid (by unfold BranchR; rw [hV, if_pos rfl, if_neg hx])
      have hRx := hR1
      have kx := k1
      clear hV hR1
      by_cases h0 : x < 0
      · have e1 : decide (x < 0) = true := decide_eq_true h0
        have f0 := hRx.free (j := 0) (by simp)
        have f1 := hRx.free (j := 1) (by simp)
        have f2 := hRx.free (j := 2) (by simp)
        have f3 := hRx.free (j := 3) (by simp)
        have y0 := hRx.cell (j := 0) rfl
        have y1 := hRx.cell (j := 1) rfl
        have y2 := hRx.cell (j := 2) rfl
        have y3 := hRx.cell (j := 3) rfl
        have hBF := hRx.set4 (.slice none 0 0) (.slice none 0 0) (.slice none 0 0) (.slice none 0 0)
        have kF := Kg.to_kp kx (Kg.set4 w1 (b + 1) (.slice none 0 0) (.slice none 0 0) (.slice none 0 0) (.slice none 0 0)) (by have := hbw.out; omega)
        clear hRx hR
        go_wp2
        refine bodyPost_ret (results_cell_bx2 rfl _ _ (b + 1) [.slice none 0 0, .slice none 0 0, .slice none 0 0, .slice none 0 0] _ rfl hBF.range Try.underlying27 rfl (by kernel_rfl)) rfl ?_
        exact ⟨_, by rw [HN.out]; rfl, by rw [HN.out]; exact zSys_v _, kF⟩
      · have e1 : decide (x < 0) = false := decide_eq_false h0
        have e2 : decide ((s.cases.length : Int) ≤ x) = true := decide_eq_true (by omega)
        have f0 := hRx.free (j := 0) (by simp)
        have f1 := hRx.free (j := 1) (by simp)
        have f2 := hRx.free (j := 2) (by simp)
        have f3 := hRx.free (j := 3) (by simp)
        have y0 := hRx.cell (j := 0) rfl
        have y1 := hRx.cell (j := 1) rfl
        have y2 := hRx.cell (j := 2) rfl
        have y3 := hRx.cell (j := 3) rfl
        have hBF := hRx.set4 (.slice none 0 0) (.slice none 0 0) (.slice none 0 0) (.slice none 0 0)
        have kF := Kg.to_kp kx (Kg.set4 w1 (b + 1) (.slice none 0 0) (.slice none 0 0) (.slice none 0 0) (.slice none 0 0)) (by have := hbw.out; omega)
        clear hRx hR
        go_wp2
        refine bodyPost_ret (results_cell_bx2 rfl _ _ (b + 1) [.slice none 0 0, .slice none 0 0, .slice none 0 0, .slice none 0 0] _ rfl hBF.range Try.underlying27 rfl (by kernel_rfl)) rfl ?_
        exact ⟨_, by rw [HN.out]; rfl, by rw [HN.out]; exact zSys_v _, kF⟩
end Go.Proofs.Ytfllmnaillilhaa
