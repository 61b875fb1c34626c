
/-
Search: a node that is not split into cases: the walk.
-/
import Derived.Test.YtlbhidiliogflaaGreatSeN
namespace Go.Proofs.YtlbhidiliogflaaGreat
set_option linter.unusedSimpArgs false
set_option linter.unusedVariables false
open Go.RowKit

theorem stIntC : SliceT Tryz.prog 30 3 1 8 := SliceT.mk' Tryz.underlying30 (z := .int .i64 0) (by kernel_rfl) rfl (by omega)
theorem node2_any (lo hi : Int) (w : World) : Calls Tryz.prog 47 #[.agg #[.int .i64 lo, .int .i64 hi]] w fun e w' => e = .returned (.bool (wideR ⟨lo, hi⟩)) ∧ Kp w w' := by
  have HF : Hid (wideR ⟨lo, hi⟩ = decide (lo < hi)) := hid rfl
  go_enter Tryz.func47, Tryz.ntmps47
  go_wp2
  go_ret
  exact ⟨ret_bool HF.out.symm, (Kp.refl w).alloc _⟩
theorem node2_real : Real Tryz.prog 47 := ⟨_, Tryz.func47, by kernel_rfl, by kernel_rfl⟩
set_option maxRecDepth 8000 in
set_option maxHeartbeats 8000000 in
theorem node_any (N : Nat) : ∀ (bw : Nat) (x0 x1 : Value) (Ag Ar Acs : Option Addr) (cg cr ncs ccs : Nat) (rows : List Row) (grs : List Gr) (n b c : Nat) (vb : Value) (box : List Rng) (ch : Int) (X : Nat → Prop) (css : List (Elm 2)) (csg : List (Elm 3)) (w : World),
    Bx w bw [x0, x1, .slice Ag grs.length cg, .slice Acs ncs ccs, .slice Ar rows.length cr, .int .i64 (b : Int), .int .i64 (c : Int)] → Own encRng 57 2 0 w vb box →
    (∀ q, vb.ownBlock = some q → q ≠ bw) → X bw → (∀ q, vb.ownBlock = some q → X q) → OwF X w (PData css csg (.slice Ar rows.length cr) (.slice Ag grs.length cg) rows grs) →
    c ≤ b → b ≤ 65536 → fineBox n box → n ≤ 128 → (∀ r ∈ rows, fitsB n r = true) → (∀ g ∈ grs, grOk n g = true) → (ncs = 0 ∨ 0 ≤ ch) → -1 ≤ ch → ch ≤ 100000 → ncs ≤ 100000 → b - c ≤ N →
    Calls Tryz.prog 20 #[.pointer (some ⟨bw, 0, none⟩), vb, .int .i64 ch] w (NodeR w N b c ch vb bw x0 x1 (.slice Ag grs.length cg) (.slice Acs ncs ccs) (.slice Ar rows.length cr) (nodeF rows grs N box (b - c))) := by
  induction N with
  | zero =>
    intro bw x0 x1 Ag Ar Acs cg cr ncs ccs rows grs n b c vb box ch X css csg w hW hO hne hXw hXb hD hc hb hf hn hr hg hch hch1 hch2 hncs hN
    have hcb : c = b := by omega
    subst hcb
    have hl := hW.lt (by simp)
    obtain ⟨Ab, nb, cb, rfl⟩ := hO.isSl
    have HF : Hid (nodeF rows grs 0 box (c - c) = .out) := hid rfl
    rw [HF.out]
    unfold NodeR
    have hW1 := hW.kp ((Kp.refl w).alloc (.cells [.slice none 0 0, .int .i64 0, .int .i64 0, .slice none 0 0, .int .i64 0, .int .i64 0, .slice none 0 0].toArray 64)) hl
    go_enter Tryz.func20, Tryz.ntmps20
    go_wp2_with fail
    refine (spend_any bw x0 x1 (.slice Ag grs.length cg) (.slice Acs ncs ccs) (.slice Ar rows.length cr) c c _ hW1 (Nat.le_refl _) hb).mono ?_
    rintro e w5 (⟨h1, rfl, k5⟩ | ⟨h1, rfl, hB5, k5⟩)
    · have hE : Fx (PW bw (.slice Ab nb cb)) w w5 := (((Kp.refl w).alloc _).trans k5).fx _
      go_wp2
      exact ⟨rfl, rfl, hE⟩
    · omega
  | succ N ih =>
    intro bw x0 x1 Ag Ar Acs cg cr ncs ccs rows grs n b c vb box ch X css csg w hW hO hne hXw hXb hD hc hb hf hn hr hg hch hch1 hch2 hncs hN
    have hl := hW.lt (by simp)
    have hvl := hO.blk_lt
    obtain ⟨Ab, nb, cb, rfl⟩ := hO.isSl
    have k1 := (Kp.refl w).alloc (.cells [.slice none 0 0, .int .i64 0, .int .i64 0, .slice none 0 0, .int .i64 0, .int .i64 0, .slice none 0 0].toArray 64)
    have hW1 := hW.kp k1 hl
    by_cases hcb : c = b
    · subst hcb
      have HF : Hid (nodeF rows grs (N + 1) box (c - c) = .out) := hid (nodeF_zero (by omega))
      rw [HF.out]
      unfold NodeR
      go_enter Tryz.func20, Tryz.ntmps20
      go_wp2_with fail
      refine (spend_any bw x0 x1 (.slice Ag grs.length cg) (.slice Acs ncs ccs) (.slice Ar rows.length cr) c c _ hW1 (Nat.le_refl _) hb).mono ?_
      rintro e w5 (⟨h1, rfl, k5⟩ | ⟨h1, rfl, hB5, k5⟩)
      · have hE : Fx (PW bw (.slice Ab nb cb)) w w5 := (k1.trans k5).fx _
        go_wp2
        exact ⟨rfl, rfl, hE⟩
      · omega
    · have B6 := Bx.new w [.slice none 0 0, .int .i64 0, .int .i64 0, .slice none 0 0, .int .i64 0, .int .i64 0, .slice none 0 0].toArray 64
      have z1 := World.size_alloc w (.cells [.slice none 0 0, .int .i64 0, .int .i64 0, .slice none 0 0, .int .i64 0, .int .i64 0, .slice none 0 0].toArray 64)
      have hO1 := hO.kp k1
      have hD1 := hD.fx (k1.fx X)
      obtain ⟨F, hF⟩ : ∃ F, Hid (runB (b - c - 1) rows grs box = F) := ⟨_, hid rfl⟩
      obtain ⟨R, hR⟩ : ∃ R, Hid (nodeF rows grs (N + 1) box (b - c) = R) := ⟨_, hid rfl⟩
      rw [hR.out]
      go_enter Tryz.func20, Tryz.ntmps20
      go_wp2_with fail
      generalize w.alloc (.cells [.slice none 0 0, .int .i64 0, .int .i64 0, .slice none 0 0, .int .i64 0, .int .i64 0, .slice none 0 0].toArray 64) = w1 at *
      obtain ⟨z6, hz6⟩ : ∃ z6, z6 = w.heap.size := ⟨_, rfl⟩
      rw [← hz6] at B6 z1 ⊢
      refine (spend_any bw x0 x1 (.slice Ag grs.length cg) (.slice Acs ncs ccs) (.slice Ar rows.length cr) b c w1 hW1 hc hb).mono ?_
      rintro e w2 (⟨h1, rfl, k2⟩ | ⟨h1, rfl, hB2, k2⟩)
      · exact absurd h1 hcb
      have hlb : z6 ≠ bw := by omega
      have B62 := B6.fx k2 (by omega) hlb
      have hO2 := hO1.fx k2 (fun q hq => hne q hq)
      have hD2 := hD1.fx (k2.mono fun q _ e => e ▸ hXw)
      have hz2 := k2.size
      have hPR := propagate_any bw x0 x1 (.slice Acs ncs ccs) Ag Ar cg cr rows grs n b (c + 1) (.slice Ab nb cb) box X css csg w2 hB2 hO2 hne hXw hXb hD2 h1 hb hf hn hr hg
      rw [show b - (c + 1) = b - c - 1 by omega, hF.out] at hPR
      replace hPR := hid hPR
      replace hz6 := hid hz6
      have hD0 := hid (hD.more (Fx.refl X w))
      clear B6 hO1 hD1 hW1 hW hO hD
      go_wp2_with fail
      refine hPR.out.mono ?_
      rintro e w3 (⟨h2, rfl, k3⟩ | ⟨h2, vs, bx, rfl, hE⟩)
      · have HR : R = .out := by rw [← hR.out, nodeF_out (by omega) hF.out h2]
        subst HR
        have hEE : Fx (PW bw (.slice Ab nb cb)) w w3 := ((k1.fx (PW bw (.slice Ab nb cb))).trans (k2.mono fun q _ e => .inl e)).trans k3
        unfold NodeR
        go_wp2
        exact ⟨rfl, rfl, hEE⟩
      · obtain ⟨As, ns, cs, rfl⟩ := hE.stp.isSl
        have k03 : Fx (PW bw (.slice Ab nb cb)) w w3 := ((k1.fx (PW bw (.slice Ab nb cb))).trans (k2.mono fun q _ e => .inl e)).trans hE.fx
        have B63 := B62.fx hE.fx (by omega) (fun e => by
          rcases e with e | e
          · exact hlb e
          · have := hvl z6 e
            have := hz6.out
            omega)
        have hS3 := hE.stp
        have hO3 := hE.own
        have hW3 := hE.wk
        have hcb3 := hE.cb
        have hop3 := hid hE.opn
        have hlen3 := hE.len
        have hbk3 : ∀ q, (Value.slice As ns cs).ownBlock = some q → z6 < q := fun q hq => by
          have := hE.blk q hq
          omega
        have hD3 := hD2.fx (hE.fx.mono fun q _ e => by
          rcases e with e | e
          · exact e ▸ hXw
          · exact hXb q e)
        have hz3 : w2.heap.size ≤ w3.heap.size := hE.fx.size
        have hsb3 := hS3.blk_lt
        clear hE hO2 hD2 hB2 B62 k2
        go_upto_region 4 with (fail)
        have k4 := (Kp.refl w3).alloc (.cells #[.int .i64 0, .slice As ns cs, .int .i64 0, .int .i64 0, .slice none 0 0] 34)
        have BT := Bx.new w3 #[.int .i64 0, .slice As ns cs, .int .i64 0, .int .i64 0, .slice none 0 0] 34
        have zT := World.size_alloc w3 (.cells #[.int .i64 0, .slice As ns cs, .int .i64 0, .int .i64 0, .slice none 0 0] 34)
        generalize w3.alloc (.cells #[.int .i64 0, .slice As ns cs, .int .i64 0, .int .i64 0, .slice none 0 0] 34) = w4 at *
        obtain ⟨t9, ht9⟩ : ∃ t9, t9 = w3.heap.size := ⟨_, rfl⟩
        rw [← ht9] at BT zT hz3 hsb3 ⊢
        simp only [List.toList_toArray] at BT
        have B64 := B63.kp k4 (by omega)
        have hS4 := hS3.kp k4
        have hO4 := hO3.kp k4
        have hvl3 := hO3.blk_lt
        rw [← ht9] at hvl3
        have hbw3 : bw < t9 := by
          have := hW3.lt (by simp)
          omega
        have hW4 := hW3.kp k4 (by omega)
        have hD4 := hD3.fx (k4.fx X)
        have k04 := k03.trans (k4.fx _)
        replace ht9 := hid ht9
        have hF1 := hF.out
        clear B63 hS3 hO3 hW3 hD3 k03 k4
        have t0 := BT.cell (j := 0) rfl
        have t1 := BT.cell (j := 1) rfl
        have t2 := BT.cell (j := 2) rfl
        have t3 := BT.cell (j := 3) rfl
        have t4 := BT.cell (j := 4) rfl
        cases ho : F.opn with
        | false =>
          have HR : R = .ref (.mk 0 F.steps 0 0 []) (1 + F.steps.length) := by rw [← hR.out, nodeF_shut (by omega) hF1 h2 ho]
          subst HR
          replace ho := hid ho
          have hA : c + (1 + F.steps.length) ≤ b := by omega
          have hcc : c + 1 + F.steps.length = c + (1 + F.steps.length) := by omega
          replace hcc := hid hcc
          replace hA := hid hA
          have y0 := (B64).cell (j := 0) rfl
          have y1 := (B64).cell (j := 1) rfl
          have y2 := (B64).cell (j := 2) rfl
          have y3 := (B64).cell (j := 3) rfl
          have y4 := (B64).cell (j := 4) rfl
          have y5 := (B64).cell (j := 5) rfl
          have y6 := (B64).cell (j := 6) rfl
          have f0 := (B64).free (j := 0) (by simp)
          have f1 := (B64).free (j := 1) (by simp)
          have f2 := (B64).free (j := 2) (by simp)
          have f3 := (B64).free (j := 3) (by simp)
          have f4 := (B64).free (j := 4) (by simp)
          have f5 := (B64).free (j := 5) (by simp)
          have f6 := (B64).free (j := 6) (by simp)
          have k0n := k04
          have hWn := hW4
          go_wp2
          try simp only [Exit.inBlock, Exit.then]
          have BE := (B64).all (cs := [.slice none 0 0, .int .i64 0, .int .i64 0, .slice As ns cs, .int .i64 0, .int .i64 0, .slice none 0 0]) rfl
          change bodyPost _ _ _ _ _ (w4.setCells z6 0 [.slice none 0 0, .int .i64 0, .int .i64 0, .slice As ns cs, .int .i64 0, .int .i64 0, .slice none 0 0])
          refine bodyPost_ret (results_cell_bx rfl _ (w4.setCells z6 0 [.slice none 0 0, .int .i64 0, .int .i64 0, .slice As ns cs, .int .i64 0, .int .i64 0, .slice none 0 0]) z6 [.slice none 0 0, .int .i64 0, .int .i64 0, .slice As ns cs, .int .i64 0, .int .i64 0, .slice none 0 0] _ rfl BE.range Tryz.underlying64 rfl (by kernel_rfl)) rfl ?_
          have kS : Fx (fun q => q = z6) w4 (w4.setCells z6 0 [.slice none 0 0, .int .i64 0, .int .i64 0, .slice As ns cs, .int .i64 0, .int .i64 0, .slice none 0 0]) := setsFx z6 0 _ _ (Fx.refl _ _) (.inl rfl)
          have kE := k0n.thru kS (fun q hq e => by have := hz6.out; omega)
          have hWE := hWn.fx kS (hWn.lt (by simp)) (fun e => by omega)
          generalize w4.setCells z6 0 [.slice none 0 0, .int .i64 0, .int .i64 0, .slice As ns cs, .int .i64 0, .int .i64 0, .slice none 0 0] = wE at *
          have hSE := hS4.fx kS (fun q hq e => by have := hbk3 q hq; omega)
          unfold NodeR
          dsimp only
          refine ⟨hA.out, kE, ?_, .int .i64 0, .slice As ns cs, .int .i64 0, .int .i64 0, .slice none 0 0, rfl, ?_⟩
          · rw [← hcc.out]
            exact hWE
          refine (OwF.own hSE (fun q hq => by have := hbk3 q hq; have := hz6.out; omega)).imp fun w2 h => ⟨_, _, rfl, h.sl encStp_len, Sl.nil _ _ _⟩
        | true =>
          obtain ⟨hbx, hfb⟩ := hop3.out ho
          have hmf : ∀ (fn : Fn) (first cap : Array Value) (w : World), (Instr.makeFunc fn first cap).run Tryz.prog w = .ok (.func fn first cap) w := fun _ _ _ _ => rfl
          have hR1 := hid fun h => (nodeF_sol (n := N) (show b - c ≠ 0 by omega) hF1 h2 ho h)
          have hR2 := hid fun h => (nodeF_split (n := N) (show b - c ≠ 0 by omega) hF1 h2 ho h)
          rw [← hbx] at hR1 hR2
          replace ho := hid ho
          replace hbx := hid hbx
          have w3c := hW4.cell (j := 3) rfl
          clear hop3 hF1
          by_cases hcs : ncs = 0
          · have e1' : decide (0 < ncs) = false := decide_eq_false (by omega)
            have e1'' : ¬ 0 < ncs := by omega
            have e1 : decide ((0 : Int) < (ncs : Int)) = false := decide_eq_false (by omega)
            replace hcs := hid hcs
            replace hch := hid hch
            go_wp2_with fail
            refine (IndexFuncRange_any wideR 47 [] _ bx w4 (hO4.sl encRng_len) node2_real (fun w' lo hi _ => node2_any lo hi w')).mono ?_
            rintro e w5 ⟨rfl, k5⟩
            try clear e2
            try clear e2''
            have hW5 := hW4.kp k5 (by omega)
            have hO5 := hO4.kp k5
            have hS5 := hS4.kp k5
            have B65 := B64.kp k5 (by omega)
            have BT5 := BT.kp k5 (by omega)
            have k05 := k04.trans (k5.fx _)
            have hz5 := k5.size
            have hD5 := hD4.fx (k5.fx X)
            clear hW4 hO4 hS4 B64 BT k04 k5 hD4 t0 t1 t2 t3 t4 w3c
            obtain rfl : nb = n := by
              obtain ⟨A', c', he, -⟩ := hO5.form
              injection he with _ he _
              exact he.trans hlen3
            rcases idxF_cases wideR 0 bx with ⟨hi, hany⟩ | ⟨j, hj, hi, hp, hall⟩
            · have HR : R = .sol (bx.map (·.lo)) 0 (1 + F.steps.length) := by rw [← hR.out]; exact hR1.out (by rw [hi]; omega)
              subst HR
              rw [hi]
              clear hR1 hR2 hany hi
              have hA : c + (1 + F.steps.length) ≤ b := by omega
              have hcc : c + 1 + F.steps.length = c + (1 + F.steps.length) := by omega
              replace hcc := hid hcc
              replace hA := hid hA
              have hnb128 : nb ≤ 128 := hn
              obtain ⟨mx, hmx⟩ : ∃ mx, max ch 0 = mx := ⟨_, rfl⟩
              have HLEN := hid hlen3
              obtain ⟨hcap1, hcap2⟩ := (hO5.sl encRng_len).caps
              rw [hlen3] at hcap1
              clear hlen3
              go_upto_region 21 with (refine wpl_make_flat (enc := encInt) (base := w5.heap.size) rfl (.tmp 88) (.tmp 88) rfl stIntC 0 (zero_of (u := .int .i64 0) (by kernel_rfl) rfl) nb rfl rfl (by omega) (by omega) (Nat.le_refl _) ?_; intro w6 own6 k6 z6')
              obtain ⟨g5, hg5⟩ : ∃ g5, g5 = w5.heap.size := ⟨_, rfl⟩
              rw [← hg5] at own6 z6' hz5 ⊢
              have hzg : z6 < g5 ∧ bw < g5 := ⟨by omega, by omega⟩
              replace hg5 := hid hg5
              go_wp2_with fail
              go_loopw [92] (fun i wr => ∃ (k : Nat) (L : List Int), k ≤ nb ∧ i = .int .i64 (k : Int) ∧ L.length = nb ∧ Hid (L = (bx.map (·.lo)).take k ++ List.replicate (nb - k) (0 : Int)) ∧ Own encInt 3 1 g5 wr (.slice (some ⟨g5, 0, none⟩) nb nb) L ∧ Kp w5 wr ∧ g5 < wr.heap.size) (fun i _ => nb - (intOf i).toNat)
              case atStart => exact ⟨0, _, Nat.zero_le _, rfl, by simp, hid (by simp), own6, k6, by omega⟩
              case round =>
                clear own6 k6 z6'
                obtain ⟨k, L, hk, rfl, hL, HL, own, kr, hzr⟩ := hrel
                by_cases hlt : k < nb
                · have hkb : k < bx.length := by rw [HLEN.out]; exact hlt
                  have hbr := (hO5.sl encRng_len).keep (pl_stable _) kr
                  obtain ⟨gb, ob, hab, hgb, i1, i2⟩ := hbr.rng hkb
                  subst hab
                  have hlo : (bx.map (·.lo))[k]? = some bx[k].lo := by simp [hkb]
                  have HN : Hid (L.set k bx[k].lo = (bx.map (·.lo)).take (k + 1) ++ List.replicate (nb - (k + 1)) (0 : Int)) := hid (by
                    have e1 : ((bx.map (·.lo)).take k).length = k := by rw [List.length_take, List.length_map]; omega
                    have e2 : nb - k = (nb - (k + 1)) + 1 := by omega
                    have e3 : (bx.map (·.lo)).take (k + 1) = (bx.map (·.lo)).take k ++ [bx[k].lo] := by rw [List.take_add_one, hlo]; rfl
                    rw [HL.out, e2, List.replicate_succ, List.set_append, if_neg (by omega), e1, Nat.sub_self, List.set_cons_zero, e3, List.append_assoc]
                    rfl)
                  have hL2 : (L.set k bx[k].lo).length = nb := by rw [List.length_set]; exact hL
                  generalize bx[k].lo = lo at *
                  generalize bx[k].hi = hi at *
                  have ka := (Kp.refl wr).alloc (.cells #[.int .i64 lo, .int .i64 hi] 57)
                  have BA := Bx.new wr #[.int .i64 lo, .int .i64 hi] 57
                  have za := alloc_lt wr (.cells #[.int .i64 lo, .int .i64 hi] 57)
                  have hkk : (k : Int) < (nb : Int) := by omega
                  go_upto_region 24 with (fail)
                  generalize wr.alloc (.cells #[.int .i64 lo, .int .i64 hi] 57) = wa at *
                  have kra := kr.trans ka
                  have owna := own.kp ka
                  have hza : g5 < wa.heap.size := by omega
                  have own2 := owna.intSet hL.symm (k := k) (by omega) lo
                  have hc' := owna.intCell hL.symm (k := k) (by omega)
                  have hfz := owna.frozen hL.symm k
                  have k2 := kra.set (p := ⟨g5, k, none⟩) (by show w5.heap.size ≤ g5; rw [hg5.out]; exact Nat.le_refl _) (.int .i64 lo)
                  have hz2 : g5 < (wa.setCell ⟨g5, k, none⟩ (.int .i64 lo)).heap.size := by simpa [World.setCell] using hza
                  have a0 := BA.cell (j := 0) rfl
                  generalize L[k] = x0 at *
                  generalize L.set k lo = L2 at *
                  clear hL own owna i1 i2 BA hlo hbr
                  go_wp2
                  go_roundw
                  case rel => exact ⟨k + 1, L2, by omega, by go_num, hL2, HN, own2, k2, hz2⟩
                  case measure => simp [intOf]; omega
                · have HLL : Hid (L = bx.map (·.lo)) := hid (by
                    rw [HL.out, show k = nb by omega, Nat.sub_self, List.take_of_length_le (by rw [List.length_map, HLEN.out]; exact Nat.le_refl _)]
                    simp)
                  have hLb : (bx.map (·.lo)).length = nb := by rw [List.length_map]; exact HLEN.out
                  have hB6 := B65.kp kr (by rw [← hg5.out]; omega)
                  have hW6 := hW5.kp kr (by rw [← hg5.out]; omega)
                  have k06 := k05.trans (kr.fx _)
                  rw [HLL.out] at own
                  have hgz : g5 ≠ z6 := by omega
                  have k0n := k06
                  have hWn := hW6
                  replace hLb := hid hLb
                  replace hL := hid hL
                  clear B65 hW5 k05 hS5 BT5
                  by_cases hc0 : 0 ≤ ch
                  · have hmx' : max ch 0 = ch := by omega
                    have hmz := hid hmx'
                    clear hmx' hmx hch1 hch2
                    have y0 := (hB6).cell (j := 0) rfl
                    have y1 := (hB6).cell (j := 1) rfl
                    have y2 := (hB6).cell (j := 2) rfl
                    have y3 := (hB6).cell (j := 3) rfl
                    have y4 := (hB6).cell (j := 4) rfl
                    have y5 := (hB6).cell (j := 5) rfl
                    have y6 := (hB6).cell (j := 6) rfl
                    have f0 := (hB6).free (j := 0) (by simp)
                    have f1 := (hB6).free (j := 1) (by simp)
                    have f2 := (hB6).free (j := 2) (by simp)
                    have f3 := (hB6).free (j := 3) (by simp)
                    have f4 := (hB6).free (j := 4) (by simp)
                    have f5 := (hB6).free (j := 5) (by simp)
                    have f6 := (hB6).free (j := 6) (by simp)
                    go_wp2
                    try simp only [Exit.inBlock, Exit.then]
                    have BE := (hB6).all (cs := [.slice (some ⟨g5, 0, none⟩) nb nb, .int .i64 ch, .int .i64 0, .slice none 0 0, .int .i64 0, .int .i64 0, .slice none 0 0]) rfl
                    change bodyPost _ _ _ _ _ (wr.setCells z6 0 [.slice (some ⟨g5, 0, none⟩) nb nb, .int .i64 ch, .int .i64 0, .slice none 0 0, .int .i64 0, .int .i64 0, .slice none 0 0])
                    refine bodyPost_ret (results_cell_bx rfl _ (wr.setCells z6 0 [.slice (some ⟨g5, 0, none⟩) nb nb, .int .i64 ch, .int .i64 0, .slice none 0 0, .int .i64 0, .int .i64 0, .slice none 0 0]) z6 [.slice (some ⟨g5, 0, none⟩) nb nb, .int .i64 ch, .int .i64 0, .slice none 0 0, .int .i64 0, .int .i64 0, .slice none 0 0] _ rfl BE.range Tryz.underlying64 rfl (by kernel_rfl)) rfl ?_
                    have kS : Fx (fun q => q = z6) wr (wr.setCells z6 0 [.slice (some ⟨g5, 0, none⟩) nb nb, .int .i64 ch, .int .i64 0, .slice none 0 0, .int .i64 0, .int .i64 0, .slice none 0 0]) := setsFx z6 0 _ _ (Fx.refl _ _) (.inl rfl)
                    have kE := k0n.thru kS (fun q hq e => by have := hz6.out; omega)
                    have hWE := hWn.fx kS (hWn.lt (by simp)) (fun e => by omega)
                    generalize wr.setCells z6 0 [.slice (some ⟨g5, 0, none⟩) nb nb, .int .i64 ch, .int .i64 0, .slice none 0 0, .int .i64 0, .int .i64 0, .slice none 0 0] = wE at *
                    have hSE := own.fx kS (fun q hq e => by
                      have : g5 = q := by simpa [Value.ownBlock] using hq
                      omega)
                    unfold NodeR
                    dsimp only
                    refine ⟨hA.out, kE, ?_, g5, nb, ?_, ?_⟩
                    · rw [← hcc.out]
                      exact hWE
                    · rw [hLb.out, hmz.out]
                    · rw [hLb.out]
                      exact hSE.less (by rw [← hz6.out]; omega)
                  · have hmx' : max ch 0 = 0 := by omega
                    have hmz := hid hmx'
                    clear hmx' hmx hch1 hch2
                    have y0 := (hB6).cell (j := 0) rfl
                    have y1 := (hB6).cell (j := 1) rfl
                    have y2 := (hB6).cell (j := 2) rfl
                    have y3 := (hB6).cell (j := 3) rfl
                    have y4 := (hB6).cell (j := 4) rfl
                    have y5 := (hB6).cell (j := 5) rfl
                    have y6 := (hB6).cell (j := 6) rfl
                    have f0 := (hB6).free (j := 0) (by simp)
                    have f1 := (hB6).free (j := 1) (by simp)
                    have f2 := (hB6).free (j := 2) (by simp)
                    have f3 := (hB6).free (j := 3) (by simp)
                    have f4 := (hB6).free (j := 4) (by simp)
                    have f5 := (hB6).free (j := 5) (by simp)
                    have f6 := (hB6).free (j := 6) (by simp)
                    go_wp2
                    try simp only [Exit.inBlock, Exit.then]
                    have BE := (hB6).all (cs := [.slice (some ⟨g5, 0, none⟩) nb nb, .int .i64 (0 : Int), .int .i64 0, .slice none 0 0, .int .i64 0, .int .i64 0, .slice none 0 0]) rfl
                    change bodyPost _ _ _ _ _ (wr.setCells z6 0 [.slice (some ⟨g5, 0, none⟩) nb nb, .int .i64 (0 : Int), .int .i64 0, .slice none 0 0, .int .i64 0, .int .i64 0, .slice none 0 0])
                    refine bodyPost_ret (results_cell_bx rfl _ (wr.setCells z6 0 [.slice (some ⟨g5, 0, none⟩) nb nb, .int .i64 (0 : Int), .int .i64 0, .slice none 0 0, .int .i64 0, .int .i64 0, .slice none 0 0]) z6 [.slice (some ⟨g5, 0, none⟩) nb nb, .int .i64 (0 : Int), .int .i64 0, .slice none 0 0, .int .i64 0, .int .i64 0, .slice none 0 0] _ rfl BE.range Tryz.underlying64 rfl (by kernel_rfl)) rfl ?_
                    have kS : Fx (fun q => q = z6) wr (wr.setCells z6 0 [.slice (some ⟨g5, 0, none⟩) nb nb, .int .i64 (0 : Int), .int .i64 0, .slice none 0 0, .int .i64 0, .int .i64 0, .slice none 0 0]) := setsFx z6 0 _ _ (Fx.refl _ _) (.inl rfl)
                    have kE := k0n.thru kS (fun q hq e => by have := hz6.out; omega)
                    have hWE := hWn.fx kS (hWn.lt (by simp)) (fun e => by omega)
                    generalize wr.setCells z6 0 [.slice (some ⟨g5, 0, none⟩) nb nb, .int .i64 (0 : Int), .int .i64 0, .slice none 0 0, .int .i64 0, .int .i64 0, .slice none 0 0] = wE at *
                    have hSE := own.fx kS (fun q hq e => by
                      have : g5 = q := by simpa [Value.ownBlock] using hq
                      omega)
                    unfold NodeR
                    dsimp only
                    refine ⟨hA.out, kE, ?_, g5, nb, ?_, ?_⟩
                    · rw [← hcc.out]
                      exact hWE
                    · rw [hLb.out, hmz.out]
                    · rw [hLb.out]
                      exact hSE.less (by rw [← hz6.out]; omega)
            · rw [Nat.zero_add] at hi
              have HR := hR2.out (by rw [hi]; omega)
              rw [hR.out, hi] at HR
              rw [hi]
              have hfine := hid fun k => half_fine hfb hj hp k
              clear hR1 hR2 hall
              obtain ⟨gb, ob, hab, hgb, i1, i2⟩ := (hO5.sl encRng_len).rng hj
              subst hab
              have hpk : pick bx (j : Int) = ⟨bx[j].lo, bx[j].hi⟩ := pick_at bx j hj
              have hbd := not_bad (hfb.2.1 bx[j] (List.getElem_mem hj))
              have hmid := mid_bounds (hfb.2.1 bx[j] (List.getElem_mem hj)) hp
              have hM : middle (pick bx (j : Int)) = middle ⟨bx[j].lo, bx[j].hi⟩ := by rw [hpk]
              have hmid' : bx[j].lo ≤ middle ⟨bx[j].lo, bx[j].hi⟩ ∧ middle ⟨bx[j].lo, bx[j].hi⟩ < bx[j].hi := hmid
              rw [hM] at HR
              replace hM := hid hM
              replace hpk := hid hpk
              clear hmid
              have hnj : (j : Int) < (nb : Int) := by omega
              have hjn : ¬ (j : Int) < 0 := by omega
              have hj0 : (0 : Int) ≤ (j : Int) := by omega
              have e9 : decide ((j : Int) < 0) = false := decide_eq_false hjn
              obtain ⟨hcap1, hcap2⟩ := (hO5.sl encRng_len).caps
              rw [hlen3] at hcap1
              replace hp := hid hp
              have HJ := hid hj
              generalize bx[j] = pr at *
              clear hj
              obtain ⟨lo, hi'⟩ := pr
              dsimp only at *
              go_wp2_with fail
              refine (Middle_any lo hi' w5).mono ?_
              rintro e w6 ⟨rfl, k6⟩
              generalize middle ⟨lo, hi'⟩ = mt at *
              have hW6 := hW5.kp k6 (by omega)
              have hO6 := hO5.kp k6
              have hS6 := hS5.kp k6
              have B66 := B65.kp k6 (by omega)
              have BT6 := BT5.kp k6 (by omega)
              have k06 := k05.trans (k6.fx _)
              have hz6' := k6.size
              have hD6 := hD5.fx (k6.fx X)
              have i1' := k6.cellS i1
              have i2' := k6.cellS i2
              clear hW5 hO5 hS5 B65 BT5 k05 k6 hD5 i1 i2
              have t0 := BT6.cell (j := 0) rfl
              have t2 := BT6.cell (j := 2) rfl
              have t3 := BT6.cell (j := 3) rfl
              have f0 := BT6.free (j := 0) (by simp)
              have f2 := BT6.free (j := 2) (by simp)
              have f3 := BT6.free (j := 3) (by simp)
              go_upto_region 29 with (fail)
              have BT7 := ((BT6.set (j := 0) (by simp) (.int .i64 1)).set (j := 2) (by simp) (.int .i64 (j : Int))).set (j := 3) (by simp) (.int .i64 mt)
              have k67 : Fx (fun q => q = t9) w6 (((w6.setCell ⟨t9, 0, none⟩ (.int .i64 1)).setCell ⟨t9, 2, none⟩ (.int .i64 (j : Int))).setCell ⟨t9, 3, none⟩ (.int .i64 mt)) :=
                (((Fx.refl (fun q => q = t9) w6).set1 ⟨t9, 0, none⟩ _ (.inl rfl)).set1 ⟨t9, 2, none⟩ _ (.inl rfl)).set1 ⟨t9, 3, none⟩ _ (.inl rfl)
              generalize ((w6.setCell ⟨t9, 0, none⟩ (.int .i64 1)).setCell ⟨t9, 2, none⟩ (.int .i64 (j : Int))).setCell ⟨t9, 3, none⟩ (.int .i64 mt) = w7 at *
              simp only [List.set_cons_zero, List.set_cons_succ] at BT7
              have hgbl : gb < t9 := hvl3 gb rfl
              have hW7 := hW6.fx k67 (by omega) (fun e => by omega)
              have hO7 := hO6.fx k67 (fun q hq e => by have := hvl3 q hq; omega)
              have hS7 := hS6.fx k67 (fun q hq e => by have := hsb3 q hq; omega)
              have B67 := B66.fx k67 (by omega) (fun e => by omega)
              have k07 := k06.thru (X := PW bw (.slice (some ⟨gb, ob, none⟩) nb cb)) k67 (fun q hq e => by have := hz6.out; omega)
              have hD7 := hD0.out.fx (k07.mono fun q _ e => .inl (by
                rcases e with e | e
                · exact e ▸ hXw
                · exact hXb q e))
              have j1 := k67.cellS i1' (fun e => by have e : gb = t9 := e; omega)
              have j2 := k67.cellS i2' (fun e => by have e : gb = t9 := e; omega)
              clear hW6 hO6 hS6 B66 k06 hD6 i1' i2' BT6 t0 t2 t3 f0 f2 f3
              obtain ⟨hw1, hw2⟩ : wrap64 (mt + 1) = mt + 1 ∧ IntKind.i64.wrap (mt + 1) = mt + 1 := ⟨IntWalk.wrap64_in _ (by omega), IntWalk.i64_in _ (by omega)⟩
              refine wp_region_held_drew (S := fun W => W.cell? ⟨gb, ob + j * 2, none⟩ = some (.int .i64 lo) ∧ W.cell? ⟨gb, ob + j * 2 + 1, none⟩ = some (.int .i64 hi') ∧ Kp w7 W) (by kernel_rfl) ⟨(Kp.refl w7).drew.cellS j1, (Kp.refl w7).drew.cellS j2, (Kp.refl w7).drew⟩ (fun hHeld => ?_)
              refine take_at 17 134 (v := ?_) rfl rfl (by kernel_rfl) (by kernel_rfl) (by kernel_rfl) (fun _ _ _ h => h) hHeld (Or.inl ⟨by kernel_rfl, ?_⟩) ?_
              rotate_left
              · intro w hSw; (try dsimp only at hSw); go_simp; try with_reducible rfl
              simp only [Act.put, List.setIfInBounds_toArray, List.set_cons_zero, List.set_cons_succ]
              refine take_at 0 117 (v := ?_) rfl rfl (by kernel_rfl) (by kernel_rfl) (by kernel_rfl) (fun _ _ _ h => h) hHeld (Or.inl ⟨by kernel_rfl, ?_⟩) ?_
              rotate_left
              · intro w hSw; (try dsimp only at hSw); go_simp; try with_reducible rfl
              simp only [Act.put, List.setIfInBounds_toArray, List.set_cons_zero, List.set_cons_succ]
              refine take_at 1 118 (v := ?_) rfl rfl (by kernel_rfl) (by kernel_rfl) (by kernel_rfl) (fun _ _ _ h => h) hHeld (Or.inl ⟨by kernel_rfl, ?_⟩) ?_
              rotate_left
              · intro w hSw; (try dsimp only at hSw); go_simp; try with_reducible rfl
              simp only [Act.put, List.setIfInBounds_toArray, List.set_cons_zero, List.set_cons_succ]
              refine take_at 2 119 (v := ?_) rfl rfl (by kernel_rfl) (by kernel_rfl) (by kernel_rfl) (fun _ _ _ h => h) hHeld (Or.inl ⟨by kernel_rfl, ?_⟩) ?_
              rotate_left
              · intro w hSw; (try dsimp only at hSw); go_simp; try with_reducible rfl
              simp only [Act.put, List.setIfInBounds_toArray, List.set_cons_zero, List.set_cons_succ]
              refine take_at 3 120 (v := ?_) rfl rfl (by kernel_rfl) (by kernel_rfl) (by kernel_rfl) (fun _ _ _ h => h) hHeld (Or.inl ⟨by kernel_rfl, ?_⟩) ?_
              rotate_left
              · intro w hSw; (try dsimp only at hSw); go_simp; try with_reducible rfl
              simp only [Act.put, List.setIfInBounds_toArray, List.set_cons_zero, List.set_cons_succ]
              refine take_at 4 121 (v := ?_) rfl rfl (by kernel_rfl) (by kernel_rfl) (by kernel_rfl) (fun _ _ _ h => h) hHeld (Or.inl ⟨by kernel_rfl, ?_⟩) ?_
              rotate_left
              · intro w hSw; (try dsimp only at hSw); go_simp; try with_reducible rfl
              simp only [Act.put, List.setIfInBounds_toArray, List.set_cons_zero, List.set_cons_succ]
              refine take_at 5 122 (v := ?_) rfl rfl (by kernel_rfl) (by kernel_rfl) (by kernel_rfl) (fun _ _ _ h => h) hHeld (Or.inl ⟨by kernel_rfl, ?_⟩) ?_
              rotate_left
              · intro w hSw; (try dsimp only at hSw); go_simp; try with_reducible rfl
              simp only [Act.put, List.setIfInBounds_toArray, List.set_cons_zero, List.set_cons_succ]
              refine take_at 6 123 (v := ?_) rfl rfl (by kernel_rfl) (by kernel_rfl) (by kernel_rfl) (fun _ _ _ h => h) hHeld (Or.inl ⟨by kernel_rfl, ?_⟩) ?_
              rotate_left
              · intro w hSw; (try dsimp only at hSw); go_simp; try with_reducible rfl
              simp only [Act.put, List.setIfInBounds_toArray, List.set_cons_zero, List.set_cons_succ]
              refine take_at 7 124 (v := ?_) rfl rfl (by kernel_rfl) (by kernel_rfl) (by kernel_rfl) (fun _ _ _ h => h) hHeld (Or.inl ⟨by kernel_rfl, ?_⟩) ?_
              rotate_left
              · intro w hSw; (try dsimp only at hSw); go_simp; try with_reducible rfl
              simp only [Act.put, List.setIfInBounds_toArray, List.set_cons_zero, List.set_cons_succ]
              refine take_at 8 125 (v := ?_) rfl rfl (by kernel_rfl) (by kernel_rfl) (by kernel_rfl) (fun _ _ _ h => h) hHeld (Or.inl ⟨by kernel_rfl, ?_⟩) ?_
              rotate_left
              · intro w hSw; (try dsimp only at hSw); go_simp; try with_reducible rfl
              simp only [Act.put, List.setIfInBounds_toArray, List.set_cons_zero, List.set_cons_succ]
              refine take_at 9 126 (v := ?_) rfl rfl (by kernel_rfl) (by kernel_rfl) (by kernel_rfl) (fun _ _ _ h => h) hHeld (Or.inl ⟨by kernel_rfl, ?_⟩) ?_
              rotate_left
              · intro w hSw; (try dsimp only at hSw); go_simp; try with_reducible rfl
              simp only [Act.put, List.setIfInBounds_toArray, List.set_cons_zero, List.set_cons_succ]
              refine take_at 10 127 (v := ?_) rfl rfl (by kernel_rfl) (by kernel_rfl) (by kernel_rfl) (fun _ _ _ h => h) hHeld (Or.inl ⟨by kernel_rfl, ?_⟩) ?_
              rotate_left
              · intro w hSw; (try dsimp only at hSw); go_simp; try with_reducible rfl
              simp only [Act.put, List.setIfInBounds_toArray, List.set_cons_zero, List.set_cons_succ]
              refine take_at 11 128 (v := ?_) rfl rfl (by kernel_rfl) (by kernel_rfl) (by kernel_rfl) (fun _ _ _ h => h) hHeld (Or.inl ⟨by kernel_rfl, ?_⟩) ?_
              rotate_left
              · intro w hSw; (try dsimp only at hSw); go_simp; try with_reducible rfl
              simp only [Act.put, List.setIfInBounds_toArray, List.set_cons_zero, List.set_cons_succ]
              refine take_at 12 129 (v := ?_) rfl rfl (by kernel_rfl) (by kernel_rfl) (by kernel_rfl) (fun _ _ _ h => h) hHeld (Or.inl ⟨by kernel_rfl, ?_⟩) ?_
              rotate_left
              · intro w hSw; (try dsimp only at hSw); go_simp; try with_reducible rfl
              simp only [Act.put, List.setIfInBounds_toArray, List.set_cons_zero, List.set_cons_succ]
              refine take_at 13 130 (v := ?_) rfl rfl (by kernel_rfl) (by kernel_rfl) (by kernel_rfl) (fun _ _ _ h => h) hHeld (Or.inl ⟨by kernel_rfl, ?_⟩) ?_
              rotate_left
              · intro w hSw; (try dsimp only at hSw); go_simp; try with_reducible rfl
              simp only [Act.put, List.setIfInBounds_toArray, List.set_cons_zero, List.set_cons_succ]
              refine take_at 14 131 (v := ?_) rfl rfl (by kernel_rfl) (by kernel_rfl) (by kernel_rfl) (fun _ _ _ h => h) hHeld (Or.inl ⟨by kernel_rfl, ?_⟩) ?_
              rotate_left
              · intro w hSw; (try dsimp only at hSw); go_simp; try with_reducible rfl
              simp only [Act.put, List.setIfInBounds_toArray, List.set_cons_zero, List.set_cons_succ]
              have kd : Kp w7 w7.drew := (Kp.refl w7).drew
              generalize w7.drew = w8 at *
              have k89 := (Kp.refl w8).alloc (.cells #[.int .i64 lo, .int .i64 mt, .int .i64 (mt + 1), .int .i64 hi'] 57)
              have BH := Bx.new w8 #[.int .i64 lo, .int .i64 mt, .int .i64 (mt + 1), .int .i64 hi'] 57
              have zH := World.size_alloc w8 (.cells #[.int .i64 lo, .int .i64 mt, .int .i64 (mt + 1), .int .i64 hi'] 57)
              refine wpAnyH_ready (rs := [15]) (by kernel_rfl) (by simp) ?_
              refine AllReadyH.cons (o := _) rfl (fun K hK => ?_) AllReadyH.nil
              go_simp
              refine hK.out _ _ (⟨k89.cellS hHeld.1, k89.cellS hHeld.2.1, hHeld.2.2.trans k89⟩) (fun hHeld2 => ?_)
              clear hK K hHeld
              have hHeld := hHeld2
              clear hHeld2
              try simp only [Act.put, List.setIfInBounds_toArray, List.set_cons_zero, List.set_cons_succ]
              refine take_at 16 133 (v := ?_) rfl rfl (by kernel_rfl) (by kernel_rfl) (by kernel_rfl) (fun _ _ _ h => h) hHeld (Or.inl ⟨by kernel_rfl, ?_⟩) ?_
              rotate_left
              · intro w hSw; (try dsimp only at hSw); go_simp; try with_reducible rfl
              simp only [Act.put, List.setIfInBounds_toArray, List.set_cons_zero, List.set_cons_succ]
              refine wpAnyH_done (by kernel_rfl) ?_ _
              obtain ⟨ph, hph⟩ : ∃ ph, ph = w8.heap.size := ⟨_, rfl⟩
              rw [← hph] at BH zH ⊢
              have k79 := hHeld.2.2
              generalize w8.alloc (.cells #[.int .i64 lo, .int .i64 mt, .int .i64 (mt + 1), .int .i64 hi'] 57) = w9 at *
              simp only [List.toList_toArray] at BH
              have hz79 := k79.size
              have hz67 := k67.size
              have hph7 : w7.heap.size ≤ ph := by rw [hph]; exact kd.size
              replace hph := hid hph
              obtain ⟨zp, hzp⟩ : ∃ zp, zp = w9.heap.size := ⟨_, rfl⟩
              have hzw := hz6.out
              have hNB : NB w X zp (.slice (some ⟨gb, ob, none⟩) nb cb) bw z6 t9 (.slice As ns cs) := ⟨hXw, hl, by omega, by omega, by omega, by omega, by omega, by omega, fun q hq => ⟨hvl q hq, hne q hq⟩, fun q hq => by
                have a1 := hbk3 q hq
                have a2 := hsb3 q hq
                exact ⟨by omega, by omega, by omega, by omega⟩⟩
              have hNI : NI w (PData css csg (.slice Ar rows.length cr) (.slice Ag grs.length cg) rows grs) (fun W => Bx W ph [.int .i64 lo, .int .i64 mt, .int .i64 (mt + 1), .int .i64 hi']) X zp N b c (.slice (some ⟨gb, ob, none⟩) nb cb) bw z6 t9 x0 x1 (.slice Ag grs.length cg) (.slice Acs ncs ccs) (.slice Ar rows.length cr) (.int .i64 1) (.slice As ns cs) (.int .i64 (j : Int)) (.int .i64 mt) (.slice As ns cs) F.steps bx w9 (.slice none 0 0) [] [] (1 + F.steps.length) :=
                ⟨KI.nil _ _ _, BT7.kp k79 (by omega), B67.kp k79 (by omega), by rw [show c + (1 + F.steps.length) = c + 1 + F.steps.length by omega]; exact hW7.kp k79 (by omega), by omega, hO7.kp k79, hS7.kp k79,
                  fun W k => BH.fx k (by omega) (fun e => by
                    rcases e with e | e | e
                    · omega
                    · omega
                    · omega), k07.trans (k79.fx _), hD7.fx (k79.fx _), fun q hq => by simp [Value.ownBlock] at hq, by omega⟩
              have hR0 : Hid (splitF rows grs N F.steps bx (j : Int) mt (b - c) (2 - 0) 0 [] (1 + F.steps.length) = R) := hid HR.symm
              have hFS := hid (Nat.le_refl F.steps.length)
              have hphz : ph < zp := by omega
              replace hzp := hid hzp
              clear hzw
              clear HR BT7 B67 hW7 hO7 hS7 BH k07 k79 hD7 j1 j2 hHeld k89 kd hw1 hw2 k67
              go_wp2_with fail
              go_loopw [134] (fun i wr => ∃ (k : Nat) (css2 : List (Elm 5)) (ts : List Tr) (cst : Nat) (vk : Value), k ≤ 2 ∧ i = .int .i64 (k : Int) ∧ NI w (PData css csg (.slice Ar rows.length cr) (.slice Ag grs.length cg) rows grs) (fun W => Bx W ph [.int .i64 lo, .int .i64 mt, .int .i64 (mt + 1), .int .i64 hi']) X zp N b c (.slice (some ⟨gb, ob, none⟩) nb cb) bw z6 t9 x0 x1 (.slice Ag grs.length cg) (.slice Acs ncs ccs) (.slice Ar rows.length cr) (.int .i64 1) (.slice As ns cs) (.int .i64 (j : Int)) (.int .i64 mt) (.slice As ns cs) F.steps bx wr vk css2 ts cst ∧ css2.length ≤ k ∧ 1 ≤ cst ∧ Hid (splitF rows grs N F.steps bx (j : Int) mt (b - c) (2 - k) k ts cst = R)) (fun i _ => 2 - (intOf i).toNat)
              case atStart => exact ⟨0, [], [], _, _, by omega, rfl, hNI, by simp, by omega, hR0⟩
              case round =>
                clear hNI hR0
                obtain ⟨k, css2, ts, cst, vk, hk, rfl, hI, hcl, hcst, HR⟩ := hrel
                by_cases hk2 : k < 2
                · obtain ⟨lk, uk, cl, cu, HHF⟩ : ∃ lk uk, wr.cell? ⟨ph, k * 2, none⟩ = some (.int .i64 lk) ∧ wr.cell? ⟨ph, k * 2 + 1, none⟩ = some (.int .i64 uk) ∧ Hid (halfR bx (j : Int) mt k = ⟨lk, uk⟩) := by
                    have hB := hI.oth.here
                    have hk3 : k = 0 ∨ k = 1 := by omega
                    rcases hk3 with rfl | rfl
                    · exact ⟨lo, mt, hB.cell (j := 0) rfl, hB.cell (j := 1) rfl, hid (by unfold halfR; rw [if_pos rfl, hpk.out])⟩
                    · exact ⟨mt + 1, hi', hB.cell (j := 2) rfl, hB.cell (j := 3) rfl, hid (by unfold halfR; rw [if_neg (by omega), hpk.out])⟩
                  have hfk : Hid (fineBox nb (bx.set j ⟨lk, uk⟩)) := hid (by
                    have h := hfine.out k
                    rw [hM.out, HHF.out] at h
                    exact h)
                  have hphl : ph < wr.heap.size := by have := hI.zw; omega
                  have hkl : (k : Int) < 2 := by omega
                  have ka := (Kp.refl wr).alloc (.cells #[.int .i64 lk, .int .i64 uk] 57)
                  have BA := Bx.new wr #[.int .i64 lk, .int .i64 uk] 57
                  have za := World.size_alloc wr (.cells #[.int .i64 lk, .int .i64 uk] 57)
                  go_upto_region 32 with (fail)
                  generalize wr.alloc (.cells #[.int .i64 lk, .int .i64 uk] 57) = wa at *
                  obtain ⟨r20, hr20⟩ : ∃ r20, r20 = wr.heap.size := ⟨_, rfl⟩
                  rw [← hr20] at BA za ⊢
                  replace hr20 := hid hr20
                  simp only [List.toList_toArray] at BA
                  have hIa := hI.kp ka
                  go_wp2_with fail
                  refine (CloneRange_any _ bx wa (hIa.own.sl encRng_len) (by omega)).mono ?_
                  rintro e wb ⟨vh, rfl, hOh, kb⟩
                  obtain ⟨gh, ch', hvh, hch1', hch2', hghb, hghl⟩ := hOh.row (by have := HJ.out; omega)
                  rw [hlen3] at hvh hch1'
                  subst hvh
                  have kab := ka.trans kb
                  have hIb := hI.kp kab
                  have BAb := BA.kp kb (by omega)
                  have a0 := BAb.cell (j := 0) rfl
                  have a1 := BAb.cell (j := 1) rfl
                  have hOh0 := hOh.less (Nat.zero_le _)
                  obtain ⟨h0, h1⟩ := hOh0.rngCell hlen3.symm HJ.out
                  have hfz := fun o => hOh0.frozen hlen3.symm o
                  have hOs := hOh0.rngSet hlen3.symm HJ.out ⟨lk, uk⟩
                  have ks : Fx (fun q => q = gh) wb ((wb.setCell ⟨gh, j * 2, none⟩ (.int .i64 lk)).setCell ⟨gh, j * 2 + 1, none⟩ (.int .i64 uk)) := ((Fx.refl (fun q => q = gh) wb).set1 ⟨gh, j * 2, none⟩ _ (.inl rfl)).set1 ⟨gh, j * 2 + 1, none⟩ _ (.inl rfl)
                  clear cl cu
                  go_upto_region 34 with (fail)
                  generalize (wb.setCell ⟨gh, j * 2, none⟩ (.int .i64 lk)).setCell ⟨gh, j * 2 + 1, none⟩ (.int .i64 uk) = wc at *
                  have hge : wr.heap.size ≤ gh := Nat.le_trans ka.size hghb
                  have kwc : Kp wr wc := ks.kp_of kab (fun q e => e ▸ hge)
                  have hIc := hI.kp kwc
                  clear h0 h1 hfz a0 a1 BAb BA hIa hIb hOh hOh0
                  have hcb' := hIc.cb
                  have hbN : b - (c + cst) ≤ N := by omega
                  have hIH := ih bw x0 x1 Ag Ar Acs cg cr ncs ccs rows grs nb b (c + cst) (.slice (some ⟨gh, 0, none⟩) nb ch') (bx.set j ⟨lk, uk⟩) ch (fun q => X q ∨ w.heap.size ≤ q) css csg wc hIc.wk hOs (fun q hq => by
                    have : gh = q := by simpa [Value.ownBlock] using hq
                    have a1 := hNB.wz
                    have a2 := hI.zw
                    have a3 := hNB.bz
                    omega) (.inl hXw) (fun q hq => by
                    have : gh = q := by simpa [Value.ownBlock] using hq
                    exact .inr (by have a1 := hNB.wz; have a2 := hI.zw; omega)) hIc.rd hcb' hb hfk.out hn hr hg hch.out hch1 hch2 hncs hbN
                  obtain ⟨F', hF'⟩ : ∃ F', Hid (nodeF rows grs N (bx.set j ⟨lk, uk⟩) (b - (c + cst)) = F') := ⟨_, hid rfl⟩
                  rw [hF'.out] at hIH
                  have hHR : Hid (kidF F' 0 cst (fun t c' => splitF rows grs N F.steps bx (j : Int) mt (b - c) (2 - (k + 1)) (k + 1) (ts ++ [t]) c') = R) := hid (by
                    have h := HR.out
                    rw [show 2 - k = (2 - (k + 1)) + 1 by omega, splitF_next, HHF.out, Int.toNat_natCast, show b - c - cst = b - (c + cst) by omega, hF'.out] at h
                    exact h)
                  replace hIH := hid hIH
                  have hgh0 : ∀ q, (Value.slice (some ⟨gh, 0, none⟩) nb ch').ownBlock = some q → wr.heap.size ≤ q := fun q hq => by
                    have : gh = q := by simpa [Value.ownBlock] using hq
                    omega
                  replace hgh0 := hid hgh0
                  replace hge := hid hge
                  go_wp2_with fail
                  refine hIH.out.mono ?_
                  rintro e wd hN
                  have hzc := hI.zw
                  have hmf : ∀ (fn : Fn) (first cap : Array Value) (w : World), (Instr.makeFunc fn first cap).run Tryz.prog w = .ok (.func fn first cap) w := fun _ _ _ _ => rfl
                  have hcfk := fun args W => kids_real.run args W
                  cases F' with
                  | out =>
                    unfold NodeR at hN
                    dsimp only at hN
                    obtain ⟨rfl, kN⟩ := hN
                    have hX : R = .out := hHR.out.symm
                    subst hX
                    have kE := hIc.fx.thru (X := PW bw (.slice (some ⟨gb, ob, none⟩) nb cb)) kN (fun q hq e => by
                      rcases e with e | e
                      · exact .inl e
                      · have := hgh0.out q e
                        have := hNB.wz
                        omega)
                    have hEE : NodeR w (N + 1) b c ch (.slice (some ⟨gb, ob, none⟩) nb cb) bw x0 x1 (.slice Ag grs.length cg) (.slice Acs ncs ccs) (.slice Ar rows.length cr) .out (.panicked Pn) wd := ⟨rfl, kE⟩
                    replace hEE := hid hEE
                    go_wp2
                    exact ⟨rfl, hEE.out⟩
                  | sol vs i d =>
                    unfold NodeR at hN
                    dsimp only at hN
                    obtain ⟨hcd, kN, hWN, g, cp, rfl, hOv⟩ := hN
                    have hX : R = .sol vs 0 (cst + d) := hHR.out.symm
                    subst hX
                    have hId := hI.child hNB kwc hgh0.out kN (d := d) (by rw [← Nat.add_assoc]; exact hWN) (by omega)
                    have ke := (Kp.refl wd).alloc (.cells #[.slice (some ⟨g, 0, none⟩) vs.length cp, .int .i64 (max ch 0), .int .i64 0, .slice none 0 0, .int .i64 0, .int .i64 0, .slice none 0 0] 64)
                    have BE := Bx.new wd #[.slice (some ⟨g, 0, none⟩) vs.length cp, .int .i64 (max ch 0), .int .i64 0, .slice none 0 0, .int .i64 0, .int .i64 0, .slice none 0 0] 64
                    have ze := World.size_alloc wd (.cells #[.slice (some ⟨g, 0, none⟩) vs.length cp, .int .i64 (max ch 0), .int .i64 0, .slice none 0 0, .int .i64 0, .int .i64 0, .slice none 0 0] 64)
                    obtain ⟨vl, hvl9⟩ : ∃ vl, Hid (vl = vs.length) := ⟨_, hid rfl⟩
                    rw [← hvl9.out] at ke BE ze hOv ⊢
                    obtain ⟨mx, hmx⟩ : ∃ mx, Hid (mx = max ch 0) := ⟨_, hid rfl⟩
                    rw [← hmx.out] at ke BE ze ⊢
                    go_upto_region 35 with (fail)
                    generalize wd.alloc (.cells #[.slice (some ⟨g, 0, none⟩) vl cp, .int .i64 mx, .int .i64 0, .slice none 0 0, .int .i64 0, .int .i64 0, .slice none 0 0] 64) = we at *
                    obtain ⟨r22, hr22⟩ : ∃ r22, r22 = wd.heap.size := ⟨_, rfl⟩
                    rw [← hr22] at BE ze ⊢
                    replace hr22 := hid hr22
                    have hIe := hId.kp ke
                    have hzce := kwc.size
                    have hOve := hOv.kp ke
                    have y0 := (BE).cell (j := 0) rfl
                    have y1 := (BE).cell (j := 1) rfl
                    have y2 := (BE).cell (j := 2) rfl
                    have y3 := (BE).cell (j := 3) rfl
                    have y4 := (BE).cell (j := 4) rfl
                    have y5 := (BE).cell (j := 5) rfl
                    have y6 := (BE).cell (j := 6) rfl
                    have f0 := (BE).free (j := 0) (by simp)
                    have f1 := (BE).free (j := 1) (by simp)
                    have f2 := (BE).free (j := 2) (by simp)
                    have f3 := (BE).free (j := 3) (by simp)
                    have f4 := (BE).free (j := 4) (by simp)
                    have f5 := (BE).free (j := 5) (by simp)
                    have f6 := (BE).free (j := 6) (by simp)
                    go_wp2_with fail
                    refine (kids_any t9 (.int .i64 1) (.slice As ns cs) (.int .i64 (j : Int)) (.int .i64 mt) vk css2 (some ⟨g, 0, none⟩) vl cp mx (.int .i64 0) (.slice none 0 0) (.int .i64 0) (.int .i64 0) (.slice none 0 0) (by simp [Value.oneCell']) we hIe.tr hIe.ki.own (fun q hq => by
                      have a1 := hIe.vkz q hq
                      have a2 := hNB.t9z
                      omega) (by omega)).mono ?_
                    rintro e wf ⟨rfl, vk2, hTf, hOf, kf, hatf⟩
                    have hvklt := hI.ki.own.blk_lt
                    have hnf : ∀ q, wr.heap.size ≤ q → ¬ (q = t9 ∨ vk.ownBlock = some q) := fun q hq e => by
                      rcases e with e | e
                      · have a2 := hNB.t9z
                        omega
                      · have := hvklt q e
                        omega
                    have hgw : wr.heap.size ≤ g := by
                      have := hOv.ge g rfl
                      omega
                    have hkn := kN.size
                    have BEf := BE.fx kf (by omega) (hnf r22 (by rw [hr22.out]; omega))
                    have hOvf := hOve.fx kf (fun q hq => by
                      have : g = q := by simpa [Value.ownBlock] using hq
                      exact hnf q (by omega))
                    have hFof := hIe.fo.fx kf (hIe.fo.lt (by simp)) (fun e => by
                      rcases e with e | e
                      · exact hNB.ne e
                      · have a1 := hIe.vkz z6 e
                        have a2 := hNB.z6z
                        omega)
                    have hWf := hIe.wk.fx kf (hIe.wk.lt (by simp)) (fun e => by
                      have a0 := hNB.bz
                      have a1 := hNB.t9w
                      have a2 := hNB.wz
                      rcases e with e | e
                      · omega
                      · have a1 := hIe.vkz bw e
                        omega)
                    have k0n := hIe.fx.thru (X := PW bw (.slice (some ⟨gb, ob, none⟩) nb cb)) kf (fun q hq e => by
                      have a1 := hNB.t9w
                      have a2 := hNB.wz
                      rcases e with e | e
                      · omega
                      · have a1 := hIe.vkz q e
                        omega)
                    have hWn := hWf
                    have hz6n : w.heap.size ≤ z6 := hNB.z6w
                    have hbwz : bw ≠ z6 := by have := hNB.bz; omega
                    clear y0 y1 y2 y3 y4 y5 y6 f0 f1 f2 f3 f4 f5 f6
                    have b0 := BEf.cell (j := 0) rfl
                    have b1 := BEf.cell (j := 1) rfl
                    have b2 := BEf.cell (j := 2) rfl
                    have b3 := BEf.cell (j := 3) rfl
                    have b4 := BEf.cell (j := 4) rfl
                    have b5 := BEf.cell (j := 5) rfl
                    have b6 := BEf.cell (j := 6) rfl
                    have hsome : (some (⟨g, 0, none⟩ : Addr)).isSome = true := rfl
                    rw [hsome]
                    have y0 := (hFof).cell (j := 0) rfl
                    have y1 := (hFof).cell (j := 1) rfl
                    have y2 := (hFof).cell (j := 2) rfl
                    have y3 := (hFof).cell (j := 3) rfl
                    have y4 := (hFof).cell (j := 4) rfl
                    have y5 := (hFof).cell (j := 5) rfl
                    have y6 := (hFof).cell (j := 6) rfl
                    have f0 := (hFof).free (j := 0) (by simp)
                    have f1 := (hFof).free (j := 1) (by simp)
                    have f2 := (hFof).free (j := 2) (by simp)
                    have f3 := (hFof).free (j := 3) (by simp)
                    have f4 := (hFof).free (j := 4) (by simp)
                    have f5 := (hFof).free (j := 5) (by simp)
                    have f6 := (hFof).free (j := 6) (by simp)
                    go_wp2
                    try simp only [Exit.inBlock, Exit.then]
                    have BE := (hFof).all (cs := [.slice (some ⟨g, 0, none⟩) vl cp, .int .i64 mx, .int .i64 0, .slice none 0 0, .int .i64 0, .int .i64 0, .slice none 0 0]) rfl
                    change bodyPost _ _ _ _ _ (wf.setCells z6 0 [.slice (some ⟨g, 0, none⟩) vl cp, .int .i64 mx, .int .i64 0, .slice none 0 0, .int .i64 0, .int .i64 0, .slice none 0 0])
                    refine bodyPost_ret (results_cell_bx rfl _ (wf.setCells z6 0 [.slice (some ⟨g, 0, none⟩) vl cp, .int .i64 mx, .int .i64 0, .slice none 0 0, .int .i64 0, .int .i64 0, .slice none 0 0]) z6 [.slice (some ⟨g, 0, none⟩) vl cp, .int .i64 mx, .int .i64 0, .slice none 0 0, .int .i64 0, .int .i64 0, .slice none 0 0] _ rfl BE.range Tryz.underlying64 rfl (by kernel_rfl)) rfl ?_
                    have kS : Fx (fun q => q = z6) wf (wf.setCells z6 0 [.slice (some ⟨g, 0, none⟩) vl cp, .int .i64 mx, .int .i64 0, .slice none 0 0, .int .i64 0, .int .i64 0, .slice none 0 0]) := setsFx z6 0 _ _ (Fx.refl _ _) (.inl rfl)
                    have kE := k0n.thru kS (fun q hq e => by have := hz6.out; omega)
                    have hWE := hWn.fx kS (hWn.lt (by simp)) (fun e => by omega)
                    generalize wf.setCells z6 0 [.slice (some ⟨g, 0, none⟩) vl cp, .int .i64 mx, .int .i64 0, .slice none 0 0, .int .i64 0, .int .i64 0, .slice none 0 0] = wE at *
                    have hSE := hOvf.fx kS (fun q hq e => by
                      have : g = q := by simpa [Value.ownBlock] using hq
                      have a1 := hNB.z6z
                      omega)
                    unfold NodeR
                    dsimp only
                    have hcbe := hIe.cb
                    refine ⟨hcbe, kE, hWE, g, cp, ?_, ?_⟩
                    · rw [← hvl9.out, ← hmx.out]
                    · rw [← hvl9.out]
                      exact hSE.less (by have a1 := hNB.wz; omega)
                  | ref t d =>
                    unfold NodeR at hN
                    dsimp only at hN
                    obtain ⟨hcd, kN, hWN, q0, q1, q2, q3, q4, rfl, hT⟩ := hN
                    have hX : Hid (splitF rows grs N F.steps bx (j : Int) mt (b - c) (2 - (k + 1)) (k + 1) (ts ++ [t]) (cst + d) = R) := hHR
                    have hId := hI.child hNB kwc hgh0.out kN (d := d) (by rw [← Nat.add_assoc]; exact hWN) (by omega)
                    have hqs := (rdTr_one N wd _ _ hT.here).2
                    obtain ⟨p0, p2, p3, A1, A4, n1, c1, n4, c4, rfl, rfl, rfl, rfl, rfl⟩ := rdTr_form hT.here
                    have ke := (Kp.refl wd).alloc (.cells #[.slice none 0 0, .int .i64 0, (.int .i64 p0), (.slice A1 n1 c1), (.int .i64 p2), (.int .i64 p3), (.slice A4 n4 c4)] 64)
                    have BE := Bx.new wd #[.slice none 0 0, .int .i64 0, (.int .i64 p0), (.slice A1 n1 c1), (.int .i64 p2), (.int .i64 p3), (.slice A4 n4 c4)] 64
                    have ze := World.size_alloc wd (.cells #[.slice none 0 0, .int .i64 0, (.int .i64 p0), (.slice A1 n1 c1), (.int .i64 p2), (.int .i64 p3), (.slice A4 n4 c4)] 64)
                    go_upto_region 35 with (fail)
                    generalize wd.alloc (.cells #[.slice none 0 0, .int .i64 0, (.int .i64 p0), (.slice A1 n1 c1), (.int .i64 p2), (.int .i64 p3), (.slice A4 n4 c4)] 64) = we at *
                    obtain ⟨r22, hr22⟩ : ∃ r22, r22 = wd.heap.size := ⟨_, rfl⟩
                    rw [← hr22] at BE ze ⊢
                    replace hr22 := hid hr22
                    have hIe := hId.kp ke
                    have hzce := kwc.size
                    have hTe := (hT.fx (ke.fx _))
                    have hvklt := hI.ki.own.blk_lt
                    have y0 := (BE).cell (j := 0) rfl
                    have y1 := (BE).cell (j := 1) rfl
                    have y2 := (BE).cell (j := 2) rfl
                    have y3 := (BE).cell (j := 3) rfl
                    have y4 := (BE).cell (j := 4) rfl
                    have y5 := (BE).cell (j := 5) rfl
                    have y6 := (BE).cell (j := 6) rfl
                    have f0 := (BE).free (j := 0) (by simp)
                    have f1 := (BE).free (j := 1) (by simp)
                    have f2 := (BE).free (j := 2) (by simp)
                    have f3 := (BE).free (j := 3) (by simp)
                    have f4 := (BE).free (j := 4) (by simp)
                    have f5 := (BE).free (j := 5) (by simp)
                    have f6 := (BE).free (j := 6) (by simp)
                    go_wp2_with fail
                    refine (kids_any t9 (.int .i64 1) (.slice As ns cs) (.int .i64 (j : Int)) (.int .i64 mt) vk css2 none 0 0 0 (.int .i64 p0) (.slice A1 n1 c1) (.int .i64 p2) (.int .i64 p3) (.slice A4 n4 c4) hqs we hIe.tr hIe.ki.own (fun q hq => by
                      have a1 := hIe.vkz q hq
                      have a2 := hNB.t9z
                      omega) (by omega)).mono ?_
                    rintro e wf ⟨rfl, vk2, hTf, hOf, kf, hatf⟩
                    have hIf := hIe.kid hNB (z := wc.heap.size) (Nat.le_trans hzc hzce) (fun q hq => Nat.lt_of_lt_of_le (hvklt q hq) hzce) (tc := tcE (.int .i64 p0) (.slice A1 n1 c1) (.int .i64 p2) (.int .i64 p3) (.slice A4 n4 c4) hqs) hTe hTf hOf kf hatf
                    have hnone : (none : Option Addr).isSome = false := rfl
                    rw [hnone]
                    have hcl2 : (css2 ++ [tcE (.int .i64 p0) (.slice A1 n1 c1) (.int .i64 p2) (.int .i64 p3) (.slice A4 n4 c4) hqs]).length ≤ k + 1 := by simp; omega
                    replace hcl2 := hid hcl2
                    clear y0 y1 y2 y3 y4 y5 y6 f0 f1 f2 f3 f4 f5 f6
                    go_wp2_with fail
                    go_roundw
                    case rel => exact ⟨k + 1, _, _, _, _, by omega, by go_num, hIf, hcl2.out, by omega, hX⟩
                    case measure => simp [intOf]; omega
                · have hX : R = .ref (.mk 1 F.steps (j : Int) mt ts) cst := by
                    have h := HR.out
                    rw [show 2 - k = 0 by omega, splitF] at h
                    exact h.symm
                  subst hX
                  have k0n := hI.fx
                  have hWn := hI.wk
                  have hFo := hI.fo
                  have hTr := hI.tr
                  have hz6n : w.heap.size ≤ z6 := hNB.z6w
                  have hbwz : bw ≠ z6 := by have := hNB.bz; omega
                  obtain ⟨Ak, nk, ck, rfl⟩ := hI.ki.own.isSl
                  have b0 := hTr.cell (j := 0) rfl
                  have b1 := hTr.cell (j := 1) rfl
                  have b2 := hTr.cell (j := 2) rfl
                  have b3 := hTr.cell (j := 3) rfl
                  have b4 := hTr.cell (j := 4) rfl
                  have y0 := (hFo).cell (j := 0) rfl
                  have y1 := (hFo).cell (j := 1) rfl
                  have y2 := (hFo).cell (j := 2) rfl
                  have y3 := (hFo).cell (j := 3) rfl
                  have y4 := (hFo).cell (j := 4) rfl
                  have y5 := (hFo).cell (j := 5) rfl
                  have y6 := (hFo).cell (j := 6) rfl
                  have f0 := (hFo).free (j := 0) (by simp)
                  have f1 := (hFo).free (j := 1) (by simp)
                  have f2 := (hFo).free (j := 2) (by simp)
                  have f3 := (hFo).free (j := 3) (by simp)
                  have f4 := (hFo).free (j := 4) (by simp)
                  have f5 := (hFo).free (j := 5) (by simp)
                  have f6 := (hFo).free (j := 6) (by simp)
                  go_wp2
                  try simp only [Exit.inBlock, Exit.then]
                  have BE := (hFo).all (cs := [.slice none 0 0, .int .i64 0, .int .i64 1, .slice As ns cs, .int .i64 (j : Int), .int .i64 mt, .slice Ak nk ck]) rfl
                  change bodyPost _ _ _ _ _ (wr.setCells z6 0 [.slice none 0 0, .int .i64 0, .int .i64 1, .slice As ns cs, .int .i64 (j : Int), .int .i64 mt, .slice Ak nk ck])
                  refine bodyPost_ret (results_cell_bx rfl _ (wr.setCells z6 0 [.slice none 0 0, .int .i64 0, .int .i64 1, .slice As ns cs, .int .i64 (j : Int), .int .i64 mt, .slice Ak nk ck]) z6 [.slice none 0 0, .int .i64 0, .int .i64 1, .slice As ns cs, .int .i64 (j : Int), .int .i64 mt, .slice Ak nk ck] _ rfl BE.range Tryz.underlying64 rfl (by kernel_rfl)) rfl ?_
                  have kS : Fx (fun q => q = z6) wr (wr.setCells z6 0 [.slice none 0 0, .int .i64 0, .int .i64 1, .slice As ns cs, .int .i64 (j : Int), .int .i64 mt, .slice Ak nk ck]) := setsFx z6 0 _ _ (Fx.refl _ _) (.inl rfl)
                  have kE := k0n.thru kS (fun q hq e => by have := hz6.out; omega)
                  have hWE := hWn.fx kS (hWn.lt (by simp)) (fun e => by omega)
                  generalize wr.setCells z6 0 [.slice none 0 0, .int .i64 0, .int .i64 1, .slice As ns cs, .int .i64 (j : Int), .int .i64 mt, .slice Ak nk ck] = wE at *
                  have hIE := hI.ki.fx (kS.mono fun q _ e => ⟨by have := hNB.z6z; omega, fun e2 => by have a1 := hI.vkz q e2; have a2 := hNB.z6z; omega⟩)
                  have hSE := hI.stp.fx kS (fun q hq e => (hNB.vsz q hq).2.2.1 e)
                  have hcbe := hI.cb
                  unfold NodeR
                  dsimp only
                  refine ⟨hcbe, kE, hWE, .int .i64 1, .slice As ns cs, .int .i64 (j : Int), .int .i64 mt, .slice Ak nk ck, rfl, ?_⟩
                  have hS9 := OwF.own hSE (fun q hq => (hNB.vsz q hq).1)
                  have hK9 := hIE.kids hNB.wz (fun q hq => Nat.le_trans hNB.wz (hI.vkz q hq))
                  exact fun w2 k => ⟨_, _, rfl, (hS9 w2 k).sl encStp_len, hK9 w2 k⟩
          · have e1 : decide ((0 : Int) < (ncs : Int)) = true := decide_eq_true (by omega)
            have e1' : decide (0 < ncs) = true := decide_eq_true (by omega)
            have e1'' : 0 < ncs := by omega
            have e2 : decide (ch < 0) = false := decide_eq_false (by omega)
            have e2'' : ¬ ch < 0 := by omega
            replace hcs := hid hcs
            replace hch := hid hch
            go_wp2_with fail
            refine (IndexFuncRange_any wideR 47 [] _ bx w4 (hO4.sl encRng_len) node2_real (fun w' lo hi _ => node2_any lo hi w')).mono ?_
            rintro e w5 ⟨rfl, k5⟩
            try clear e2
            try clear e2''
            have hW5 := hW4.kp k5 (by omega)
            have hO5 := hO4.kp k5
            have hS5 := hS4.kp k5
            have B65 := B64.kp k5 (by omega)
            have BT5 := BT.kp k5 (by omega)
            have k05 := k04.trans (k5.fx _)
            have hz5 := k5.size
            have hD5 := hD4.fx (k5.fx X)
            clear hW4 hO4 hS4 B64 BT k04 k5 hD4 t0 t1 t2 t3 t4 w3c
            obtain rfl : nb = n := by
              obtain ⟨A', c', he, -⟩ := hO5.form
              injection he with _ he _
              exact he.trans hlen3
            rcases idxF_cases wideR 0 bx with ⟨hi, hany⟩ | ⟨j, hj, hi, hp, hall⟩
            · have HR : R = .sol (bx.map (·.lo)) 0 (1 + F.steps.length) := by rw [← hR.out]; exact hR1.out (by rw [hi]; omega)
              subst HR
              rw [hi]
              clear hR1 hR2 hany hi
              have hA : c + (1 + F.steps.length) ≤ b := by omega
              have hcc : c + 1 + F.steps.length = c + (1 + F.steps.length) := by omega
              replace hcc := hid hcc
              replace hA := hid hA
              have hnb128 : nb ≤ 128 := hn
              obtain ⟨mx, hmx⟩ : ∃ mx, max ch 0 = mx := ⟨_, rfl⟩
              have HLEN := hid hlen3
              obtain ⟨hcap1, hcap2⟩ := (hO5.sl encRng_len).caps
              rw [hlen3] at hcap1
              clear hlen3
              go_upto_region 21 with (refine wpl_make_flat (enc := encInt) (base := w5.heap.size) rfl (.tmp 88) (.tmp 88) rfl stIntC 0 (zero_of (u := .int .i64 0) (by kernel_rfl) rfl) nb rfl rfl (by omega) (by omega) (Nat.le_refl _) ?_; intro w6 own6 k6 z6')
              obtain ⟨g5, hg5⟩ : ∃ g5, g5 = w5.heap.size := ⟨_, rfl⟩
              rw [← hg5] at own6 z6' hz5 ⊢
              have hzg : z6 < g5 ∧ bw < g5 := ⟨by omega, by omega⟩
              replace hg5 := hid hg5
              go_wp2_with fail
              go_loopw [92] (fun i wr => ∃ (k : Nat) (L : List Int), k ≤ nb ∧ i = .int .i64 (k : Int) ∧ L.length = nb ∧ Hid (L = (bx.map (·.lo)).take k ++ List.replicate (nb - k) (0 : Int)) ∧ Own encInt 3 1 g5 wr (.slice (some ⟨g5, 0, none⟩) nb nb) L ∧ Kp w5 wr ∧ g5 < wr.heap.size) (fun i _ => nb - (intOf i).toNat)
              case atStart => exact ⟨0, _, Nat.zero_le _, rfl, by simp, hid (by simp), own6, k6, by omega⟩
              case round =>
                clear own6 k6 z6'
                obtain ⟨k, L, hk, rfl, hL, HL, own, kr, hzr⟩ := hrel
                by_cases hlt : k < nb
                · have hkb : k < bx.length := by rw [HLEN.out]; exact hlt
                  have hbr := (hO5.sl encRng_len).keep (pl_stable _) kr
                  obtain ⟨gb, ob, hab, hgb, i1, i2⟩ := hbr.rng hkb
                  subst hab
                  have hlo : (bx.map (·.lo))[k]? = some bx[k].lo := by simp [hkb]
                  have HN : Hid (L.set k bx[k].lo = (bx.map (·.lo)).take (k + 1) ++ List.replicate (nb - (k + 1)) (0 : Int)) := hid (by
                    have e1 : ((bx.map (·.lo)).take k).length = k := by rw [List.length_take, List.length_map]; omega
                    have e2 : nb - k = (nb - (k + 1)) + 1 := by omega
                    have e3 : (bx.map (·.lo)).take (k + 1) = (bx.map (·.lo)).take k ++ [bx[k].lo] := by rw [List.take_add_one, hlo]; rfl
                    rw [HL.out, e2, List.replicate_succ, List.set_append, if_neg (by omega), e1, Nat.sub_self, List.set_cons_zero, e3, List.append_assoc]
                    rfl)
                  have hL2 : (L.set k bx[k].lo).length = nb := by rw [List.length_set]; exact hL
                  generalize bx[k].lo = lo at *
                  generalize bx[k].hi = hi at *
                  have ka := (Kp.refl wr).alloc (.cells #[.int .i64 lo, .int .i64 hi] 57)
                  have BA := Bx.new wr #[.int .i64 lo, .int .i64 hi] 57
                  have za := alloc_lt wr (.cells #[.int .i64 lo, .int .i64 hi] 57)
                  have hkk : (k : Int) < (nb : Int) := by omega
                  go_upto_region 24 with (fail)
                  generalize wr.alloc (.cells #[.int .i64 lo, .int .i64 hi] 57) = wa at *
                  have kra := kr.trans ka
                  have owna := own.kp ka
                  have hza : g5 < wa.heap.size := by omega
                  have own2 := owna.intSet hL.symm (k := k) (by omega) lo
                  have hc' := owna.intCell hL.symm (k := k) (by omega)
                  have hfz := owna.frozen hL.symm k
                  have k2 := kra.set (p := ⟨g5, k, none⟩) (by show w5.heap.size ≤ g5; rw [hg5.out]; exact Nat.le_refl _) (.int .i64 lo)
                  have hz2 : g5 < (wa.setCell ⟨g5, k, none⟩ (.int .i64 lo)).heap.size := by simpa [World.setCell] using hza
                  have a0 := BA.cell (j := 0) rfl
                  generalize L[k] = x0 at *
                  generalize L.set k lo = L2 at *
                  clear hL own owna i1 i2 BA hlo hbr
                  go_wp2
                  go_roundw
                  case rel => exact ⟨k + 1, L2, by omega, by go_num, hL2, HN, own2, k2, hz2⟩
                  case measure => simp [intOf]; omega
                · have HLL : Hid (L = bx.map (·.lo)) := hid (by
                    rw [HL.out, show k = nb by omega, Nat.sub_self, List.take_of_length_le (by rw [List.length_map, HLEN.out]; exact Nat.le_refl _)]
                    simp)
                  have hLb : (bx.map (·.lo)).length = nb := by rw [List.length_map]; exact HLEN.out
                  have hB6 := B65.kp kr (by rw [← hg5.out]; omega)
                  have hW6 := hW5.kp kr (by rw [← hg5.out]; omega)
                  have k06 := k05.trans (kr.fx _)
                  rw [HLL.out] at own
                  have hgz : g5 ≠ z6 := by omega
                  have k0n := k06
                  have hWn := hW6
                  replace hLb := hid hLb
                  replace hL := hid hL
                  clear B65 hW5 k05 hS5 BT5
                  by_cases hc0 : 0 ≤ ch
                  · have hmx' : max ch 0 = ch := by omega
                    have hmz := hid hmx'
                    clear hmx' hmx hch1 hch2
                    have y0 := (hB6).cell (j := 0) rfl
                    have y1 := (hB6).cell (j := 1) rfl
                    have y2 := (hB6).cell (j := 2) rfl
                    have y3 := (hB6).cell (j := 3) rfl
                    have y4 := (hB6).cell (j := 4) rfl
                    have y5 := (hB6).cell (j := 5) rfl
                    have y6 := (hB6).cell (j := 6) rfl
                    have f0 := (hB6).free (j := 0) (by simp)
                    have f1 := (hB6).free (j := 1) (by simp)
                    have f2 := (hB6).free (j := 2) (by simp)
                    have f3 := (hB6).free (j := 3) (by simp)
                    have f4 := (hB6).free (j := 4) (by simp)
                    have f5 := (hB6).free (j := 5) (by simp)
                    have f6 := (hB6).free (j := 6) (by simp)
                    go_wp2
                    try simp only [Exit.inBlock, Exit.then]
                    have BE := (hB6).all (cs := [.slice (some ⟨g5, 0, none⟩) nb nb, .int .i64 ch, .int .i64 0, .slice none 0 0, .int .i64 0, .int .i64 0, .slice none 0 0]) rfl
                    change bodyPost _ _ _ _ _ (wr.setCells z6 0 [.slice (some ⟨g5, 0, none⟩) nb nb, .int .i64 ch, .int .i64 0, .slice none 0 0, .int .i64 0, .int .i64 0, .slice none 0 0])
                    refine bodyPost_ret (results_cell_bx rfl _ (wr.setCells z6 0 [.slice (some ⟨g5, 0, none⟩) nb nb, .int .i64 ch, .int .i64 0, .slice none 0 0, .int .i64 0, .int .i64 0, .slice none 0 0]) z6 [.slice (some ⟨g5, 0, none⟩) nb nb, .int .i64 ch, .int .i64 0, .slice none 0 0, .int .i64 0, .int .i64 0, .slice none 0 0] _ rfl BE.range Tryz.underlying64 rfl (by kernel_rfl)) rfl ?_
                    have kS : Fx (fun q => q = z6) wr (wr.setCells z6 0 [.slice (some ⟨g5, 0, none⟩) nb nb, .int .i64 ch, .int .i64 0, .slice none 0 0, .int .i64 0, .int .i64 0, .slice none 0 0]) := setsFx z6 0 _ _ (Fx.refl _ _) (.inl rfl)
                    have kE := k0n.thru kS (fun q hq e => by have := hz6.out; omega)
                    have hWE := hWn.fx kS (hWn.lt (by simp)) (fun e => by omega)
                    generalize wr.setCells z6 0 [.slice (some ⟨g5, 0, none⟩) nb nb, .int .i64 ch, .int .i64 0, .slice none 0 0, .int .i64 0, .int .i64 0, .slice none 0 0] = wE at *
                    have hSE := own.fx kS (fun q hq e => by
                      have : g5 = q := by simpa [Value.ownBlock] using hq
                      omega)
                    unfold NodeR
                    dsimp only
                    refine ⟨hA.out, kE, ?_, g5, nb, ?_, ?_⟩
                    · rw [← hcc.out]
                      exact hWE
                    · rw [hLb.out, hmz.out]
                    · rw [hLb.out]
                      exact hSE.less (by rw [← hz6.out]; omega)
                  · have hmx' : max ch 0 = 0 := by omega
                    have hmz := hid hmx'
                    clear hmx' hmx hch1 hch2
                    have y0 := (hB6).cell (j := 0) rfl
                    have y1 := (hB6).cell (j := 1) rfl
                    have y2 := (hB6).cell (j := 2) rfl
                    have y3 := (hB6).cell (j := 3) rfl
                    have y4 := (hB6).cell (j := 4) rfl
                    have y5 := (hB6).cell (j := 5) rfl
                    have y6 := (hB6).cell (j := 6) rfl
                    have f0 := (hB6).free (j := 0) (by simp)
                    have f1 := (hB6).free (j := 1) (by simp)
                    have f2 := (hB6).free (j := 2) (by simp)
                    have f3 := (hB6).free (j := 3) (by simp)
                    have f4 := (hB6).free (j := 4) (by simp)
                    have f5 := (hB6).free (j := 5) (by simp)
                    have f6 := (hB6).free (j := 6) (by simp)
                    go_wp2
                    try simp only [Exit.inBlock, Exit.then]
                    have BE := (hB6).all (cs := [.slice (some ⟨g5, 0, none⟩) nb nb, .int .i64 (0 : Int), .int .i64 0, .slice none 0 0, .int .i64 0, .int .i64 0, .slice none 0 0]) rfl
                    change bodyPost _ _ _ _ _ (wr.setCells z6 0 [.slice (some ⟨g5, 0, none⟩) nb nb, .int .i64 (0 : Int), .int .i64 0, .slice none 0 0, .int .i64 0, .int .i64 0, .slice none 0 0])
                    refine bodyPost_ret (results_cell_bx rfl _ (wr.setCells z6 0 [.slice (some ⟨g5, 0, none⟩) nb nb, .int .i64 (0 : Int), .int .i64 0, .slice none 0 0, .int .i64 0, .int .i64 0, .slice none 0 0]) z6 [.slice (some ⟨g5, 0, none⟩) nb nb, .int .i64 (0 : Int), .int .i64 0, .slice none 0 0, .int .i64 0, .int .i64 0, .slice none 0 0] _ rfl BE.range Tryz.underlying64 rfl (by kernel_rfl)) rfl ?_
                    have kS : Fx (fun q => q = z6) wr (wr.setCells z6 0 [.slice (some ⟨g5, 0, none⟩) nb nb, .int .i64 (0 : Int), .int .i64 0, .slice none 0 0, .int .i64 0, .int .i64 0, .slice none 0 0]) := setsFx z6 0 _ _ (Fx.refl _ _) (.inl rfl)
                    have kE := k0n.thru kS (fun q hq e => by have := hz6.out; omega)
                    have hWE := hWn.fx kS (hWn.lt (by simp)) (fun e => by omega)
                    generalize wr.setCells z6 0 [.slice (some ⟨g5, 0, none⟩) nb nb, .int .i64 (0 : Int), .int .i64 0, .slice none 0 0, .int .i64 0, .int .i64 0, .slice none 0 0] = wE at *
                    have hSE := own.fx kS (fun q hq e => by
                      have : g5 = q := by simpa [Value.ownBlock] using hq
                      omega)
                    unfold NodeR
                    dsimp only
                    refine ⟨hA.out, kE, ?_, g5, nb, ?_, ?_⟩
                    · rw [← hcc.out]
                      exact hWE
                    · rw [hLb.out, hmz.out]
                    · rw [hLb.out]
                      exact hSE.less (by rw [← hz6.out]; omega)
            · rw [Nat.zero_add] at hi
              have HR := hR2.out (by rw [hi]; omega)
              rw [hR.out, hi] at HR
              rw [hi]
              have hfine := hid fun k => half_fine hfb hj hp k
              clear hR1 hR2 hall
              obtain ⟨gb, ob, hab, hgb, i1, i2⟩ := (hO5.sl encRng_len).rng hj
              subst hab
              have hpk : pick bx (j : Int) = ⟨bx[j].lo, bx[j].hi⟩ := pick_at bx j hj
              have hbd := not_bad (hfb.2.1 bx[j] (List.getElem_mem hj))
              have hmid := mid_bounds (hfb.2.1 bx[j] (List.getElem_mem hj)) hp
              have hM : middle (pick bx (j : Int)) = middle ⟨bx[j].lo, bx[j].hi⟩ := by rw [hpk]
              have hmid' : bx[j].lo ≤ middle ⟨bx[j].lo, bx[j].hi⟩ ∧ middle ⟨bx[j].lo, bx[j].hi⟩ < bx[j].hi := hmid
              rw [hM] at HR
              replace hM := hid hM
              replace hpk := hid hpk
              clear hmid
              have hnj : (j : Int) < (nb : Int) := by omega
              have hjn : ¬ (j : Int) < 0 := by omega
              have hj0 : (0 : Int) ≤ (j : Int) := by omega
              have e9 : decide ((j : Int) < 0) = false := decide_eq_false hjn
              obtain ⟨hcap1, hcap2⟩ := (hO5.sl encRng_len).caps
              rw [hlen3] at hcap1
              replace hp := hid hp
              have HJ := hid hj
              generalize bx[j] = pr at *
              clear hj
              obtain ⟨lo, hi'⟩ := pr
              dsimp only at *
              go_wp2_with fail
              refine (Middle_any lo hi' w5).mono ?_
              rintro e w6 ⟨rfl, k6⟩
              generalize middle ⟨lo, hi'⟩ = mt at *
              have hW6 := hW5.kp k6 (by omega)
              have hO6 := hO5.kp k6
              have hS6 := hS5.kp k6
              have B66 := B65.kp k6 (by omega)
              have BT6 := BT5.kp k6 (by omega)
              have k06 := k05.trans (k6.fx _)
              have hz6' := k6.size
              have hD6 := hD5.fx (k6.fx X)
              have i1' := k6.cellS i1
              have i2' := k6.cellS i2
              clear hW5 hO5 hS5 B65 BT5 k05 k6 hD5 i1 i2
              have t0 := BT6.cell (j := 0) rfl
              have t2 := BT6.cell (j := 2) rfl
              have t3 := BT6.cell (j := 3) rfl
              have f0 := BT6.free (j := 0) (by simp)
              have f2 := BT6.free (j := 2) (by simp)
              have f3 := BT6.free (j := 3) (by simp)
              go_upto_region 29 with (fail)
              have BT7 := ((BT6.set (j := 0) (by simp) (.int .i64 1)).set (j := 2) (by simp) (.int .i64 (j : Int))).set (j := 3) (by simp) (.int .i64 mt)
              have k67 : Fx (fun q => q = t9) w6 (((w6.setCell ⟨t9, 0, none⟩ (.int .i64 1)).setCell ⟨t9, 2, none⟩ (.int .i64 (j : Int))).setCell ⟨t9, 3, none⟩ (.int .i64 mt)) :=
                (((Fx.refl (fun q => q = t9) w6).set1 ⟨t9, 0, none⟩ _ (.inl rfl)).set1 ⟨t9, 2, none⟩ _ (.inl rfl)).set1 ⟨t9, 3, none⟩ _ (.inl rfl)
              generalize ((w6.setCell ⟨t9, 0, none⟩ (.int .i64 1)).setCell ⟨t9, 2, none⟩ (.int .i64 (j : Int))).setCell ⟨t9, 3, none⟩ (.int .i64 mt) = w7 at *
              simp only [List.set_cons_zero, List.set_cons_succ] at BT7
              have hgbl : gb < t9 := hvl3 gb rfl
              have hW7 := hW6.fx k67 (by omega) (fun e => by omega)
              have hO7 := hO6.fx k67 (fun q hq e => by have := hvl3 q hq; omega)
              have hS7 := hS6.fx k67 (fun q hq e => by have := hsb3 q hq; omega)
              have B67 := B66.fx k67 (by omega) (fun e => by omega)
              have k07 := k06.thru (X := PW bw (.slice (some ⟨gb, ob, none⟩) nb cb)) k67 (fun q hq e => by have := hz6.out; omega)
              have hD7 := hD0.out.fx (k07.mono fun q _ e => .inl (by
                rcases e with e | e
                · exact e ▸ hXw
                · exact hXb q e))
              have j1 := k67.cellS i1' (fun e => by have e : gb = t9 := e; omega)
              have j2 := k67.cellS i2' (fun e => by have e : gb = t9 := e; omega)
              clear hW6 hO6 hS6 B66 k06 hD6 i1' i2' BT6 t0 t2 t3 f0 f2 f3
              obtain ⟨hw1, hw2⟩ : wrap64 (mt + 1) = mt + 1 ∧ IntKind.i64.wrap (mt + 1) = mt + 1 := ⟨IntWalk.wrap64_in _ (by omega), IntWalk.i64_in _ (by omega)⟩
              refine wp_region_held_drew (S := fun W => W.cell? ⟨gb, ob + j * 2, none⟩ = some (.int .i64 lo) ∧ W.cell? ⟨gb, ob + j * 2 + 1, none⟩ = some (.int .i64 hi') ∧ Kp w7 W) (by kernel_rfl) ⟨(Kp.refl w7).drew.cellS j1, (Kp.refl w7).drew.cellS j2, (Kp.refl w7).drew⟩ (fun hHeld => ?_)
              refine take_at 17 134 (v := ?_) rfl rfl (by kernel_rfl) (by kernel_rfl) (by kernel_rfl) (fun _ _ _ h => h) hHeld (Or.inl ⟨by kernel_rfl, ?_⟩) ?_
              rotate_left
              · intro w hSw; (try dsimp only at hSw); go_simp; try with_reducible rfl
              simp only [Act.put, List.setIfInBounds_toArray, List.set_cons_zero, List.set_cons_succ]
              refine take_at 0 117 (v := ?_) rfl rfl (by kernel_rfl) (by kernel_rfl) (by kernel_rfl) (fun _ _ _ h => h) hHeld (Or.inl ⟨by kernel_rfl, ?_⟩) ?_
              rotate_left
              · intro w hSw; (try dsimp only at hSw); go_simp; try with_reducible rfl
              simp only [Act.put, List.setIfInBounds_toArray, List.set_cons_zero, List.set_cons_succ]
              refine take_at 1 118 (v := ?_) rfl rfl (by kernel_rfl) (by kernel_rfl) (by kernel_rfl) (fun _ _ _ h => h) hHeld (Or.inl ⟨by kernel_rfl, ?_⟩) ?_
              rotate_left
              · intro w hSw; (try dsimp only at hSw); go_simp; try with_reducible rfl
              simp only [Act.put, List.setIfInBounds_toArray, List.set_cons_zero, List.set_cons_succ]
              refine take_at 2 119 (v := ?_) rfl rfl (by kernel_rfl) (by kernel_rfl) (by kernel_rfl) (fun _ _ _ h => h) hHeld (Or.inl ⟨by kernel_rfl, ?_⟩) ?_
              rotate_left
              · intro w hSw; (try dsimp only at hSw); go_simp; try with_reducible rfl
              simp only [Act.put, List.setIfInBounds_toArray, List.set_cons_zero, List.set_cons_succ]
              refine take_at 3 120 (v := ?_) rfl rfl (by kernel_rfl) (by kernel_rfl) (by kernel_rfl) (fun _ _ _ h => h) hHeld (Or.inl ⟨by kernel_rfl, ?_⟩) ?_
              rotate_left
              · intro w hSw; (try dsimp only at hSw); go_simp; try with_reducible rfl
              simp only [Act.put, List.setIfInBounds_toArray, List.set_cons_zero, List.set_cons_succ]
              refine take_at 4 121 (v := ?_) rfl rfl (by kernel_rfl) (by kernel_rfl) (by kernel_rfl) (fun _ _ _ h => h) hHeld (Or.inl ⟨by kernel_rfl, ?_⟩) ?_
              rotate_left
              · intro w hSw; (try dsimp only at hSw); go_simp; try with_reducible rfl
              simp only [Act.put, List.setIfInBounds_toArray, List.set_cons_zero, List.set_cons_succ]
              refine take_at 5 122 (v := ?_) rfl rfl (by kernel_rfl) (by kernel_rfl) (by kernel_rfl) (fun _ _ _ h => h) hHeld (Or.inl ⟨by kernel_rfl, ?_⟩) ?_
              rotate_left
              · intro w hSw; (try dsimp only at hSw); go_simp; try with_reducible rfl
              simp only [Act.put, List.setIfInBounds_toArray, List.set_cons_zero, List.set_cons_succ]
              refine take_at 6 123 (v := ?_) rfl rfl (by kernel_rfl) (by kernel_rfl) (by kernel_rfl) (fun _ _ _ h => h) hHeld (Or.inl ⟨by kernel_rfl, ?_⟩) ?_
              rotate_left
              · intro w hSw; (try dsimp only at hSw); go_simp; try with_reducible rfl
              simp only [Act.put, List.setIfInBounds_toArray, List.set_cons_zero, List.set_cons_succ]
              refine take_at 7 124 (v := ?_) rfl rfl (by kernel_rfl) (by kernel_rfl) (by kernel_rfl) (fun _ _ _ h => h) hHeld (Or.inl ⟨by kernel_rfl, ?_⟩) ?_
              rotate_left
              · intro w hSw; (try dsimp only at hSw); go_simp; try with_reducible rfl
              simp only [Act.put, List.setIfInBounds_toArray, List.set_cons_zero, List.set_cons_succ]
              refine take_at 8 125 (v := ?_) rfl rfl (by kernel_rfl) (by kernel_rfl) (by kernel_rfl) (fun _ _ _ h => h) hHeld (Or.inl ⟨by kernel_rfl, ?_⟩) ?_
              rotate_left
              · intro w hSw; (try dsimp only at hSw); go_simp; try with_reducible rfl
              simp only [Act.put, List.setIfInBounds_toArray, List.set_cons_zero, List.set_cons_succ]
              refine take_at 9 126 (v := ?_) rfl rfl (by kernel_rfl) (by kernel_rfl) (by kernel_rfl) (fun _ _ _ h => h) hHeld (Or.inl ⟨by kernel_rfl, ?_⟩) ?_
              rotate_left
              · intro w hSw; (try dsimp only at hSw); go_simp; try with_reducible rfl
              simp only [Act.put, List.setIfInBounds_toArray, List.set_cons_zero, List.set_cons_succ]
              refine take_at 10 127 (v := ?_) rfl rfl (by kernel_rfl) (by kernel_rfl) (by kernel_rfl) (fun _ _ _ h => h) hHeld (Or.inl ⟨by kernel_rfl, ?_⟩) ?_
              rotate_left
              · intro w hSw; (try dsimp only at hSw); go_simp; try with_reducible rfl
              simp only [Act.put, List.setIfInBounds_toArray, List.set_cons_zero, List.set_cons_succ]
              refine take_at 11 128 (v := ?_) rfl rfl (by kernel_rfl) (by kernel_rfl) (by kernel_rfl) (fun _ _ _ h => h) hHeld (Or.inl ⟨by kernel_rfl, ?_⟩) ?_
              rotate_left
              · intro w hSw; (try dsimp only at hSw); go_simp; try with_reducible rfl
              simp only [Act.put, List.setIfInBounds_toArray, List.set_cons_zero, List.set_cons_succ]
              refine take_at 12 129 (v := ?_) rfl rfl (by kernel_rfl) (by kernel_rfl) (by kernel_rfl) (fun _ _ _ h => h) hHeld (Or.inl ⟨by kernel_rfl, ?_⟩) ?_
              rotate_left
              · intro w hSw; (try dsimp only at hSw); go_simp; try with_reducible rfl
              simp only [Act.put, List.setIfInBounds_toArray, List.set_cons_zero, List.set_cons_succ]
              refine take_at 13 130 (v := ?_) rfl rfl (by kernel_rfl) (by kernel_rfl) (by kernel_rfl) (fun _ _ _ h => h) hHeld (Or.inl ⟨by kernel_rfl, ?_⟩) ?_
              rotate_left
              · intro w hSw; (try dsimp only at hSw); go_simp; try with_reducible rfl
              simp only [Act.put, List.setIfInBounds_toArray, List.set_cons_zero, List.set_cons_succ]
              refine take_at 14 131 (v := ?_) rfl rfl (by kernel_rfl) (by kernel_rfl) (by kernel_rfl) (fun _ _ _ h => h) hHeld (Or.inl ⟨by kernel_rfl, ?_⟩) ?_
              rotate_left
              · intro w hSw; (try dsimp only at hSw); go_simp; try with_reducible rfl
              simp only [Act.put, List.setIfInBounds_toArray, List.set_cons_zero, List.set_cons_succ]
              have kd : Kp w7 w7.drew := (Kp.refl w7).drew
              generalize w7.drew = w8 at *
              have k89 := (Kp.refl w8).alloc (.cells #[.int .i64 lo, .int .i64 mt, .int .i64 (mt + 1), .int .i64 hi'] 57)
              have BH := Bx.new w8 #[.int .i64 lo, .int .i64 mt, .int .i64 (mt + 1), .int .i64 hi'] 57
              have zH := World.size_alloc w8 (.cells #[.int .i64 lo, .int .i64 mt, .int .i64 (mt + 1), .int .i64 hi'] 57)
              refine wpAnyH_ready (rs := [15]) (by kernel_rfl) (by simp) ?_
              refine AllReadyH.cons (o := _) rfl (fun K hK => ?_) AllReadyH.nil
              go_simp
              refine hK.out _ _ (⟨k89.cellS hHeld.1, k89.cellS hHeld.2.1, hHeld.2.2.trans k89⟩) (fun hHeld2 => ?_)
              clear hK K hHeld
              have hHeld := hHeld2
              clear hHeld2
              try simp only [Act.put, List.setIfInBounds_toArray, List.set_cons_zero, List.set_cons_succ]
              refine take_at 16 133 (v := ?_) rfl rfl (by kernel_rfl) (by kernel_rfl) (by kernel_rfl) (fun _ _ _ h => h) hHeld (Or.inl ⟨by kernel_rfl, ?_⟩) ?_
              rotate_left
              · intro w hSw; (try dsimp only at hSw); go_simp; try with_reducible rfl
              simp only [Act.put, List.setIfInBounds_toArray, List.set_cons_zero, List.set_cons_succ]
              refine wpAnyH_done (by kernel_rfl) ?_ _
              obtain ⟨ph, hph⟩ : ∃ ph, ph = w8.heap.size := ⟨_, rfl⟩
              rw [← hph] at BH zH ⊢
              have k79 := hHeld.2.2
              generalize w8.alloc (.cells #[.int .i64 lo, .int .i64 mt, .int .i64 (mt + 1), .int .i64 hi'] 57) = w9 at *
              simp only [List.toList_toArray] at BH
              have hz79 := k79.size
              have hz67 := k67.size
              have hph7 : w7.heap.size ≤ ph := by rw [hph]; exact kd.size
              replace hph := hid hph
              obtain ⟨zp, hzp⟩ : ∃ zp, zp = w9.heap.size := ⟨_, rfl⟩
              have hzw := hz6.out
              have hNB : NB w X zp (.slice (some ⟨gb, ob, none⟩) nb cb) bw z6 t9 (.slice As ns cs) := ⟨hXw, hl, by omega, by omega, by omega, by omega, by omega, by omega, fun q hq => ⟨hvl q hq, hne q hq⟩, fun q hq => by
                have a1 := hbk3 q hq
                have a2 := hsb3 q hq
                exact ⟨by omega, by omega, by omega, by omega⟩⟩
              have hNI : NI w (PData css csg (.slice Ar rows.length cr) (.slice Ag grs.length cg) rows grs) (fun W => Bx W ph [.int .i64 lo, .int .i64 mt, .int .i64 (mt + 1), .int .i64 hi']) X zp N b c (.slice (some ⟨gb, ob, none⟩) nb cb) bw z6 t9 x0 x1 (.slice Ag grs.length cg) (.slice Acs ncs ccs) (.slice Ar rows.length cr) (.int .i64 1) (.slice As ns cs) (.int .i64 (j : Int)) (.int .i64 mt) (.slice As ns cs) F.steps bx w9 (.slice none 0 0) [] [] (1 + F.steps.length) :=
                ⟨KI.nil _ _ _, BT7.kp k79 (by omega), B67.kp k79 (by omega), by rw [show c + (1 + F.steps.length) = c + 1 + F.steps.length by omega]; exact hW7.kp k79 (by omega), by omega, hO7.kp k79, hS7.kp k79,
                  fun W k => BH.fx k (by omega) (fun e => by
                    rcases e with e | e | e
                    · omega
                    · omega
                    · omega), k07.trans (k79.fx _), hD7.fx (k79.fx _), fun q hq => by simp [Value.ownBlock] at hq, by omega⟩
              have hR0 : Hid (splitF rows grs N F.steps bx (j : Int) mt (b - c) (2 - 0) 0 [] (1 + F.steps.length) = R) := hid HR.symm
              have hFS := hid (Nat.le_refl F.steps.length)
              have hphz : ph < zp := by omega
              replace hzp := hid hzp
              clear hzw
              clear HR BT7 B67 hW7 hO7 hS7 BH k07 k79 hD7 j1 j2 hHeld k89 kd hw1 hw2 k67
              go_wp2_with fail
              go_loopw [134] (fun i wr => ∃ (k : Nat) (css2 : List (Elm 5)) (ts : List Tr) (cst : Nat) (vk : Value), k ≤ 2 ∧ i = .int .i64 (k : Int) ∧ NI w (PData css csg (.slice Ar rows.length cr) (.slice Ag grs.length cg) rows grs) (fun W => Bx W ph [.int .i64 lo, .int .i64 mt, .int .i64 (mt + 1), .int .i64 hi']) X zp N b c (.slice (some ⟨gb, ob, none⟩) nb cb) bw z6 t9 x0 x1 (.slice Ag grs.length cg) (.slice Acs ncs ccs) (.slice Ar rows.length cr) (.int .i64 1) (.slice As ns cs) (.int .i64 (j : Int)) (.int .i64 mt) (.slice As ns cs) F.steps bx wr vk css2 ts cst ∧ css2.length ≤ k ∧ 1 ≤ cst ∧ Hid (splitF rows grs N F.steps bx (j : Int) mt (b - c) (2 - k) k ts cst = R)) (fun i _ => 2 - (intOf i).toNat)
              case atStart => exact ⟨0, [], [], _, _, by omega, rfl, hNI, by simp, by omega, hR0⟩
              case round =>
                clear hNI hR0
                obtain ⟨k, css2, ts, cst, vk, hk, rfl, hI, hcl, hcst, HR⟩ := hrel
                by_cases hk2 : k < 2
                · obtain ⟨lk, uk, cl, cu, HHF⟩ : ∃ lk uk, wr.cell? ⟨ph, k * 2, none⟩ = some (.int .i64 lk) ∧ wr.cell? ⟨ph, k * 2 + 1, none⟩ = some (.int .i64 uk) ∧ Hid (halfR bx (j : Int) mt k = ⟨lk, uk⟩) := by
                    have hB := hI.oth.here
                    have hk3 : k = 0 ∨ k = 1 := by omega
                    rcases hk3 with rfl | rfl
                    · exact ⟨lo, mt, hB.cell (j := 0) rfl, hB.cell (j := 1) rfl, hid (by unfold halfR; rw [if_pos rfl, hpk.out])⟩
                    · exact ⟨mt + 1, hi', hB.cell (j := 2) rfl, hB.cell (j := 3) rfl, hid (by unfold halfR; rw [if_neg (by omega), hpk.out])⟩
                  have hfk : Hid (fineBox nb (bx.set j ⟨lk, uk⟩)) := hid (by
                    have h := hfine.out k
                    rw [hM.out, HHF.out] at h
                    exact h)
                  have hphl : ph < wr.heap.size := by have := hI.zw; omega
                  have hkl : (k : Int) < 2 := by omega
                  have ka := (Kp.refl wr).alloc (.cells #[.int .i64 lk, .int .i64 uk] 57)
                  have BA := Bx.new wr #[.int .i64 lk, .int .i64 uk] 57
                  have za := World.size_alloc wr (.cells #[.int .i64 lk, .int .i64 uk] 57)
                  go_upto_region 32 with (fail)
                  generalize wr.alloc (.cells #[.int .i64 lk, .int .i64 uk] 57) = wa at *
                  obtain ⟨r20, hr20⟩ : ∃ r20, r20 = wr.heap.size := ⟨_, rfl⟩
                  rw [← hr20] at BA za ⊢
                  replace hr20 := hid hr20
                  simp only [List.toList_toArray] at BA
                  have hIa := hI.kp ka
                  go_wp2_with fail
                  refine (CloneRange_any _ bx wa (hIa.own.sl encRng_len) (by omega)).mono ?_
                  rintro e wb ⟨vh, rfl, hOh, kb⟩
                  obtain ⟨gh, ch', hvh, hch1', hch2', hghb, hghl⟩ := hOh.row (by have := HJ.out; omega)
                  rw [hlen3] at hvh hch1'
                  subst hvh
                  have kab := ka.trans kb
                  have hIb := hI.kp kab
                  have BAb := BA.kp kb (by omega)
                  have a0 := BAb.cell (j := 0) rfl
                  have a1 := BAb.cell (j := 1) rfl
                  have hOh0 := hOh.less (Nat.zero_le _)
                  obtain ⟨h0, h1⟩ := hOh0.rngCell hlen3.symm HJ.out
                  have hfz := fun o => hOh0.frozen hlen3.symm o
                  have hOs := hOh0.rngSet hlen3.symm HJ.out ⟨lk, uk⟩
                  have ks : Fx (fun q => q = gh) wb ((wb.setCell ⟨gh, j * 2, none⟩ (.int .i64 lk)).setCell ⟨gh, j * 2 + 1, none⟩ (.int .i64 uk)) := ((Fx.refl (fun q => q = gh) wb).set1 ⟨gh, j * 2, none⟩ _ (.inl rfl)).set1 ⟨gh, j * 2 + 1, none⟩ _ (.inl rfl)
                  clear cl cu
                  go_upto_region 34 with (fail)
                  generalize (wb.setCell ⟨gh, j * 2, none⟩ (.int .i64 lk)).setCell ⟨gh, j * 2 + 1, none⟩ (.int .i64 uk) = wc at *
                  have hge : wr.heap.size ≤ gh := Nat.le_trans ka.size hghb
                  have kwc : Kp wr wc := ks.kp_of kab (fun q e => e ▸ hge)
                  have hIc := hI.kp kwc
                  clear h0 h1 hfz a0 a1 BAb BA hIa hIb hOh hOh0
                  have hcb' := hIc.cb
                  have hbN : b - (c + cst) ≤ N := by omega
                  have hIH := ih bw x0 x1 Ag Ar Acs cg cr ncs ccs rows grs nb b (c + cst) (.slice (some ⟨gh, 0, none⟩) nb ch') (bx.set j ⟨lk, uk⟩) ch (fun q => X q ∨ w.heap.size ≤ q) css csg wc hIc.wk hOs (fun q hq => by
                    have : gh = q := by simpa [Value.ownBlock] using hq
                    have a1 := hNB.wz
                    have a2 := hI.zw
                    have a3 := hNB.bz
                    omega) (.inl hXw) (fun q hq => by
                    have : gh = q := by simpa [Value.ownBlock] using hq
                    exact .inr (by have a1 := hNB.wz; have a2 := hI.zw; omega)) hIc.rd hcb' hb hfk.out hn hr hg hch.out hch1 hch2 hncs hbN
                  obtain ⟨F', hF'⟩ : ∃ F', Hid (nodeF rows grs N (bx.set j ⟨lk, uk⟩) (b - (c + cst)) = F') := ⟨_, hid rfl⟩
                  rw [hF'.out] at hIH
                  have hHR : Hid (kidF F' 0 cst (fun t c' => splitF rows grs N F.steps bx (j : Int) mt (b - c) (2 - (k + 1)) (k + 1) (ts ++ [t]) c') = R) := hid (by
                    have h := HR.out
                    rw [show 2 - k = (2 - (k + 1)) + 1 by omega, splitF_next, HHF.out, Int.toNat_natCast, show b - c - cst = b - (c + cst) by omega, hF'.out] at h
                    exact h)
                  replace hIH := hid hIH
                  have hgh0 : ∀ q, (Value.slice (some ⟨gh, 0, none⟩) nb ch').ownBlock = some q → wr.heap.size ≤ q := fun q hq => by
                    have : gh = q := by simpa [Value.ownBlock] using hq
                    omega
                  replace hgh0 := hid hgh0
                  replace hge := hid hge
                  go_wp2_with fail
                  refine hIH.out.mono ?_
                  rintro e wd hN
                  have hzc := hI.zw
                  have hmf : ∀ (fn : Fn) (first cap : Array Value) (w : World), (Instr.makeFunc fn first cap).run Tryz.prog w = .ok (.func fn first cap) w := fun _ _ _ _ => rfl
                  have hcfk := fun args W => kids_real.run args W
                  cases F' with
                  | out =>
                    unfold NodeR at hN
                    dsimp only at hN
                    obtain ⟨rfl, kN⟩ := hN
                    have hX : R = .out := hHR.out.symm
                    subst hX
                    have kE := hIc.fx.thru (X := PW bw (.slice (some ⟨gb, ob, none⟩) nb cb)) kN (fun q hq e => by
                      rcases e with e | e
                      · exact .inl e
                      · have := hgh0.out q e
                        have := hNB.wz
                        omega)
                    have hEE : NodeR w (N + 1) b c ch (.slice (some ⟨gb, ob, none⟩) nb cb) bw x0 x1 (.slice Ag grs.length cg) (.slice Acs ncs ccs) (.slice Ar rows.length cr) .out (.panicked Pn) wd := ⟨rfl, kE⟩
                    replace hEE := hid hEE
                    go_wp2
                    exact ⟨rfl, hEE.out⟩
                  | sol vs i d =>
                    unfold NodeR at hN
                    dsimp only at hN
                    obtain ⟨hcd, kN, hWN, g, cp, rfl, hOv⟩ := hN
                    have hX : R = .sol vs 0 (cst + d) := hHR.out.symm
                    subst hX
                    have hId := hI.child hNB kwc hgh0.out kN (d := d) (by rw [← Nat.add_assoc]; exact hWN) (by omega)
                    have ke := (Kp.refl wd).alloc (.cells #[.slice (some ⟨g, 0, none⟩) vs.length cp, .int .i64 (max ch 0), .int .i64 0, .slice none 0 0, .int .i64 0, .int .i64 0, .slice none 0 0] 64)
                    have BE := Bx.new wd #[.slice (some ⟨g, 0, none⟩) vs.length cp, .int .i64 (max ch 0), .int .i64 0, .slice none 0 0, .int .i64 0, .int .i64 0, .slice none 0 0] 64
                    have ze := World.size_alloc wd (.cells #[.slice (some ⟨g, 0, none⟩) vs.length cp, .int .i64 (max ch 0), .int .i64 0, .slice none 0 0, .int .i64 0, .int .i64 0, .slice none 0 0] 64)
                    obtain ⟨vl, hvl9⟩ : ∃ vl, Hid (vl = vs.length) := ⟨_, hid rfl⟩
                    rw [← hvl9.out] at ke BE ze hOv ⊢
                    obtain ⟨mx, hmx⟩ : ∃ mx, Hid (mx = max ch 0) := ⟨_, hid rfl⟩
                    rw [← hmx.out] at ke BE ze ⊢
                    go_upto_region 35 with (fail)
                    generalize wd.alloc (.cells #[.slice (some ⟨g, 0, none⟩) vl cp, .int .i64 mx, .int .i64 0, .slice none 0 0, .int .i64 0, .int .i64 0, .slice none 0 0] 64) = we at *
                    obtain ⟨r22, hr22⟩ : ∃ r22, r22 = wd.heap.size := ⟨_, rfl⟩
                    rw [← hr22] at BE ze ⊢
                    replace hr22 := hid hr22
                    have hIe := hId.kp ke
                    have hzce := kwc.size
                    have hOve := hOv.kp ke
                    have y0 := (BE).cell (j := 0) rfl
                    have y1 := (BE).cell (j := 1) rfl
                    have y2 := (BE).cell (j := 2) rfl
                    have y3 := (BE).cell (j := 3) rfl
                    have y4 := (BE).cell (j := 4) rfl
                    have y5 := (BE).cell (j := 5) rfl
                    have y6 := (BE).cell (j := 6) rfl
                    have f0 := (BE).free (j := 0) (by simp)
                    have f1 := (BE).free (j := 1) (by simp)
                    have f2 := (BE).free (j := 2) (by simp)
                    have f3 := (BE).free (j := 3) (by simp)
                    have f4 := (BE).free (j := 4) (by simp)
                    have f5 := (BE).free (j := 5) (by simp)
                    have f6 := (BE).free (j := 6) (by simp)
                    go_wp2_with fail
                    refine (kids_any t9 (.int .i64 1) (.slice As ns cs) (.int .i64 (j : Int)) (.int .i64 mt) vk css2 (some ⟨g, 0, none⟩) vl cp mx (.int .i64 0) (.slice none 0 0) (.int .i64 0) (.int .i64 0) (.slice none 0 0) (by simp [Value.oneCell']) we hIe.tr hIe.ki.own (fun q hq => by
                      have a1 := hIe.vkz q hq
                      have a2 := hNB.t9z
                      omega) (by omega)).mono ?_
                    rintro e wf ⟨rfl, vk2, hTf, hOf, kf, hatf⟩
                    have hvklt := hI.ki.own.blk_lt
                    have hnf : ∀ q, wr.heap.size ≤ q → ¬ (q = t9 ∨ vk.ownBlock = some q) := fun q hq e => by
                      rcases e with e | e
                      · have a2 := hNB.t9z
                        omega
                      · have := hvklt q e
                        omega
                    have hgw : wr.heap.size ≤ g := by
                      have := hOv.ge g rfl
                      omega
                    have hkn := kN.size
                    have BEf := BE.fx kf (by omega) (hnf r22 (by rw [hr22.out]; omega))
                    have hOvf := hOve.fx kf (fun q hq => by
                      have : g = q := by simpa [Value.ownBlock] using hq
                      exact hnf q (by omega))
                    have hFof := hIe.fo.fx kf (hIe.fo.lt (by simp)) (fun e => by
                      rcases e with e | e
                      · exact hNB.ne e
                      · have a1 := hIe.vkz z6 e
                        have a2 := hNB.z6z
                        omega)
                    have hWf := hIe.wk.fx kf (hIe.wk.lt (by simp)) (fun e => by
                      have a0 := hNB.bz
                      have a1 := hNB.t9w
                      have a2 := hNB.wz
                      rcases e with e | e
                      · omega
                      · have a1 := hIe.vkz bw e
                        omega)
                    have k0n := hIe.fx.thru (X := PW bw (.slice (some ⟨gb, ob, none⟩) nb cb)) kf (fun q hq e => by
                      have a1 := hNB.t9w
                      have a2 := hNB.wz
                      rcases e with e | e
                      · omega
                      · have a1 := hIe.vkz q e
                        omega)
                    have hWn := hWf
                    have hz6n : w.heap.size ≤ z6 := hNB.z6w
                    have hbwz : bw ≠ z6 := by have := hNB.bz; omega
                    clear y0 y1 y2 y3 y4 y5 y6 f0 f1 f2 f3 f4 f5 f6
                    have b0 := BEf.cell (j := 0) rfl
                    have b1 := BEf.cell (j := 1) rfl
                    have b2 := BEf.cell (j := 2) rfl
                    have b3 := BEf.cell (j := 3) rfl
                    have b4 := BEf.cell (j := 4) rfl
                    have b5 := BEf.cell (j := 5) rfl
                    have b6 := BEf.cell (j := 6) rfl
                    have hsome : (some (⟨g, 0, none⟩ : Addr)).isSome = true := rfl
                    rw [hsome]
                    have y0 := (hFof).cell (j := 0) rfl
                    have y1 := (hFof).cell (j := 1) rfl
                    have y2 := (hFof).cell (j := 2) rfl
                    have y3 := (hFof).cell (j := 3) rfl
                    have y4 := (hFof).cell (j := 4) rfl
                    have y5 := (hFof).cell (j := 5) rfl
                    have y6 := (hFof).cell (j := 6) rfl
                    have f0 := (hFof).free (j := 0) (by simp)
                    have f1 := (hFof).free (j := 1) (by simp)
                    have f2 := (hFof).free (j := 2) (by simp)
                    have f3 := (hFof).free (j := 3) (by simp)
                    have f4 := (hFof).free (j := 4) (by simp)
                    have f5 := (hFof).free (j := 5) (by simp)
                    have f6 := (hFof).free (j := 6) (by simp)
                    go_wp2
                    try simp only [Exit.inBlock, Exit.then]
                    have BE := (hFof).all (cs := [.slice (some ⟨g, 0, none⟩) vl cp, .int .i64 mx, .int .i64 0, .slice none 0 0, .int .i64 0, .int .i64 0, .slice none 0 0]) rfl
                    change bodyPost _ _ _ _ _ (wf.setCells z6 0 [.slice (some ⟨g, 0, none⟩) vl cp, .int .i64 mx, .int .i64 0, .slice none 0 0, .int .i64 0, .int .i64 0, .slice none 0 0])
                    refine bodyPost_ret (results_cell_bx rfl _ (wf.setCells z6 0 [.slice (some ⟨g, 0, none⟩) vl cp, .int .i64 mx, .int .i64 0, .slice none 0 0, .int .i64 0, .int .i64 0, .slice none 0 0]) z6 [.slice (some ⟨g, 0, none⟩) vl cp, .int .i64 mx, .int .i64 0, .slice none 0 0, .int .i64 0, .int .i64 0, .slice none 0 0] _ rfl BE.range Tryz.underlying64 rfl (by kernel_rfl)) rfl ?_
                    have kS : Fx (fun q => q = z6) wf (wf.setCells z6 0 [.slice (some ⟨g, 0, none⟩) vl cp, .int .i64 mx, .int .i64 0, .slice none 0 0, .int .i64 0, .int .i64 0, .slice none 0 0]) := setsFx z6 0 _ _ (Fx.refl _ _) (.inl rfl)
                    have kE := k0n.thru kS (fun q hq e => by have := hz6.out; omega)
                    have hWE := hWn.fx kS (hWn.lt (by simp)) (fun e => by omega)
                    generalize wf.setCells z6 0 [.slice (some ⟨g, 0, none⟩) vl cp, .int .i64 mx, .int .i64 0, .slice none 0 0, .int .i64 0, .int .i64 0, .slice none 0 0] = wE at *
                    have hSE := hOvf.fx kS (fun q hq e => by
                      have : g = q := by simpa [Value.ownBlock] using hq
                      have a1 := hNB.z6z
                      omega)
                    unfold NodeR
                    dsimp only
                    have hcbe := hIe.cb
                    refine ⟨hcbe, kE, hWE, g, cp, ?_, ?_⟩
                    · rw [← hvl9.out, ← hmx.out]
                    · rw [← hvl9.out]
                      exact hSE.less (by have a1 := hNB.wz; omega)
                  | ref t d =>
                    unfold NodeR at hN
                    dsimp only at hN
                    obtain ⟨hcd, kN, hWN, q0, q1, q2, q3, q4, rfl, hT⟩ := hN
                    have hX : Hid (splitF rows grs N F.steps bx (j : Int) mt (b - c) (2 - (k + 1)) (k + 1) (ts ++ [t]) (cst + d) = R) := hHR
                    have hId := hI.child hNB kwc hgh0.out kN (d := d) (by rw [← Nat.add_assoc]; exact hWN) (by omega)
                    have hqs := (rdTr_one N wd _ _ hT.here).2
                    obtain ⟨p0, p2, p3, A1, A4, n1, c1, n4, c4, rfl, rfl, rfl, rfl, rfl⟩ := rdTr_form hT.here
                    have ke := (Kp.refl wd).alloc (.cells #[.slice none 0 0, .int .i64 0, (.int .i64 p0), (.slice A1 n1 c1), (.int .i64 p2), (.int .i64 p3), (.slice A4 n4 c4)] 64)
                    have BE := Bx.new wd #[.slice none 0 0, .int .i64 0, (.int .i64 p0), (.slice A1 n1 c1), (.int .i64 p2), (.int .i64 p3), (.slice A4 n4 c4)] 64
                    have ze := World.size_alloc wd (.cells #[.slice none 0 0, .int .i64 0, (.int .i64 p0), (.slice A1 n1 c1), (.int .i64 p2), (.int .i64 p3), (.slice A4 n4 c4)] 64)
                    go_upto_region 35 with (fail)
                    generalize wd.alloc (.cells #[.slice none 0 0, .int .i64 0, (.int .i64 p0), (.slice A1 n1 c1), (.int .i64 p2), (.int .i64 p3), (.slice A4 n4 c4)] 64) = we at *
                    obtain ⟨r22, hr22⟩ : ∃ r22, r22 = wd.heap.size := ⟨_, rfl⟩
                    rw [← hr22] at BE ze ⊢
                    replace hr22 := hid hr22
                    have hIe := hId.kp ke
                    have hzce := kwc.size
                    have hTe := (hT.fx (ke.fx _))
                    have hvklt := hI.ki.own.blk_lt
                    have y0 := (BE).cell (j := 0) rfl
                    have y1 := (BE).cell (j := 1) rfl
                    have y2 := (BE).cell (j := 2) rfl
                    have y3 := (BE).cell (j := 3) rfl
                    have y4 := (BE).cell (j := 4) rfl
                    have y5 := (BE).cell (j := 5) rfl
                    have y6 := (BE).cell (j := 6) rfl
                    have f0 := (BE).free (j := 0) (by simp)
                    have f1 := (BE).free (j := 1) (by simp)
                    have f2 := (BE).free (j := 2) (by simp)
                    have f3 := (BE).free (j := 3) (by simp)
                    have f4 := (BE).free (j := 4) (by simp)
                    have f5 := (BE).free (j := 5) (by simp)
                    have f6 := (BE).free (j := 6) (by simp)
                    go_wp2_with fail
                    refine (kids_any t9 (.int .i64 1) (.slice As ns cs) (.int .i64 (j : Int)) (.int .i64 mt) vk css2 none 0 0 0 (.int .i64 p0) (.slice A1 n1 c1) (.int .i64 p2) (.int .i64 p3) (.slice A4 n4 c4) hqs we hIe.tr hIe.ki.own (fun q hq => by
                      have a1 := hIe.vkz q hq
                      have a2 := hNB.t9z
                      omega) (by omega)).mono ?_
                    rintro e wf ⟨rfl, vk2, hTf, hOf, kf, hatf⟩
                    have hIf := hIe.kid hNB (z := wc.heap.size) (Nat.le_trans hzc hzce) (fun q hq => Nat.lt_of_lt_of_le (hvklt q hq) hzce) (tc := tcE (.int .i64 p0) (.slice A1 n1 c1) (.int .i64 p2) (.int .i64 p3) (.slice A4 n4 c4) hqs) hTe hTf hOf kf hatf
                    have hnone : (none : Option Addr).isSome = false := rfl
                    rw [hnone]
                    have hcl2 : (css2 ++ [tcE (.int .i64 p0) (.slice A1 n1 c1) (.int .i64 p2) (.int .i64 p3) (.slice A4 n4 c4) hqs]).length ≤ k + 1 := by simp; omega
                    replace hcl2 := hid hcl2
                    clear y0 y1 y2 y3 y4 y5 y6 f0 f1 f2 f3 f4 f5 f6
                    go_wp2_with fail
                    go_roundw
                    case rel => exact ⟨k + 1, _, _, _, _, by omega, by go_num, hIf, hcl2.out, by omega, hX⟩
                    case measure => simp [intOf]; omega
                · have hX : R = .ref (.mk 1 F.steps (j : Int) mt ts) cst := by
                    have h := HR.out
                    rw [show 2 - k = 0 by omega, splitF] at h
                    exact h.symm
                  subst hX
                  have k0n := hI.fx
                  have hWn := hI.wk
                  have hFo := hI.fo
                  have hTr := hI.tr
                  have hz6n : w.heap.size ≤ z6 := hNB.z6w
                  have hbwz : bw ≠ z6 := by have := hNB.bz; omega
                  obtain ⟨Ak, nk, ck, rfl⟩ := hI.ki.own.isSl
                  have b0 := hTr.cell (j := 0) rfl
                  have b1 := hTr.cell (j := 1) rfl
                  have b2 := hTr.cell (j := 2) rfl
                  have b3 := hTr.cell (j := 3) rfl
                  have b4 := hTr.cell (j := 4) rfl
                  have y0 := (hFo).cell (j := 0) rfl
                  have y1 := (hFo).cell (j := 1) rfl
                  have y2 := (hFo).cell (j := 2) rfl
                  have y3 := (hFo).cell (j := 3) rfl
                  have y4 := (hFo).cell (j := 4) rfl
                  have y5 := (hFo).cell (j := 5) rfl
                  have y6 := (hFo).cell (j := 6) rfl
                  have f0 := (hFo).free (j := 0) (by simp)
                  have f1 := (hFo).free (j := 1) (by simp)
                  have f2 := (hFo).free (j := 2) (by simp)
                  have f3 := (hFo).free (j := 3) (by simp)
                  have f4 := (hFo).free (j := 4) (by simp)
                  have f5 := (hFo).free (j := 5) (by simp)
                  have f6 := (hFo).free (j := 6) (by simp)
                  go_wp2
                  try simp only [Exit.inBlock, Exit.then]
                  have BE := (hFo).all (cs := [.slice none 0 0, .int .i64 0, .int .i64 1, .slice As ns cs, .int .i64 (j : Int), .int .i64 mt, .slice Ak nk ck]) rfl
                  change bodyPost _ _ _ _ _ (wr.setCells z6 0 [.slice none 0 0, .int .i64 0, .int .i64 1, .slice As ns cs, .int .i64 (j : Int), .int .i64 mt, .slice Ak nk ck])
                  refine bodyPost_ret (results_cell_bx rfl _ (wr.setCells z6 0 [.slice none 0 0, .int .i64 0, .int .i64 1, .slice As ns cs, .int .i64 (j : Int), .int .i64 mt, .slice Ak nk ck]) z6 [.slice none 0 0, .int .i64 0, .int .i64 1, .slice As ns cs, .int .i64 (j : Int), .int .i64 mt, .slice Ak nk ck] _ rfl BE.range Tryz.underlying64 rfl (by kernel_rfl)) rfl ?_
                  have kS : Fx (fun q => q = z6) wr (wr.setCells z6 0 [.slice none 0 0, .int .i64 0, .int .i64 1, .slice As ns cs, .int .i64 (j : Int), .int .i64 mt, .slice Ak nk ck]) := setsFx z6 0 _ _ (Fx.refl _ _) (.inl rfl)
                  have kE := k0n.thru kS (fun q hq e => by have := hz6.out; omega)
                  have hWE := hWn.fx kS (hWn.lt (by simp)) (fun e => by omega)
                  generalize wr.setCells z6 0 [.slice none 0 0, .int .i64 0, .int .i64 1, .slice As ns cs, .int .i64 (j : Int), .int .i64 mt, .slice Ak nk ck] = wE at *
                  have hIE := hI.ki.fx (kS.mono fun q _ e => ⟨by have := hNB.z6z; omega, fun e2 => by have a1 := hI.vkz q e2; have a2 := hNB.z6z; omega⟩)
                  have hSE := hI.stp.fx kS (fun q hq e => (hNB.vsz q hq).2.2.1 e)
                  have hcbe := hI.cb
                  unfold NodeR
                  dsimp only
                  refine ⟨hcbe, kE, hWE, .int .i64 1, .slice As ns cs, .int .i64 (j : Int), .int .i64 mt, .slice Ak nk ck, rfl, ?_⟩
                  have hS9 := OwF.own hSE (fun q hq => (hNB.vsz q hq).1)
                  have hK9 := hIE.kids hNB.wz (fun q hq => Nat.le_trans hNB.wz (hI.vkz q hq))
                  exact fun w2 k => ⟨_, _, rfl, (hS9 w2 k).sl encStp_len, hK9 w2 k⟩
end Go.Proofs.YtlbhidiliogflaaGreat
