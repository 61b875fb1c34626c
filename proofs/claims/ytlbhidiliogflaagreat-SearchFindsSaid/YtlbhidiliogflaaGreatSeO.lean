
/-
Search: the root, split into cases: the walk.
-/
import Derived.Test.YtlbhidiliogflaaGreatSeK
import Derived.Test.YtlbhidiliogflaaGreatSeM
namespace Go.Proofs.YtlbhidiliogflaaGreat
set_option linter.unusedSimpArgs false
set_option linter.unusedVariables false
open Go.RowKit

set_option maxRecDepth 8000 in
set_option maxHeartbeats 8000000 in
theorem root_any (bw : Nat) (x0 : Value) (Ag Ar Acs : Option Addr) (cg cr ccs : Nat) (rows : List Row) (grs : List Gr) (cases : List (List Row)) (n b c : Nat) (vb : Value) (box : List Rng) (X : Nat → Prop) (css : List (Elm 2)) (csg : List (Elm 3)) (csC : List (Elm 1)) (cssC : Nat → List (Elm 2)) (w : World)
    (hW : Bx w bw [x0, .slice Ar rows.length cr, .slice Ag grs.length cg, .slice Acs cases.length ccs, .slice Ar rows.length cr, .int .i64 (b : Int), .int .i64 (c : Int)]) (hO : Own encRng 57 2 0 w vb box)
    (hne : ∀ q, vb.ownBlock = some q → q ≠ bw) (hXw : X bw) (hXb : ∀ q, vb.ownBlock = some q → X q) (hD : OwF X w (fun W => PData css csg (.slice Ar rows.length cr) (.slice Ag grs.length cg) rows grs W ∧ CRaw csC cssC (.slice Acs cases.length ccs) cases W))
    (hc : c ≤ b) (hb : b ≤ 65536) (hf : fineBox n box) (hn : n ≤ 128) (hr : ∀ r ∈ rows, fitsB n r = true) (hg : ∀ g ∈ grs, grOk n g = true) (hcr : ∀ l ∈ cases, ∀ r ∈ l, fitsB n r = true) (hcs0 : 0 < cases.length) (hcs1 : cases.length ≤ 100000) (hrl : rows.length ≤ 10000) (hcl : ∀ l ∈ cases, l.length ≤ 10000) :
    Calls Tryz.prog 20 #[.pointer (some ⟨bw, 0, none⟩), vb, .int .i64 (-1)] w (RootR w (b + 1) b c vb bw x0 (.slice Ar rows.length cr) (.slice Ag grs.length cg) (.slice Acs cases.length ccs) (rootF (⟨box, rows, grs, cases⟩ : Sys) (b - c))) := by
  have hl := hW.lt (by simp)
  have hvl := hO.blk_lt
  obtain ⟨Ab, nb, cb, rfl⟩ := hO.isSl
  have hce : ((⟨box, rows, grs, cases⟩ : Sys)).cases.isEmpty = false := by
    cases cases with
    | nil => simp at hcs0
    | cons _ _ => rfl
  have k1 := (Kp.refl w).alloc (.cells [.slice none 0 0, .int .i64 0, .int .i64 0, .slice none 0 0, .int .i64 0, .int .i64 0, .slice none 0 0].toArray 64)
  have hW1 := hW.kp k1 hl
  by_cases hcb : c = b
  · subst hcb
    have HF : Hid (rootF (⟨box, rows, grs, cases⟩ : Sys) (c - c) = .out) := hid (rootF_zero hce (by omega))
    rw [HF.out]
    unfold RootR
    go_enter Tryz.func20, Tryz.ntmps20
    go_wp2_with fail
    refine (spend_any bw x0 (.slice Ar rows.length cr) (.slice Ag grs.length cg) (.slice Acs cases.length ccs) (.slice Ar rows.length cr) c c _ hW1 (Nat.le_refl _) hb).mono ?_
    rintro e w5 (⟨h1, rfl, k5⟩ | ⟨h1, rfl, hB5, k5⟩)
    · have hE : Fx (PW bw (.slice Ab nb cb)) w w5 := (k1.trans k5).fx _
      go_wp2
      exact ⟨rfl, rfl, hE⟩
    · omega
  · have B6 := Bx.new w [.slice none 0 0, .int .i64 0, .int .i64 0, .slice none 0 0, .int .i64 0, .int .i64 0, .slice none 0 0].toArray 64
    have z1 := World.size_alloc w (.cells [.slice none 0 0, .int .i64 0, .int .i64 0, .slice none 0 0, .int .i64 0, .int .i64 0, .slice none 0 0].toArray 64)
    have hO1 := hO.kp k1
    have hD1 := hD.fx (k1.fx X)
    obtain ⟨F, hF⟩ : ∃ F, Hid (runB (b - c - 1) rows grs box = F) := ⟨_, hid rfl⟩
    obtain ⟨R, hR⟩ : ∃ R, Hid (rootF (⟨box, rows, grs, cases⟩ : Sys) (b - c) = R) := ⟨_, hid rfl⟩
    rw [hR.out]
    replace hce := hid hce
    replace hcs0' := hid hcs0
    go_enter Tryz.func20, Tryz.ntmps20
    go_wp2_with fail
    generalize w.alloc (.cells [.slice none 0 0, .int .i64 0, .int .i64 0, .slice none 0 0, .int .i64 0, .int .i64 0, .slice none 0 0].toArray 64) = w1 at *
    obtain ⟨z6, hz6⟩ : ∃ z6, z6 = w.heap.size := ⟨_, rfl⟩
    rw [← hz6] at B6 z1 ⊢
    refine (spend_any bw x0 (.slice Ar rows.length cr) (.slice Ag grs.length cg) (.slice Acs cases.length ccs) (.slice Ar rows.length cr) b c w1 hW1 hc hb).mono ?_
    rintro e w2 (⟨h1, rfl, k2⟩ | ⟨h1, rfl, hB2, k2⟩)
    · exact absurd h1 hcb
    have hlb : z6 ≠ bw := by omega
    have B62 := B6.fx k2 (by omega) hlb
    have hO2 := hO1.fx k2 (fun q hq => hne q hq)
    have hD2 := hD1.fx (k2.mono fun q _ e => e ▸ hXw)
    have hz2 := k2.size
    have hPR := propagate_any bw x0 (.slice Ar rows.length cr) (.slice Acs cases.length ccs) Ag Ar cg cr rows grs n b (c + 1) (.slice Ab nb cb) box X css csg w2 hB2 hO2 hne hXw hXb (hD2.imp fun _ h => h.1) h1 hb hf hn hr hg
    rw [show b - (c + 1) = b - c - 1 by omega, hF.out] at hPR
    replace hPR := hid hPR
    replace hz6 := hid hz6
    have hD0 := hid (hD.more (Fx.refl X w))
    clear B6 hO1 hD1 hW1 hW hO hD
    go_wp2_with fail
    refine hPR.out.mono ?_
    rintro e w3 (⟨h2, rfl, k3⟩ | ⟨h2, vs, bx, rfl, hE⟩)
    · have HR : R = .out := by rw [← hR.out, rootF_out (s := (⟨box, rows, grs, cases⟩ : Sys)) (b := b - c) hce.out (by omega) hF.out h2]
      subst HR
      have hEE : Fx (PW bw (.slice Ab nb cb)) w w3 := ((k1.fx (PW bw (.slice Ab nb cb))).trans (k2.mono fun q _ e => .inl e)).trans k3
      unfold RootR
      go_wp2
      exact ⟨rfl, rfl, hEE⟩
    · obtain ⟨As, ns, cs, rfl⟩ := hE.stp.isSl
      have k03 : Fx (PW bw (.slice Ab nb cb)) w w3 := ((k1.fx (PW bw (.slice Ab nb cb))).trans (k2.mono fun q _ e => .inl e)).trans hE.fx
      have B63 := B62.fx hE.fx (by omega) (fun e => by
        rcases e with e | e
        · exact hlb e
        · have := hvl z6 e
          have := hz6.out
          omega)
      have hS3 := hE.stp
      have hO3 := hE.own
      have hW3 := hE.wk
      have hcb3 := hE.cb
      have hop3 := hid hE.opn
      have hlen3 := hE.len
      have hbk3 : ∀ q, (Value.slice As ns cs).ownBlock = some q → z6 < q := fun q hq => by
        have := hE.blk q hq
        omega
      have hD3 := hD2.fx (hE.fx.mono fun q _ e => by
        rcases e with e | e
        · exact e ▸ hXw
        · exact hXb q e)
      have hz3 : w2.heap.size ≤ w3.heap.size := hE.fx.size
      have hsb3 := hS3.blk_lt
      clear hE hO2 hD2 hB2 B62 k2
      go_upto_region 4 with (fail)
      have k4 := (Kp.refl w3).alloc (.cells #[.int .i64 0, .slice As ns cs, .int .i64 0, .int .i64 0, .slice none 0 0] 34)
      have BT := Bx.new w3 #[.int .i64 0, .slice As ns cs, .int .i64 0, .int .i64 0, .slice none 0 0] 34
      have zT := World.size_alloc w3 (.cells #[.int .i64 0, .slice As ns cs, .int .i64 0, .int .i64 0, .slice none 0 0] 34)
      generalize w3.alloc (.cells #[.int .i64 0, .slice As ns cs, .int .i64 0, .int .i64 0, .slice none 0 0] 34) = w4 at *
      obtain ⟨t9, ht9⟩ : ∃ t9, t9 = w3.heap.size := ⟨_, rfl⟩
      rw [← ht9] at BT zT hz3 hsb3 ⊢
      simp only [List.toList_toArray] at BT
      have B64 := B63.kp k4 (by omega)
      have hS4 := hS3.kp k4
      have hO4 := hO3.kp k4
      have hvl3 := hO3.blk_lt
      rw [← ht9] at hvl3
      have hbw3 : bw < t9 := by
        have := hW3.lt (by simp)
        omega
      have hW4 := hW3.kp k4 (by omega)
      have hD4 := hD3.fx (k4.fx X)
      have k04 := k03.trans (k4.fx _)
      replace ht9 := hid ht9
      have hF1 := hF.out
      clear B63 hS3 hO3 hW3 hD3 k03 k4
      have t0 := BT.cell (j := 0) rfl
      have t1 := BT.cell (j := 1) rfl
      have t2 := BT.cell (j := 2) rfl
      have t3 := BT.cell (j := 3) rfl
      have t4 := BT.cell (j := 4) rfl
      cases ho : F.opn with
      | false =>
        have HR : R = .ref (.mk 0 F.steps 0 0 []) (1 + F.steps.length) := by rw [← hR.out, rootF_shut (s := (⟨box, rows, grs, cases⟩ : Sys)) (b := b - c) hce.out (by omega) hF1 h2 ho]
        subst HR
        replace ho := hid ho
        have hA : c + (1 + F.steps.length) ≤ b := by omega
        have hcc : c + 1 + F.steps.length = c + (1 + F.steps.length) := by omega
        replace hcc := hid hcc
        replace hA := hid hA
        have y0 := (B64).cell (j := 0) rfl
        have y1 := (B64).cell (j := 1) rfl
        have y2 := (B64).cell (j := 2) rfl
        have y3 := (B64).cell (j := 3) rfl
        have y4 := (B64).cell (j := 4) rfl
        have y5 := (B64).cell (j := 5) rfl
        have y6 := (B64).cell (j := 6) rfl
        have f0 := (B64).free (j := 0) (by simp)
        have f1 := (B64).free (j := 1) (by simp)
        have f2 := (B64).free (j := 2) (by simp)
        have f3 := (B64).free (j := 3) (by simp)
        have f4 := (B64).free (j := 4) (by simp)
        have f5 := (B64).free (j := 5) (by simp)
        have f6 := (B64).free (j := 6) (by simp)
        have k0n := k04
        have hWn := hW4
        go_wp2
        try simp only [Exit.inBlock, Exit.then]
        have BE := (B64).all (cs := [.slice none 0 0, .int .i64 0, .int .i64 0, .slice As ns cs, .int .i64 0, .int .i64 0, .slice none 0 0]) rfl
        change bodyPost _ _ _ _ _ (w4.setCells z6 0 [.slice none 0 0, .int .i64 0, .int .i64 0, .slice As ns cs, .int .i64 0, .int .i64 0, .slice none 0 0])
        refine bodyPost_ret (results_cell_bx rfl _ (w4.setCells z6 0 [.slice none 0 0, .int .i64 0, .int .i64 0, .slice As ns cs, .int .i64 0, .int .i64 0, .slice none 0 0]) z6 [.slice none 0 0, .int .i64 0, .int .i64 0, .slice As ns cs, .int .i64 0, .int .i64 0, .slice none 0 0] _ rfl BE.range Tryz.underlying64 rfl (by kernel_rfl)) rfl ?_
        have kS : Fx (fun q => q = z6) w4 (w4.setCells z6 0 [.slice none 0 0, .int .i64 0, .int .i64 0, .slice As ns cs, .int .i64 0, .int .i64 0, .slice none 0 0]) := setsFx z6 0 _ _ (Fx.refl _ _) (.inl rfl)
        have kE := k0n.thru kS (fun q hq e => by have := hz6.out; omega)
        have hWE := hWn.fx kS (hWn.lt (by simp)) (fun e => by omega)
        generalize w4.setCells z6 0 [.slice none 0 0, .int .i64 0, .int .i64 0, .slice As ns cs, .int .i64 0, .int .i64 0, .slice none 0 0] = wE at *
        have hSE := hS4.fx kS (fun q hq e => by have := hbk3 q hq; omega)
        unfold RootR
        dsimp only
        refine ⟨hA.out, kE, ⟨.slice Ar rows.length cr, by rw [← hcc.out]; exact hWE⟩, .int .i64 0, .slice As ns cs, .int .i64 0, .int .i64 0, .slice none 0 0, rfl, ?_⟩
        refine (OwF.own hSE (fun q hq => by have := hbk3 q hq; have := hz6.out; omega)).imp fun w2 h => ⟨_, _, rfl, h.sl encStp_len, Sl.nil _ _ _⟩
      | true =>
        obtain ⟨hbx, hfb⟩ := hop3.out ho
        have hmf : ∀ (fn : Fn) (first cap : Array Value) (w : World), (Instr.makeFunc fn first cap).run Tryz.prog w = .ok (.func fn first cap) w := fun _ _ _ _ => rfl
        have HR := rootF_cases (s := (⟨box, rows, grs, cases⟩ : Sys)) (b := b - c) hce.out (by omega) hF1 h2 ho
        rw [hR.out, ← hbx] at HR
        replace HR := hid HR
        replace ho := hid ho
        replace hbx := hid hbx
        have w3c := hW4.cell (j := 3) rfl
        clear hop3 hF1
        have e1' : decide (0 < cases.length) = true := decide_eq_true (by omega)
        have e1 : decide ((0 : Int) < (cases.length : Int)) = true := decide_eq_true (by omega)
        have f0 := BT.free (j := 0) (by simp)
        go_upto_region 9 with (fail)
        have BT7 := BT.set (j := 0) (by simp) (.int .i64 2)
        have k67 : Fx (fun q => q = t9) w4 (w4.setCell ⟨t9, 0, none⟩ (.int .i64 2)) := (Fx.refl (fun q => q = t9) w4).set1 ⟨t9, 0, none⟩ _ (.inl rfl)
        generalize w4.setCell ⟨t9, 0, none⟩ (.int .i64 2) = w7 at *
        simp only [List.set_cons_zero] at BT7
        have hW7 := hW4.fx k67 (by omega) (fun e => by omega)
        have hO7 := hO4.fx k67 (fun q hq e => by have := hvl3 q hq; omega)
        have hS7 := hS4.fx k67 (fun q hq e => by have := hsb3 q hq; omega)
        have B67 := B64.fx k67 (by omega) (fun e => by omega)
        have k07 := k04.thru (X := PW bw (.slice Ab nb cb)) k67 (fun q hq e => by have := hz6.out; omega)
        have hD7 := hD0.out.fx (k07.mono fun q _ e => .inl (by
          rcases e with e | e
          · exact e ▸ hXw
          · exact hXb q e))
        have hz67 := k67.size
        clear hW4 hO4 hS4 B64 k04 hD4 BT t0 t1 t2 t3 t4 f0 w3c e1 e1'
        have w3c := hW7.cell (j := 3) rfl
        obtain ⟨zp, hzp⟩ : ∃ zp, zp = w7.heap.size := ⟨_, rfl⟩
        have hzw := hz6.out
        have hNB : NB w X zp (.slice Ab nb cb) bw z6 t9 (.slice As ns cs) := ⟨hXw, hl, by omega, by omega, by omega, by omega, by omega, by omega, fun q hq => ⟨hvl q hq, hne q hq⟩, fun q hq => by
          have a1 := hbk3 q hq
          have a2 := hsb3 q hq
          exact ⟨by omega, by omega, by omega, by omega⟩⟩
        have hNI : NI w (fun W => PData css csg (.slice Ar rows.length cr) (.slice Ag grs.length cg) rows grs W ∧ CRaw csC cssC (.slice Acs cases.length ccs) cases W) (fun _ => True) X zp b b c (.slice Ab nb cb) bw z6 t9 x0 (.slice Ar rows.length cr) (.slice Ag grs.length cg) (.slice Acs cases.length ccs) (.slice Ar rows.length cr) (.int .i64 2) (.slice As ns cs) (.int .i64 0) (.int .i64 0) (.slice As ns cs) F.steps bx w7 (.slice none 0 0) [] [] (1 + F.steps.length) :=
          ⟨KI.nil _ _ _, BT7, B67, by rw [show c + (1 + F.steps.length) = c + 1 + F.steps.length by omega]; exact hW7, by omega, hO7, hS7,
            fun _ _ => trivial, k07, hD7, fun q hq => by simp [Value.ownBlock] at hq, by omega⟩
        have hR0 : Hid (casesF (⟨box, rows, grs, cases⟩ : Sys) F.steps bx (b - c) 0 (cases.drop 0) (1 + F.steps.length) [] = R) := hid HR.out.symm
        replace hzp := hid hzp
        have hFS := hid (Nat.le_refl F.steps.length)
        clear hzw
        clear HR BT7 B67 hW7 hO7 hS7 k07 hD7 k67
        go_wp2_with fail
        go_loopw [55] (fun i wr => ∃ (k : Nat) (css2 : List (Elm 5)) (ts : List Tr) (cst : Nat) (vk x4 : Value), k ≤ cases.length ∧ i = .int .i64 (k : Int) ∧ NI w (fun W => PData css csg (.slice Ar rows.length cr) (.slice Ag grs.length cg) rows grs W ∧ CRaw csC cssC (.slice Acs cases.length ccs) cases W) (fun _ => True) X zp b b c (.slice Ab nb cb) bw z6 t9 x0 (.slice Ar rows.length cr) (.slice Ag grs.length cg) (.slice Acs cases.length ccs) x4 (.int .i64 2) (.slice As ns cs) (.int .i64 0) (.int .i64 0) (.slice As ns cs) F.steps bx wr vk css2 ts cst ∧ css2.length ≤ k ∧ 1 ≤ cst ∧ Hid (casesF (⟨box, rows, grs, cases⟩ : Sys) F.steps bx (b - c) k (cases.drop k) cst ts = R)) (fun i _ => cases.length - (intOf i).toNat)
        case atStart => exact ⟨0, [], [], _, _, _, by omega, rfl, hNI, by simp, by omega, hR0⟩
        case round =>
          clear hNI hR0 w3c
          obtain ⟨k, css2, ts, cst, vk, x4, hk, rfl, hI, hcl2, hcst, HR⟩ := hrel
          by_cases hk2 : k < cases.length
          · have hP := hI.rd.here
            obtain ⟨bq, oq, Ai, ci, hA, cl, hlk, hraw⟩ := hP.2.at hk2
            have hrw := hraw wr _ hP.2
            have hkl : (k : Int) < (cases.length : Int) := by omega
            subst hA
            obtain ⟨lk, hlk9⟩ : ∃ l, cases[k] = l := ⟨_, rfl⟩
            have hlm : lk ∈ cases := hlk9 ▸ List.getElem_mem hk2
            have hHR0 : Hid (kidF (nodeF (rows ++ lk) grs (b - (c + cst)) bx (b - (c + cst))) k cst (fun t c' => casesF (⟨box, rows, grs, cases⟩ : Sys) F.steps bx (b - c) (k + 1) (cases.drop (k + 1)) c' (ts ++ [t])) = R) := hid (by
              have h := HR.out
              have h9 := casesF_drop (⟨box, rows, grs, cases⟩ : Sys) F.steps bx (b - c) k cst ts hk2
              dsimp only at h9
              rw [h9, hlk9, show b - c - cst = b - (c + cst) by omega] at h
              exact h)
            rw [hlk9] at hraw hrw hlk
            have hx1 := hI.wk.cell (j := 1) rfl
            have hcl1 := hP.1.1.2.1
            have hPs := hP.1.1.1
            have ka := (Kp.refl wr).alloc (.cells #[.slice Ar rows.length cr, .slice Ai lk.length ci] 23)
            have BA := Bx.new wr #[.slice Ar rows.length cr, .slice Ai lk.length ci] 23
            have za := World.size_alloc wr (.cells #[.slice Ar rows.length cr, .slice Ai lk.length ci] 23)
            go_wp2_with fail
            generalize wr.alloc (.cells #[.slice Ar rows.length cr, .slice Ai lk.length ci] 23) = wa at *
            refine (Concat_any wr.heap.size 0 Ar Ai cr ci css (cssC k) wa (by rw [hcl1]; exact BA.cell (j := 0) rfl) (by rw [hlk]; exact BA.cell (j := 1) rfl) (by rw [hcl1]; exact hPs.keep (pl_stable _) ka) (hrw.1.keep (pl_stable _) ka) (by rw [hcl1]; exact hrl) (by rw [hlk]; exact hcl _ hlm)).mono ?_
            rintro e w5 ⟨v, rfl, hOc, k5⟩
            have k15 := ka.trans k5
            have hza := ka.size
            have hgeC : ∀ q, v.ownBlock = some q → wr.heap.size ≤ q := fun q hq => Nat.le_trans hza (hOc.ge q hq)
            have hltC := hOc.blk_lt
            obtain ⟨An, cn, hvn, -, -⟩ := hOc.form
            have hlap : (css ++ cssC k).length = (rows ++ lk).length := by rw [List.length_append, List.length_append, hcl1, hlk]
            rw [hlap] at hvn
            subst hvn
            have hI5 := hI.kp k15
            have hW5 := hI5.wk
            clear BA za hx1 cl hPs hrw hP ka k5
            have hcl5 := hid hcl1
            have hlk5 := hid hlk
            have hlap5 := hid hlap
            clear hcl1 hlk hlap
            obtain ⟨nrl, hnrl⟩ : ∃ q, Hid ((rows ++ lk).length = q) := ⟨_, hid rfl⟩
            rw [hnrl.out] at hOc hgeC hltC ⊢
            have y4 := hW5.cell (j := 4) rfl
            have f4 := hW5.free (j := 4) (by simp)
            go_upto_region 13 with (fail)
            have hW6 := hW5.set (j := 4) (by simp) (.slice An nrl cn)
            have k56 : Fx (fun q => q = bw) w5 (w5.setCell ⟨bw, 4, none⟩ (.slice An nrl cn)) := (Fx.refl (fun q => q = bw) w5).set1 ⟨bw, 4, none⟩ _ (.inl rfl)
            generalize w5.setCell ⟨bw, 4, none⟩ (.slice An nrl cn) = w6 at *
            simp only [List.set_cons_zero, List.set_cons_succ] at hW6
            have hO6 := hI5.own.fx k56 (fun q hq => (hNB.vbz q hq).2)
            clear y4 f4 hW5
            go_wp2_with fail
            refine (CloneRange_any _ bx w6 (hO6.sl encRng_len) (by omega)).mono ?_
            rintro e w7' ⟨vh, rfl, hOh, k67⟩
            have hW7 := hW6.kp k67 (by have := hI5.wk.lt (by simp); have := k56.size; omega)
            have hgeH : ∀ q, vh.ownBlock = some q → w6.heap.size ≤ q := fun q hq => hOh.ge q hq
            have hzs15 := k15.size
            have hzs56 := k56.size
            have hzs67 := k67.size
            have kF : Fx (fun q => q = bw) w5 w7' := k56.trans (k67.fx _)
            obtain ⟨Ah, nh, ch', rfl⟩ := hOh.isSl
            have hzw' := hI.zw
            have hbz' := hNB.bz
            have hwz' := hNB.wz
            have hcb' := hI.cb
            have hCN : OwF (fun q => (X q ∨ w.heap.size ≤ q) ∧ (Value.slice An nrl cn).ownBlock ≠ some q) w7' (PData (css ++ cssC k) csg (.slice An nrl cn) (.slice Ag grs.length cg) (rows ++ lk) grs) := fun W kW => by
              have h1 := hI.rd W ((k15.fx _).trans ((kF.mono fun q _ e => .inl (e ▸ hXw)).trans (kW.mono fun q _ e => e.1)))
              have h2 := hOc.fx kF (fun q hq e => by have := hgeC q hq; omega)
              have h3 := h2.fx kW (fun q hq e => e.2 hq)
              exact ⟨RawL.app h3 h1.1.1 (hraw W _ h1.2), h1.1.2⟩
            rw [← hnrl.out] at hCN hW7
            have hIH := node_any (b - (c + cst)) bw x0 (.slice Ar rows.length cr) Ag An (some ⟨bq, oq, none⟩) cg cn cases.length ccs (rows ++ lk) grs n b (c + cst) (.slice Ah nh ch') bx (k : Int) (fun q => (X q ∨ w.heap.size ≤ q) ∧ (Value.slice An (rows ++ lk).length cn).ownBlock ≠ some q) (css ++ cssC k) csg w7' hW7 (hOh.less (Nat.zero_le _)) (fun q hq => by
              have := hgeH q hq
              omega) ⟨.inl hXw, fun e => by have := hgeC bw (by rw [← hnrl.out]; exact e); omega⟩ (fun q hq => ⟨.inr (by have := hgeH q hq; omega), fun e => by
              have a1 := hgeH q hq
              have a2 := hltC q (by rw [← hnrl.out]; exact e)
              omega⟩) (by rw [hnrl.out] at hCN ⊢; exact hCN) hcb' hb hfb hn (fun r h => by
              rcases List.mem_append.1 h with h | h
              · exact hr r h
              · exact hcr lk hlm r h) hg (.inr (by omega)) (by omega) (by omega) hcs1 (Nat.le_refl _)
            obtain ⟨F', hF'⟩ : ∃ F', Hid (nodeF (rows ++ lk) grs (b - (c + cst)) bx (b - (c + cst)) = F') := ⟨_, hid rfl⟩
            have hidx : ∀ vs i d, F' = .sol vs i d → i = 0 := fun vs i d e => nodeF_idx _ _ _ _ _ (hF'.out.trans e)
            rw [hF'.out] at hIH
            have hHR : Hid (kidF F' k cst (fun t c' => casesF (⟨box, rows, grs, cases⟩ : Sys) F.steps bx (b - c) (k + 1) (cases.drop (k + 1)) c' (ts ++ [t])) = R) := hid (by
              have h := hHR0.out
              rw [hF'.out] at h
              exact h)
            rw [hnrl.out] at hIH
            replace hIH := hid hIH
            clear hHR0
            go_wp2_with fail
            refine hIH.out.mono ?_
            rintro e wd hN
            have hzc := hI.zw
            have hmf : ∀ (fn : Fn) (first cap : Array Value) (w : World), (Instr.makeFunc fn first cap).run Tryz.prog w = .ok (.func fn first cap) w := fun _ _ _ _ => rfl
            have hcfk := fun args W => kids_real.run args W
            have hgh0 : Hid (∀ q, (Value.slice Ah nh ch').ownBlock = some q → wr.heap.size ≤ q) := hid fun q hq => by
              have := hgeH q hq
              omega
            have k07 : Fx (PW bw (.slice Ab nb cb)) w w7' := hI.fx.trans ((k15.fx _).trans (kF.mono fun q _ e => .inl e))
            clear hgeH hgeC hltC
            cases F' with
            | out =>
              unfold NodeR at hN
              dsimp only at hN
              obtain ⟨rfl, kN⟩ := hN
              have hX : R = .out := hHR.out.symm
              subst hX
              have kE := k07.thru (X := PW bw (.slice Ab nb cb)) kN (fun q hq e => by
                rcases e with e | e
                · exact .inl e
                · have := hgh0.out q e
                  omega)
              have hEE : RootR w (b + 1) b c (.slice Ab nb cb) bw x0 (.slice Ar rows.length cr) (.slice Ag grs.length cg) (.slice (some ⟨bq, oq, none⟩) cases.length ccs) .out (.panicked Pn) wd := ⟨rfl, kE⟩
              replace hEE := hid hEE
              go_wp2
              exact ⟨rfl, hEE.out⟩
            | sol vs i d =>
              have hi0 := hidx vs i d rfl
              unfold NodeR at hN
              dsimp only at hN
              obtain ⟨hcd, kN, hWN, g, cp, rfl, hOv⟩ := hN
              have hX : R = .sol vs k (cst + d) := hHR.out.symm
              subst hX
              have hId := hI.child hNB k15 hgh0.out ((kF.mono fun q _ e => .inl e).trans kN) (d := d) (by rw [← Nat.add_assoc]; exact hWN) (by omega)
              rw [show max (k : Int) 0 = (k : Int) by omega]
              have ke := (Kp.refl wd).alloc (.cells #[.slice (some ⟨g, 0, none⟩) vs.length cp, .int .i64 (k : Int), .int .i64 0, .slice none 0 0, .int .i64 0, .int .i64 0, .slice none 0 0] 64)
              have BE := Bx.new wd #[.slice (some ⟨g, 0, none⟩) vs.length cp, .int .i64 (k : Int), .int .i64 0, .slice none 0 0, .int .i64 0, .int .i64 0, .slice none 0 0] 64
              have ze := World.size_alloc wd (.cells #[.slice (some ⟨g, 0, none⟩) vs.length cp, .int .i64 (k : Int), .int .i64 0, .slice none 0 0, .int .i64 0, .int .i64 0, .slice none 0 0] 64)
              obtain ⟨vl, hvl9⟩ : ∃ vl, Hid (vl = vs.length) := ⟨_, hid rfl⟩
              rw [← hvl9.out] at ke BE ze hOv ⊢
              go_upto_region 14 with (fail)
              generalize wd.alloc (.cells #[.slice (some ⟨g, 0, none⟩) vl cp, .int .i64 (k : Int), .int .i64 0, .slice none 0 0, .int .i64 0, .int .i64 0, .slice none 0 0] 64) = we at *
              obtain ⟨r22, hr22⟩ : ∃ r22, r22 = wd.heap.size := ⟨_, rfl⟩
              rw [← hr22] at BE ze ⊢
              replace hr22 := hid hr22
              have hIe := hId.kp ke
              have hOve := hOv.kp ke
              have y0 := (BE).cell (j := 0) rfl
              have y1 := (BE).cell (j := 1) rfl
              have y2 := (BE).cell (j := 2) rfl
              have y3 := (BE).cell (j := 3) rfl
              have y4 := (BE).cell (j := 4) rfl
              have y5 := (BE).cell (j := 5) rfl
              have y6 := (BE).cell (j := 6) rfl
              have f0 := (BE).free (j := 0) (by simp)
              have f1 := (BE).free (j := 1) (by simp)
              have f2 := (BE).free (j := 2) (by simp)
              have f3 := (BE).free (j := 3) (by simp)
              have f4 := (BE).free (j := 4) (by simp)
              have f5 := (BE).free (j := 5) (by simp)
              have f6 := (BE).free (j := 6) (by simp)
              go_wp2_with fail
              refine (kids_any t9 (.int .i64 2) (.slice As ns cs) (.int .i64 0) (.int .i64 0) vk css2 (some ⟨g, 0, none⟩) vl cp (k : Int) (.int .i64 0) (.slice none 0 0) (.int .i64 0) (.int .i64 0) (.slice none 0 0) (by simp [Value.oneCell']) we hIe.tr hIe.ki.own (fun q hq => by
                have a1 := hIe.vkz q hq
                have a2 := hNB.t9z
                omega) (by omega)).mono ?_
              rintro e wf ⟨rfl, vk2, hTf, hOf, kf, hatf⟩
              have hvklt := hI.ki.own.blk_lt
              have hnf : ∀ q, wr.heap.size ≤ q → ¬ (q = t9 ∨ vk.ownBlock = some q) := fun q hq e => by
                rcases e with e | e
                · have a2 := hNB.t9z
                  omega
                · have := hvklt q e
                  omega
              have hgw : wr.heap.size ≤ g := by
                have := hOv.ge g rfl
                omega
              have hkn := kN.size
              have BEf := BE.fx kf (by omega) (hnf r22 (by rw [hr22.out]; omega))
              have hOvf := hOve.fx kf (fun q hq => by
                have : g = q := by simpa [Value.ownBlock] using hq
                exact hnf q (by omega))
              have hFof := hIe.fo.fx kf (hIe.fo.lt (by simp)) (fun e => by
                rcases e with e | e
                · exact hNB.ne e
                · have a1 := hIe.vkz z6 e
                  have a2 := hNB.z6z
                  omega)
              have hWf := hIe.wk.fx kf (hIe.wk.lt (by simp)) (fun e => by
                have a0 := hNB.bz
                have a1 := hNB.t9w
                have a2 := hNB.wz
                rcases e with e | e
                · omega
                · have a1 := hIe.vkz bw e
                  omega)
              have k0n := hIe.fx.thru (X := PW bw (.slice Ab nb cb)) kf (fun q hq e => by
                have a1 := hNB.t9w
                have a2 := hNB.wz
                rcases e with e | e
                · omega
                · have a1 := hIe.vkz q e
                  omega)
              have hWn := hWf
              have hz6n : w.heap.size ≤ z6 := hNB.z6w
              have hbwz : bw ≠ z6 := by have := hNB.bz; omega
              clear y0 y1 y2 y3 y4 y5 y6 f0 f1 f2 f3 f4 f5 f6
              have b0 := BEf.cell (j := 0) rfl
              have b1 := BEf.cell (j := 1) rfl
              have b2 := BEf.cell (j := 2) rfl
              have b3 := BEf.cell (j := 3) rfl
              have b4 := BEf.cell (j := 4) rfl
              have b5 := BEf.cell (j := 5) rfl
              have b6 := BEf.cell (j := 6) rfl
              have hsome : (some (⟨g, 0, none⟩ : Addr)).isSome = true := rfl
              rw [hsome]
              have y0 := (hFof).cell (j := 0) rfl
              have y1 := (hFof).cell (j := 1) rfl
              have y2 := (hFof).cell (j := 2) rfl
              have y3 := (hFof).cell (j := 3) rfl
              have y4 := (hFof).cell (j := 4) rfl
              have y5 := (hFof).cell (j := 5) rfl
              have y6 := (hFof).cell (j := 6) rfl
              have f0 := (hFof).free (j := 0) (by simp)
              have f1 := (hFof).free (j := 1) (by simp)
              have f2 := (hFof).free (j := 2) (by simp)
              have f3 := (hFof).free (j := 3) (by simp)
              have f4 := (hFof).free (j := 4) (by simp)
              have f5 := (hFof).free (j := 5) (by simp)
              have f6 := (hFof).free (j := 6) (by simp)
              go_wp2
              try simp only [Exit.inBlock, Exit.then]
              have BE := (hFof).all (cs := [.slice (some ⟨g, 0, none⟩) vl cp, .int .i64 (k : Int), .int .i64 0, .slice none 0 0, .int .i64 0, .int .i64 0, .slice none 0 0]) rfl
              change bodyPost _ _ _ _ _ (wf.setCells z6 0 [.slice (some ⟨g, 0, none⟩) vl cp, .int .i64 (k : Int), .int .i64 0, .slice none 0 0, .int .i64 0, .int .i64 0, .slice none 0 0])
              refine bodyPost_ret (results_cell_bx rfl _ (wf.setCells z6 0 [.slice (some ⟨g, 0, none⟩) vl cp, .int .i64 (k : Int), .int .i64 0, .slice none 0 0, .int .i64 0, .int .i64 0, .slice none 0 0]) z6 [.slice (some ⟨g, 0, none⟩) vl cp, .int .i64 (k : Int), .int .i64 0, .slice none 0 0, .int .i64 0, .int .i64 0, .slice none 0 0] _ rfl BE.range Tryz.underlying64 rfl (by kernel_rfl)) rfl ?_
              have kS : Fx (fun q => q = z6) wf (wf.setCells z6 0 [.slice (some ⟨g, 0, none⟩) vl cp, .int .i64 (k : Int), .int .i64 0, .slice none 0 0, .int .i64 0, .int .i64 0, .slice none 0 0]) := setsFx z6 0 _ _ (Fx.refl _ _) (.inl rfl)
              have kE := k0n.thru kS (fun q hq e => by have := hz6.out; omega)
              have hWE := hWn.fx kS (hWn.lt (by simp)) (fun e => by omega)
              generalize wf.setCells z6 0 [.slice (some ⟨g, 0, none⟩) vl cp, .int .i64 (k : Int), .int .i64 0, .slice none 0 0, .int .i64 0, .int .i64 0, .slice none 0 0] = wE at *
              have hSE := hOvf.fx kS (fun q hq e => by
                have : g = q := by simpa [Value.ownBlock] using hq
                have a1 := hNB.z6z
                omega)
              unfold RootR
              dsimp only
              have hcbe := hIe.cb
              refine ⟨hcbe, kE, ⟨_, hWE⟩, g, cp, ?_, ?_⟩
              · rw [← hvl9.out]
              · rw [← hvl9.out]
                exact hSE.less (by have a1 := hNB.wz; omega)
            | ref t d =>
              unfold NodeR at hN
              dsimp only at hN
              obtain ⟨hcd, kN, hWN, q0, q1, q2, q3, q4, rfl, hT⟩ := hN
              replace hT := hT.imp fun _ h => rdTr_le (m := b) (by omega) h
              have hX : Hid (casesF (⟨box, rows, grs, cases⟩ : Sys) F.steps bx (b - c) (k + 1) (cases.drop (k + 1)) (cst + d) (ts ++ [t]) = R) := hHR
              have hId := hI.child hNB k15 hgh0.out ((kF.mono fun q _ e => .inl e).trans kN) (d := d) (by rw [← Nat.add_assoc]; exact hWN) (by omega)
              have hqs := (rdTr_one b wd _ _ hT.here).2
              obtain ⟨p0, p2, p3, A1, A4, n1, c1, n4, c4, rfl, rfl, rfl, rfl, rfl⟩ := rdTr_form hT.here
              have ke := (Kp.refl wd).alloc (.cells #[.slice none 0 0, .int .i64 0, (.int .i64 p0), (.slice A1 n1 c1), (.int .i64 p2), (.int .i64 p3), (.slice A4 n4 c4)] 64)
              have BE := Bx.new wd #[.slice none 0 0, .int .i64 0, (.int .i64 p0), (.slice A1 n1 c1), (.int .i64 p2), (.int .i64 p3), (.slice A4 n4 c4)] 64
              have ze := World.size_alloc wd (.cells #[.slice none 0 0, .int .i64 0, (.int .i64 p0), (.slice A1 n1 c1), (.int .i64 p2), (.int .i64 p3), (.slice A4 n4 c4)] 64)
              go_upto_region 14 with (fail)
              generalize wd.alloc (.cells #[.slice none 0 0, .int .i64 0, (.int .i64 p0), (.slice A1 n1 c1), (.int .i64 p2), (.int .i64 p3), (.slice A4 n4 c4)] 64) = we at *
              obtain ⟨r22, hr22⟩ : ∃ r22, r22 = wd.heap.size := ⟨_, rfl⟩
              rw [← hr22] at BE ze ⊢
              replace hr22 := hid hr22
              have hIe := hId.kp ke
              have hTe := (hT.fx (ke.fx _))
              have hvklt := hI.ki.own.blk_lt
              have y0 := (BE).cell (j := 0) rfl
              have y1 := (BE).cell (j := 1) rfl
              have y2 := (BE).cell (j := 2) rfl
              have y3 := (BE).cell (j := 3) rfl
              have y4 := (BE).cell (j := 4) rfl
              have y5 := (BE).cell (j := 5) rfl
              have y6 := (BE).cell (j := 6) rfl
              have f0 := (BE).free (j := 0) (by simp)
              have f1 := (BE).free (j := 1) (by simp)
              have f2 := (BE).free (j := 2) (by simp)
              have f3 := (BE).free (j := 3) (by simp)
              have f4 := (BE).free (j := 4) (by simp)
              have f5 := (BE).free (j := 5) (by simp)
              have f6 := (BE).free (j := 6) (by simp)
              go_wp2_with fail
              refine (kids_any t9 (.int .i64 2) (.slice As ns cs) (.int .i64 0) (.int .i64 0) vk css2 none 0 0 0 (.int .i64 p0) (.slice A1 n1 c1) (.int .i64 p2) (.int .i64 p3) (.slice A4 n4 c4) hqs we hIe.tr hIe.ki.own (fun q hq => by
                have a1 := hIe.vkz q hq
                have a2 := hNB.t9z
                omega) (by omega)).mono ?_
              rintro e wf ⟨rfl, vk2, hTf, hOf, kf, hatf⟩
              have hIf := hIe.kid hNB (z := w7'.heap.size) (by omega) (fun q hq => by have := hvklt q hq; omega) (tc := tcE (.int .i64 p0) (.slice A1 n1 c1) (.int .i64 p2) (.int .i64 p3) (.slice A4 n4 c4) hqs) hTe hTf hOf kf hatf
              have hnone : (none : Option Addr).isSome = false := rfl
              rw [hnone]
              have hcl2' : (css2 ++ [tcE (.int .i64 p0) (.slice A1 n1 c1) (.int .i64 p2) (.int .i64 p3) (.slice A4 n4 c4) hqs]).length ≤ k + 1 := by simp; omega
              replace hcl2' := hid hcl2'
              clear y0 y1 y2 y3 y4 y5 y6 f0 f1 f2 f3 f4 f5 f6
              go_wp2_with fail
              refine ⟨?_, ?measure⟩
              case measure => simp [intOf]; omega
              (repeat apply Exists.intro)
              refine ⟨?rel, rfl⟩
              case rel => exact ⟨k + 1, _, _, _, _, _, by omega, by go_num, hIf, hcl2'.out, by omega, hX⟩
          · have hX : R = .ref (.mk 2 F.steps 0 0 ts) cst := by
              have h := HR.out
              have h9 := casesF_end (⟨box, rows, grs, cases⟩ : Sys) F.steps bx (b - c) k cst ts (Nat.le_of_not_lt hk2)
              dsimp only at h9
              exact (h.symm.trans h9)
            subst hX
            have k0n := hI.fx
            have hWn := hI.wk
            have hFo := hI.fo
            have hTr := hI.tr
            have hz6n : w.heap.size ≤ z6 := hNB.z6w
            have hbwz : bw ≠ z6 := by have := hNB.bz; omega
            obtain ⟨Ak, nk, ck, rfl⟩ := hI.ki.own.isSl
            have b0 := hTr.cell (j := 0) rfl
            have b1 := hTr.cell (j := 1) rfl
            have b2 := hTr.cell (j := 2) rfl
            have b3 := hTr.cell (j := 3) rfl
            have b4 := hTr.cell (j := 4) rfl
            have hkn : ¬ (k : Int) < (cases.length : Int) := by omega
            have y0 := (hFo).cell (j := 0) rfl
            have y1 := (hFo).cell (j := 1) rfl
            have y2 := (hFo).cell (j := 2) rfl
            have y3 := (hFo).cell (j := 3) rfl
            have y4 := (hFo).cell (j := 4) rfl
            have y5 := (hFo).cell (j := 5) rfl
            have y6 := (hFo).cell (j := 6) rfl
            have f0 := (hFo).free (j := 0) (by simp)
            have f1 := (hFo).free (j := 1) (by simp)
            have f2 := (hFo).free (j := 2) (by simp)
            have f3 := (hFo).free (j := 3) (by simp)
            have f4 := (hFo).free (j := 4) (by simp)
            have f5 := (hFo).free (j := 5) (by simp)
            have f6 := (hFo).free (j := 6) (by simp)
            go_wp2
            try simp only [Exit.inBlock, Exit.then]
            have BE := (hFo).all (cs := [.slice none 0 0, .int .i64 0, .int .i64 2, .slice As ns cs, .int .i64 0, .int .i64 0, .slice Ak nk ck]) rfl
            change bodyPost _ _ _ _ _ (wr.setCells z6 0 [.slice none 0 0, .int .i64 0, .int .i64 2, .slice As ns cs, .int .i64 0, .int .i64 0, .slice Ak nk ck])
            refine bodyPost_ret (results_cell_bx rfl _ (wr.setCells z6 0 [.slice none 0 0, .int .i64 0, .int .i64 2, .slice As ns cs, .int .i64 0, .int .i64 0, .slice Ak nk ck]) z6 [.slice none 0 0, .int .i64 0, .int .i64 2, .slice As ns cs, .int .i64 0, .int .i64 0, .slice Ak nk ck] _ rfl BE.range Tryz.underlying64 rfl (by kernel_rfl)) rfl ?_
            have kS : Fx (fun q => q = z6) wr (wr.setCells z6 0 [.slice none 0 0, .int .i64 0, .int .i64 2, .slice As ns cs, .int .i64 0, .int .i64 0, .slice Ak nk ck]) := setsFx z6 0 _ _ (Fx.refl _ _) (.inl rfl)
            have kE := k0n.thru kS (fun q hq e => by have := hz6.out; omega)
            have hWE := hWn.fx kS (hWn.lt (by simp)) (fun e => by omega)
            generalize wr.setCells z6 0 [.slice none 0 0, .int .i64 0, .int .i64 2, .slice As ns cs, .int .i64 0, .int .i64 0, .slice Ak nk ck] = wE at *
            have hIE := hI.ki.fx (kS.mono fun q _ e => ⟨by have := hNB.z6z; omega, fun e2 => by have a1 := hI.vkz q e2; have a2 := hNB.z6z; omega⟩)
            have hSE := hI.stp.fx kS (fun q hq e => (hNB.vsz q hq).2.2.1 e)
            have hcbe := hI.cb
            unfold RootR
            dsimp only
            refine ⟨hcbe, kE, ⟨_, hWE⟩, .int .i64 2, .slice As ns cs, .int .i64 0, .int .i64 0, .slice Ak nk ck, rfl, ?_⟩
            have hS9 := OwF.own hSE (fun q hq => (hNB.vsz q hq).1)
            have hK9 := hIE.kids hNB.wz (fun q hq => Nat.le_trans hNB.wz (hI.vkz q hq))
            exact fun w2 k => ⟨_, _, rfl, (hS9 w2 k).sl encStp_len, hK9 w2 k⟩
end Go.Proofs.YtlbhidiliogflaaGreat
