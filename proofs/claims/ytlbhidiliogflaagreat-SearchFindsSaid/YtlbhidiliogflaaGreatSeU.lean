
/-
Search: Find: the walk.
-/
import Derived.Test.YtlbhidiliogflaaGreatSeT
namespace Go.Proofs.YtlbhidiliogflaaGreat
set_option linter.unusedSimpArgs false
set_option linter.unusedVariables false
open Go.RowKit

/-- an answer's cells -/
def rdAns : Rd Ans := fun w cs A => ∃ vv y0 y1 y2 y3 y4, cs = [.int .i64 A.kind, .int .i64 A.case, vv, y0, y1, y2, y3, y4, .int .i64 A.steps] ∧ Ints w vv A.values ∧ rdTr 65537 w [y0, y1, y2, y3, y4] A.tree
theorem rdAns_stable : Stable rdAns := fun w w' cs A hk h => by
  obtain ⟨vv, y0, y1, y2, y3, y4, e, h1, h2⟩ := h
  exact ⟨vv, y0, y1, y2, y3, y4, e, h1.keep (pl_stable _) hk, rdTr_stable _ _ _ _ _ hk h2⟩
theorem rdTr_z (n : Nat) (w : World) (k : Int) {v : Value} {ss : List Stp} (h : Stps w v ss) : rdTr (n + 1) w [.int .i64 k, v, .int .i64 0, .int .i64 0, .slice none 0 0] (.mk k ss 0 0 []) := ⟨_, _, rfl, h, Sl.nil _ _ _⟩
theorem find1_real : Real Tryz.prog 19 := ⟨_, Tryz.func19, by kernel_rfl, by kernel_rfl⟩
section
variable {s : Sys} {bud : Int}
theorem findR_bad (h : validS s = false) : findR s bud = (⟨0, 0, [], zTr, 0⟩, 1) := by rw [findR, if_neg (by rw [h]; simp)]
theorem findR_bud (h : validS s = true) (hb : ¬ (0 ≤ bud ∧ bud ≤ 65536)) : findR s bud = (⟨0, 0, [], zTr, 0⟩, 2) := by rw [findR, if_pos h, if_neg hb]
theorem findR_out (h : validS s = true) (hb : 0 ≤ bud ∧ bud ≤ 65536) (hR : rootF s bud.toNat = .out) : findR s bud = (⟨2, 0, [], zTr, bud⟩, 0) := by rw [findR, if_pos h, if_pos hb, hR]
theorem findR_sol (h : validS s = true) (hb : 0 ≤ bud ∧ bud ≤ 65536) {vs : List Int} {i c : Nat} (hR : rootF s bud.toNat = .sol vs i c) : findR s bud = (⟨0, i, vs, zTr, c⟩, 0) := by rw [findR, if_pos h, if_pos hb, hR]
theorem findR_ref (h : validS s = true) (hb : 0 ≤ bud ∧ bud ≤ 65536) {t : Tr} {c : Nat} (hR : rootF s bud.toNat = .ref t c) : findR s bud = (⟨1, 0, [], t, c⟩, 0) := by rw [findR, if_pos h, if_pos hb, hR]
end
set_option maxRecDepth 8000 in
set_option maxHeartbeats 8000000 in
theorem Find_any (va : Value) (s : Sys) (bud : Int) (w : World) (hs : SysV w va s) :
    Calls Tryz.prog 6 #[va, .int .i64 bud] w fun e w' => ∃ cs, e = .returned (.tuple #[.agg cs.toArray, .int .i64 (findR s bud).2]) ∧ rdAns w' cs (findR s bud).1 ∧ Kp w w' := by
  have hs' := hs
  obtain ⟨Ab, cb, Ar, cr, Ag, cg, Ac, cc, rfl, hb, hr, hg, hc⟩ := hs'
  obtain ⟨l1, m1⟩ := hb.caps
  obtain ⟨l2, m2⟩ := hr.caps
  obtain ⟨l3, m3⟩ := hg.caps
  obtain ⟨l4, m4⟩ := hc.caps
  obtain ⟨PR, hPR⟩ : ∃ PR, Hid (findR s bud = PR) := ⟨_, hid rfl⟩
  rw [hPR.out]
  have k0 := (Kp.refl w).alloc (.cells #[.slice Ab s.box.length cb, .slice Ar s.rows.length cr, .slice Ag s.graphs.length cg, .slice Ac s.cases.length cc] 27)
  have B0 := SysB.new w #[.slice Ab s.box.length cb, .slice Ar s.rows.length cr, .slice Ag s.graphs.length cg, .slice Ac s.cases.length cc] 27
  have z0 := World.size_alloc w (.cells #[.slice Ab s.box.length cb, .slice Ar s.rows.length cr, .slice Ag s.graphs.length cg, .slice Ac s.cases.length cc] 27)
  have BA := Bx.new (w.alloc (.cells #[.slice Ab s.box.length cb, .slice Ar s.rows.length cr, .slice Ag s.graphs.length cg, .slice Ac s.cases.length cc] 27)) [.int .i64 0, .int .i64 0, .slice none 0 0, .int .i64 0, .slice none 0 0, .int .i64 0, .int .i64 0, .slice none 0 0, .int .i64 0].toArray 36
  have zA := World.size_alloc (w.alloc (.cells #[.slice Ab s.box.length cb, .slice Ar s.rows.length cr, .slice Ag s.graphs.length cg, .slice Ac s.cases.length cc] 27)) (.cells [.int .i64 0, .int .i64 0, .slice none 0 0, .int .i64 0, .slice none 0 0, .int .i64 0, .int .i64 0, .slice none 0 0, .int .i64 0].toArray 36)
  have kA := (Kp.refl (w.alloc (.cells #[.slice Ab s.box.length cb, .slice Ar s.rows.length cr, .slice Ag s.graphs.length cg, .slice Ac s.cases.length cc] 27))).alloc (.cells [.int .i64 0, .int .i64 0, .slice none 0 0, .int .i64 0, .slice none 0 0, .int .i64 0, .int .i64 0, .slice none 0 0, .int .i64 0].toArray 36)
  go_enter Tryz.func6, Tryz.ntmps6
  go_wp2_with fail
  generalize w.alloc (.cells #[.slice Ab s.box.length cb, .slice Ar s.rows.length cr, .slice Ag s.graphs.length cg, .slice Ac s.cases.length cc] 27) = w00 at *
  generalize w00.alloc (.cells [.int .i64 0, .int .i64 0, .slice none 0 0, .int .i64 0, .slice none 0 0, .int .i64 0, .int .i64 0, .slice none 0 0, .int .i64 0].toArray 36) = w0 at *
  obtain ⟨b0, hb0⟩ : ∃ b0, b0 = w.heap.size := ⟨_, rfl⟩
  obtain ⟨tA, htA⟩ : ∃ tA, tA = b0 + 1 := ⟨_, rfl⟩
  rw [← hb0] at B0 z0 ⊢
  rw [z0, ← htA] at BA zA
  rw [← htA] at z0
  rw [← htA]
  try simp only [List.toList_toArray] at BA
  have hwA : Hid (w.heap.size ≤ tA) := hid (by omega)
  have hlA : tA < w0.heap.size := by omega
  replace hb0 := hid hb0
  replace htA := hid htA
  replace z0 := hid z0
  replace zA := hid zA
  have kk0 := k0.trans kA
  refine (sValid_any _ s _ (hs.keep kk0)).mono ?_
  rintro e w1 ⟨rfl, k1⟩
  have B1 := (B0.keep kA).keep k1
  have BA1 := BA.kp k1 (by omega)
  replace k1 := kk0.trans k1
  obtain ⟨c0, c1, c2, c3⟩ := B1.cells
  have hgl := block_lt_of_cell c0
  clear kA k0 BA B0 kk0
  cases hV : validS s with
  | false =>
    have hX : PR = (⟨0, 0, [], zTr, 0⟩, 1) := hPR.out.symm.trans (findR_bad hV)
    subst hX
    clear hV
    have y0 := (BA1).cell (j := 0) rfl
    have y1 := (BA1).cell (j := 1) rfl
    have y2 := (BA1).cell (j := 2) rfl
    have y3 := (BA1).cell (j := 3) rfl
    have y4 := (BA1).cell (j := 4) rfl
    have y5 := (BA1).cell (j := 5) rfl
    have y6 := (BA1).cell (j := 6) rfl
    have y7 := (BA1).cell (j := 7) rfl
    have y8 := (BA1).cell (j := 8) rfl
    have f0 := (BA1).free (j := 0) (by simp)
    have f1 := (BA1).free (j := 1) (by simp)
    have f2 := (BA1).free (j := 2) (by simp)
    have f3 := (BA1).free (j := 3) (by simp)
    have f4 := (BA1).free (j := 4) (by simp)
    have f5 := (BA1).free (j := 5) (by simp)
    have f6 := (BA1).free (j := 6) (by simp)
    have f7 := (BA1).free (j := 7) (by simp)
    have f8 := (BA1).free (j := 8) (by simp)
    go_wp2
    try simp only [Exit.inBlock, Exit.then]
    have BE := (BA1).all (cs := [.int .i64 0, .int .i64 0, .slice none 0 0, .int .i64 0, .slice none 0 0, .int .i64 0, .int .i64 0, .slice none 0 0, .int .i64 0]) rfl
    change bodyPost _ _ _ _ _ (w1.setCells tA 0 [.int .i64 0, .int .i64 0, .slice none 0 0, .int .i64 0, .slice none 0 0, .int .i64 0, .int .i64 0, .slice none 0 0, .int .i64 0])
    refine bodyPost_ret (results_cell_bx2 rfl _ (w1.setCells tA 0 [.int .i64 0, .int .i64 0, .slice none 0 0, .int .i64 0, .slice none 0 0, .int .i64 0, .int .i64 0, .slice none 0 0, .int .i64 0]) tA [.int .i64 0, .int .i64 0, .slice none 0 0, .int .i64 0, .slice none 0 0, .int .i64 0, .int .i64 0, .slice none 0 0, .int .i64 0] _ rfl BE.range Tryz.underlying36 rfl (by kernel_rfl)) rfl ?_
    have kS : Fx (fun q => q = tA) w1 (w1.setCells tA 0 [.int .i64 0, .int .i64 0, .slice none 0 0, .int .i64 0, .slice none 0 0, .int .i64 0, .int .i64 0, .slice none 0 0, .int .i64 0]) := setsFx tA 0 _ _ (Fx.refl _ _) (.inl rfl)
    have kE := kS.kp_of k1 (fun q e => by rw [e]; exact hwA.out)
    refine ⟨_, rfl, ⟨_, _, _, _, _, _, rfl, Sl.nil _ _ _, rdTr_z _ _ _ (Sl.nil _ _ _)⟩, kE⟩
  | true =>
    replace hV := hid hV
    by_cases h1 : bud < 0
    · have e2 : decide (bud < 0) = true := decide_eq_true h1
      have hX : PR = (⟨0, 0, [], zTr, 0⟩, 2) := hPR.out.symm.trans (findR_bud hV.out (by omega))
      subst hX
      have y0 := (BA1).cell (j := 0) rfl
      have y1 := (BA1).cell (j := 1) rfl
      have y2 := (BA1).cell (j := 2) rfl
      have y3 := (BA1).cell (j := 3) rfl
      have y4 := (BA1).cell (j := 4) rfl
      have y5 := (BA1).cell (j := 5) rfl
      have y6 := (BA1).cell (j := 6) rfl
      have y7 := (BA1).cell (j := 7) rfl
      have y8 := (BA1).cell (j := 8) rfl
      have f0 := (BA1).free (j := 0) (by simp)
      have f1 := (BA1).free (j := 1) (by simp)
      have f2 := (BA1).free (j := 2) (by simp)
      have f3 := (BA1).free (j := 3) (by simp)
      have f4 := (BA1).free (j := 4) (by simp)
      have f5 := (BA1).free (j := 5) (by simp)
      have f6 := (BA1).free (j := 6) (by simp)
      have f7 := (BA1).free (j := 7) (by simp)
      have f8 := (BA1).free (j := 8) (by simp)
      go_wp2
      try simp only [Exit.inBlock, Exit.then]
      have BE := (BA1).all (cs := [.int .i64 0, .int .i64 0, .slice none 0 0, .int .i64 0, .slice none 0 0, .int .i64 0, .int .i64 0, .slice none 0 0, .int .i64 0]) rfl
      change bodyPost _ _ _ _ _ (w1.setCells tA 0 [.int .i64 0, .int .i64 0, .slice none 0 0, .int .i64 0, .slice none 0 0, .int .i64 0, .int .i64 0, .slice none 0 0, .int .i64 0])
      refine bodyPost_ret (results_cell_bx2 rfl _ (w1.setCells tA 0 [.int .i64 0, .int .i64 0, .slice none 0 0, .int .i64 0, .slice none 0 0, .int .i64 0, .int .i64 0, .slice none 0 0, .int .i64 0]) tA [.int .i64 0, .int .i64 0, .slice none 0 0, .int .i64 0, .slice none 0 0, .int .i64 0, .int .i64 0, .slice none 0 0, .int .i64 0] _ rfl BE.range Tryz.underlying36 rfl (by kernel_rfl)) rfl ?_
      have kS : Fx (fun q => q = tA) w1 (w1.setCells tA 0 [.int .i64 0, .int .i64 0, .slice none 0 0, .int .i64 0, .slice none 0 0, .int .i64 0, .int .i64 0, .slice none 0 0, .int .i64 0]) := setsFx tA 0 _ _ (Fx.refl _ _) (.inl rfl)
      have kE := kS.kp_of k1 (fun q e => by rw [e]; exact hwA.out)
      refine ⟨_, rfl, ⟨_, _, _, _, _, _, rfl, Sl.nil _ _ _, rdTr_z _ _ _ (Sl.nil _ _ _)⟩, kE⟩
    · have e2 : decide (bud < 0) = false := decide_eq_false h1
      by_cases h2 : 65536 < bud
      · have e3 : decide (65536 < bud) = true := decide_eq_true h2
        have hX : PR = (⟨0, 0, [], zTr, 0⟩, 2) := hPR.out.symm.trans (findR_bud hV.out (by omega))
        subst hX
        have y0 := (BA1).cell (j := 0) rfl
        have y1 := (BA1).cell (j := 1) rfl
        have y2 := (BA1).cell (j := 2) rfl
        have y3 := (BA1).cell (j := 3) rfl
        have y4 := (BA1).cell (j := 4) rfl
        have y5 := (BA1).cell (j := 5) rfl
        have y6 := (BA1).cell (j := 6) rfl
        have y7 := (BA1).cell (j := 7) rfl
        have y8 := (BA1).cell (j := 8) rfl
        have f0 := (BA1).free (j := 0) (by simp)
        have f1 := (BA1).free (j := 1) (by simp)
        have f2 := (BA1).free (j := 2) (by simp)
        have f3 := (BA1).free (j := 3) (by simp)
        have f4 := (BA1).free (j := 4) (by simp)
        have f5 := (BA1).free (j := 5) (by simp)
        have f6 := (BA1).free (j := 6) (by simp)
        have f7 := (BA1).free (j := 7) (by simp)
        have f8 := (BA1).free (j := 8) (by simp)
        go_wp2
        try simp only [Exit.inBlock, Exit.then]
        have BE := (BA1).all (cs := [.int .i64 0, .int .i64 0, .slice none 0 0, .int .i64 0, .slice none 0 0, .int .i64 0, .int .i64 0, .slice none 0 0, .int .i64 0]) rfl
        change bodyPost _ _ _ _ _ (w1.setCells tA 0 [.int .i64 0, .int .i64 0, .slice none 0 0, .int .i64 0, .slice none 0 0, .int .i64 0, .int .i64 0, .slice none 0 0, .int .i64 0])
        refine bodyPost_ret (results_cell_bx2 rfl _ (w1.setCells tA 0 [.int .i64 0, .int .i64 0, .slice none 0 0, .int .i64 0, .slice none 0 0, .int .i64 0, .int .i64 0, .slice none 0 0, .int .i64 0]) tA [.int .i64 0, .int .i64 0, .slice none 0 0, .int .i64 0, .slice none 0 0, .int .i64 0, .int .i64 0, .slice none 0 0, .int .i64 0] _ rfl BE.range Tryz.underlying36 rfl (by kernel_rfl)) rfl ?_
        have kS : Fx (fun q => q = tA) w1 (w1.setCells tA 0 [.int .i64 0, .int .i64 0, .slice none 0 0, .int .i64 0, .slice none 0 0, .int .i64 0, .int .i64 0, .slice none 0 0, .int .i64 0]) := setsFx tA 0 _ _ (Fx.refl _ _) (.inl rfl)
        have kE := kS.kp_of k1 (fun q e => by rw [e]; exact hwA.out)
        refine ⟨_, rfl, ⟨_, _, _, _, _, _, rfl, Sl.nil _ _ _, rdTr_z _ _ _ (Sl.nil _ _ _)⟩, kE⟩
      · have e3 : decide (65536 < bud) = false := decide_eq_false h2
        obtain ⟨b, rfl⟩ := Int.eq_ofNat_of_zero_le (show 0 ≤ bud by omega)
        have hb9 : b ≤ 65536 := by omega
        have hbb : (0 : Int) ≤ (b : Int) ∧ (b : Int) ≤ 65536 := by omega
        replace hbb := hid hbb
        obtain ⟨css, hcss⟩ := RawL.of hr rdRow_stable rdRow_one
        obtain ⟨csg, hcsg⟩ := RawL.of hg rdGr_stable rdGr_one
        obtain ⟨csC, cssC, hcC⟩ := CRaw.of hc
        have hD0 : ∀ w', Kp w w' → PData css csg (.slice Ar s.rows.length cr) (.slice Ag s.graphs.length cg) s.rows s.graphs w' ∧ CRaw csC cssC (.slice Ac s.cases.length cc) s.cases w' := fun w' k => ⟨⟨hcss w' k, hcsg w' k⟩, hcC w' k⟩
        replace hD0 := hid hD0
        clear hcss hcsg hcC hr hg hc hs l1 m1 l2 m2 l3 m3 l4 m4
        have k4 := k1.alloc (.cells [.slice Ab s.box.length cb, .slice Ar s.rows.length cr, .slice Ag s.graphs.length cg, .slice Ac s.cases.length cc, .slice Ar s.rows.length cr, .int .i64 (b : Int), .int .i64 0].toArray 62)
        have BW := Bx.new w1 [.slice Ab s.box.length cb, .slice Ar s.rows.length cr, .slice Ag s.graphs.length cg, .slice Ac s.cases.length cc, .slice Ar s.rows.length cr, .int .i64 (b : Int), .int .i64 0].toArray 62
        have zw := World.size_alloc w1 (.cells [.slice Ab s.box.length cb, .slice Ar s.rows.length cr, .slice Ag s.graphs.length cg, .slice Ac s.cases.length cc, .slice Ar s.rows.length cr, .int .i64 (b : Int), .int .i64 0].toArray 62)
        have BA4 := BA1.kp ((Kp.refl w1).alloc (.cells [.slice Ab s.box.length cb, .slice Ar s.rows.length cr, .slice Ag s.graphs.length cg, .slice Ac s.cases.length cc, .slice Ar s.rows.length cr, .int .i64 (b : Int), .int .i64 0].toArray 62)) (BA1.lt (by simp))
        have B4 := B1.keep ((Kp.refl w1).alloc (.cells [.slice Ab s.box.length cb, .slice Ar s.rows.length cr, .slice Ag s.graphs.length cg, .slice Ac s.cases.length cc, .slice Ar s.rows.length cr, .int .i64 (b : Int), .int .i64 0].toArray 62))
        go_upto_region 7 with (fail)
        generalize w1.alloc (.cells [.slice Ab s.box.length cb, .slice Ar s.rows.length cr, .slice Ag s.graphs.length cg, .slice Ac s.cases.length cc, .slice Ar s.rows.length cr, .int .i64 (b : Int), .int .i64 0].toArray 62) = w4 at *
        obtain ⟨bw, hbw⟩ : ∃ bw, bw = w1.heap.size := ⟨_, rfl⟩
        rw [← hbw] at BW zw ⊢
        have B6 := Bx.new w4 #[.pointer (some ⟨bw, 0, none⟩)] 60
        have z5 := World.size_alloc w4 (.cells #[.pointer (some ⟨bw, 0, none⟩)] 60)
        have k5 := (Kp.refl w4).alloc (.cells #[.pointer (some ⟨bw, 0, none⟩)] 60)
        generalize w4.alloc (.cells #[.pointer (some ⟨bw, 0, none⟩)] 60) = w5 at *
        obtain ⟨p6, hp6⟩ : ∃ p6, p6 = bw + 1 := ⟨_, rfl⟩
        rw [zw, ← hp6] at B6 z5
        rw [← hp6]
        have B7 := Bx.new w5 [.slice none 0 0, .int .i64 0, .int .i64 0, .slice none 0 0, .int .i64 0, .int .i64 0, .slice none 0 0].toArray 64
        have z6 := World.size_alloc w5 (.cells [.slice none 0 0, .int .i64 0, .int .i64 0, .slice none 0 0, .int .i64 0, .int .i64 0, .slice none 0 0].toArray 64)
        have k6 := (Kp.refl w5).alloc (.cells [.slice none 0 0, .int .i64 0, .int .i64 0, .slice none 0 0, .int .i64 0, .int .i64 0, .slice none 0 0].toArray 64)
        generalize w5.alloc (.cells [.slice none 0 0, .int .i64 0, .int .i64 0, .slice none 0 0, .int .i64 0, .int .i64 0, .slice none 0 0].toArray 64) = w6 at *
        obtain ⟨p7, hp7⟩ : ∃ p7, p7 = p6 + 1 := ⟨_, rfl⟩
        rw [z5, ← hp7] at B7 z6
        rw [← hp7]
        have kg := (Kp.refl w6).alloc (.cells #[.bool false] 4)
        have Bg := Bx.new w6 #[.bool false] 4
        have zg := World.size_alloc w6 (.cells #[.bool false] 4)
        have k46 := k5.trans k6
        have k4g := k46.trans kg
        have kwg := k4.trans k4g
        obtain ⟨d0, -, -, -⟩ := (B4.keep k4g).cells
        have hw1 := k1.size
        have hb0' := hb0.out
        have htA' := htA.out
        have zA' := zA.out
        have z0' := z0.out
        have hlA1 := BA1.lt (by simp)
        obtain ⟨v1, v2, ⟨v3, -⟩, v4, v5, v6, v7⟩ := validS_parts hV.out
        have hPR1 := find1_any p6 b0 p7 bw Ag Ar Ab Ac cg cr cb cc s b (fun q => w.heap.size ≤ q) css csg csC cssC (w6.alloc (.cells #[.bool false] 4)) (BW.kp k4g (by omega)) ((B6.kp (k6.trans kg) (by omega)).cell (j := 0) rfl) d0 (B7.kp kg (by omega)) ⟨by omega, by omega, by omega⟩ ⟨by omega, by omega⟩ (hb.keep (pl_stable _) kwg)
          (by show w.heap.size ≤ bw; omega) (fun q hq => by show w.heap.size ≤ q; have := kwg.size; omega) (OwF.of hD0.out kwg) hb9 hV.out (by omega) (by omega) (fun l hl => by have := (v7 l hl).1; omega)
        generalize hwg : w6.alloc (.cells #[.bool false] 4) = wg at *
        have hnP : ¬ (w6.heap.size = bw ∨ w6.heap.size = p7) := by omega
        have hlg : w6.heap.size < wg.heap.size := by omega
        have hGU := guarded_any 19 [.pointer (some ⟨p6, 0, none⟩), .pointer (some ⟨b0, 0, none⟩), .pointer (some ⟨p7, 0, none⟩)]
          (fun w' => FindQ b bw p7 (.slice Ab s.box.length cb) (.slice Ar s.rows.length cr) (.slice Ag s.graphs.length cg) (.slice Ac s.cases.length cc) (rootF s b) wg w')
          (fun w' => rootF s b = .out ∧ Fx (fun q => q = bw ∨ q = p7) wg w') w6 find1_real (by rw [hwg]; exact hPR1)
          (fun w1 h => Bg.fx h.1 hlg hnP) (fun w1 h => Bg.fx h.2 hlg hnP)
        have hmf : ∀ (fn : Fn) (first cap : Array Value) (w : World), (Instr.makeFunc fn first cap).run Tryz.prog w = .ok (.func fn first cap) w := fun _ _ _ _ => rfl
        have BAg := BA4.kp k4g (by omega)
        have hnA : ¬ (tA = bw ∨ tA = p7) ∧ tA ≠ w6.heap.size := by omega
        have hPX : ∀ q, (q = bw ∨ q = p7) → w.heap.size ≤ q := fun q e => by omega
        have hc6 := (B6.kp (k6.trans kg) (by omega)).cell (j := 0) rfl
        have hnn : p6 ≠ bw ∧ p6 ≠ p7 ∧ p6 ≠ w6.heap.size ∧ bw ≠ w6.heap.size ∧ p7 ≠ w6.heap.size := by omega
        have z9 : w.heap.size ≤ w6.heap.size := by omega
        replace hGU := hid hGU
        replace hPX := hid hPX
        replace z9 := hid z9
        have hlAg : tA < wg.heap.size := by omega
        have hnA6 : p6 ≠ tA := by omega
        clear hPR1 hwg zg B4 BA4 BW B6 B7 Bg d0 hnP
        replace zw := hid zw
        replace z5 := hid z5
        replace z6 := hid z6
        replace hbw := hid hbw
        replace hp6 := hid hp6
        replace hp7 := hid hp7
        clear hb0' htA' zA' z0' hw1
        go_wp2_with fail
        refine hGU.out.mono ?_
        rintro e w2 (⟨w3, hQ, rfl, kF⟩ | ⟨w3, ⟨hR, hS⟩, rfl, kK⟩)
        · have hneq := fun (Av : Option Addr) (nv cv : Nat) W => Go.run_neq_slice_nil_any (P := Tryz.prog) W 30 3 Av nv cv 0 0 Tryz.underlying30
          obtain ⟨k3, hQ⟩ := hQ
          have kend : Kp w w2 := kF.kp_of (k3.kp_of kwg hPX.out) (fun q e => by rw [e]; exact z9.out)
          have BA2 := (BAg.fx k3 hlAg hnA.1).fx kF (Nat.lt_of_lt_of_le hlAg k3.size) hnA.2
          have hc62 := kF.cellS (k3.cellS hc6 (fun e => by rcases e with e | e; exact hnn.1 e; exact hnn.2.1 e)) hnn.2.2.1
          have kF' : Fx (fun q => q < wg.heap.size) w3 w2 := kF.mono fun q _ e => by
            have e : q = w6.heap.size := e
            show q < wg.heap.size
            rw [e]
            exact hlg
          obtain ⟨F, hF⟩ : ∃ F, Hid (rootF s b = F) := ⟨_, hid rfl⟩
          rw [hF.out] at hQ
          cases F with
          | out => exact absurd hQ (fun h => h)
          | sol vs i d =>
            obtain ⟨hd, ⟨x4, hWk⟩, g, cp, B7, hgw, hOw⟩ := hQ
            have hX : PR = (⟨0, i, vs, zTr, d⟩, 0) := hPR.out.symm.trans (findR_sol hV.out hbb.out (by rw [Int.toNat_natCast]; exact hF.out))
            have B72 := B7.fx kF (B7.lt (by simp)) hnn.2.2.2.2
            have hWk2 := hWk.fx kF (hWk.lt (by simp)) hnn.2.2.2.1
            have hI := hOw w2 kF'
            have u0 := B72.cell (j := 0) rfl
            have u1 := B72.cell (j := 1) rfl
            have u6 := hWk2.cell (j := 6) rfl
            subst hX
            have hneq1 : ∀ W, (binOp BinOp.neq 30 (.slice (some ⟨g, 0, none⟩) vs.length cp) (.slice none 0 0)).run Tryz.prog W = .ok (.bool true) W := fun W => hneq (some ⟨g, 0, none⟩) vs.length cp W
            clear hneq hF
            obtain ⟨vl, hvl⟩ : ∃ vl, Hid (vl = vs.length) := ⟨_, hid rfl⟩
            rw [← hvl.out] at u0 hI hneq1
            go_wp2_with fail
            have kd : Kp w2 w2.drew := (Kp.refl w2).drew
            refine wp_region_held_drew (S := fun W => W.cell? ⟨p7, 0, none⟩ = some (.slice (some ⟨g, 0, none⟩) vl cp) ∧ W.cell? ⟨p7, 1, none⟩ = some (.int .i64 (i : Int)) ∧ W.cell? ⟨p6, 0, none⟩ = some (.pointer (some ⟨bw, 0, none⟩)) ∧ W.cell? ⟨bw, 6, none⟩ = some (.int .i64 (d : Int))) (by kernel_rfl) ⟨kd.cellS u0, kd.cellS u1, kd.cellS hc62, kd.cellS u6⟩ (fun hHeld => ?_)
            refine take_at 0 35 (v := ?_) rfl rfl (by kernel_rfl) (by kernel_rfl) (by kernel_rfl) (fun _ _ _ h => h) hHeld (Or.inl ⟨by kernel_rfl, ?_⟩) ?_
            rotate_left
            · intro w hSw; (try dsimp only at hSw); go_simp; try with_reducible rfl
            simp only [Act.put, List.setIfInBounds_toArray, List.set_cons_zero, List.set_cons_succ]
            refine take_at 1 36 (v := ?_) rfl rfl (by kernel_rfl) (by kernel_rfl) (by kernel_rfl) (fun _ _ _ h => h) hHeld (Or.inl ⟨by kernel_rfl, ?_⟩) ?_
            rotate_left
            · intro w hSw; (try dsimp only at hSw); go_simp; try with_reducible rfl
            simp only [Act.put, List.setIfInBounds_toArray, List.set_cons_zero, List.set_cons_succ]
            refine take_at 2 37 (v := ?_) rfl rfl (by kernel_rfl) (by kernel_rfl) (by kernel_rfl) (fun _ _ _ h => h) hHeld (Or.inl ⟨by kernel_rfl, ?_⟩) ?_
            rotate_left
            · intro w hSw; (try dsimp only at hSw); go_simp; try with_reducible rfl
            simp only [Act.put, List.setIfInBounds_toArray, List.set_cons_zero, List.set_cons_succ]
            refine take_at 3 38 (v := ?_) rfl rfl (by kernel_rfl) (by kernel_rfl) (by kernel_rfl) (fun _ _ _ h => h) hHeld (Or.inl ⟨by kernel_rfl, ?_⟩) ?_
            rotate_left
            · intro w hSw; (try dsimp only at hSw); go_simp; try with_reducible rfl
            simp only [Act.put, List.setIfInBounds_toArray, List.set_cons_zero, List.set_cons_succ]
            refine take_at 4 39 (v := ?_) rfl rfl (by kernel_rfl) (by kernel_rfl) (by kernel_rfl) (fun _ _ _ h => h) hHeld (Or.inl ⟨by kernel_rfl, ?_⟩) ?_
            rotate_left
            · intro w hSw; (try dsimp only at hSw); go_simp; try with_reducible rfl
            simp only [Act.put, List.setIfInBounds_toArray, List.set_cons_zero, List.set_cons_succ]
            refine take_at 5 40 (v := ?_) rfl rfl (by kernel_rfl) (by kernel_rfl) (by kernel_rfl) (fun _ _ _ h => h) hHeld (Or.inl ⟨by kernel_rfl, ?_⟩) ?_
            rotate_left
            · intro w hSw; (try dsimp only at hSw); go_simp; try with_reducible rfl
            simp only [Act.put, List.setIfInBounds_toArray, List.set_cons_zero, List.set_cons_succ]
            refine take_at 6 41 (v := ?_) rfl rfl (by kernel_rfl) (by kernel_rfl) (by kernel_rfl) (fun _ _ _ h => h) hHeld (Or.inl ⟨by kernel_rfl, ?_⟩) ?_
            rotate_left
            · intro w hSw; (try dsimp only at hSw); go_simp; try with_reducible rfl
            simp only [Act.put, List.setIfInBounds_toArray, List.set_cons_zero, List.set_cons_succ]
            refine take_at 7 42 (v := ?_) rfl rfl (by kernel_rfl) (by kernel_rfl) (by kernel_rfl) (fun _ _ _ h => h) hHeld (Or.inl ⟨by kernel_rfl, ?_⟩) ?_
            rotate_left
            · intro w hSw; (try dsimp only at hSw); go_simp; try with_reducible rfl
            simp only [Act.put, List.setIfInBounds_toArray, List.set_cons_zero, List.set_cons_succ]
            refine take_at 8 43 (v := ?_) rfl rfl (by kernel_rfl) (by kernel_rfl) (by kernel_rfl) (fun _ _ _ h => h) hHeld (Or.inl ⟨by kernel_rfl, ?_⟩) ?_
            rotate_left
            · intro w hSw; (try dsimp only at hSw); go_simp; try with_reducible rfl
            simp only [Act.put, List.setIfInBounds_toArray, List.set_cons_zero, List.set_cons_succ]
            have BAd := BA2.kp kd (BA2.lt (by simp))
            have kwd := kend.trans kd
            have kd' := kd
            have hId := hI.keep (pl_stable _) kd
            clear u0 u1 u6 hc62
            generalize w2.drew = w4' at *
            have y0 := (BAd).cell (j := 0) rfl
            have y1 := (BAd).cell (j := 1) rfl
            have y2 := (BAd).cell (j := 2) rfl
            have y3 := (BAd).cell (j := 3) rfl
            have y4 := (BAd).cell (j := 4) rfl
            have y5 := (BAd).cell (j := 5) rfl
            have y6 := (BAd).cell (j := 6) rfl
            have y7 := (BAd).cell (j := 7) rfl
            have y8 := (BAd).cell (j := 8) rfl
            have f0 := (BAd).free (j := 0) (by simp)
            have f1 := (BAd).free (j := 1) (by simp)
            have f2 := (BAd).free (j := 2) (by simp)
            have f3 := (BAd).free (j := 3) (by simp)
            have f4 := (BAd).free (j := 4) (by simp)
            have f5 := (BAd).free (j := 5) (by simp)
            have f6 := (BAd).free (j := 6) (by simp)
            have f7 := (BAd).free (j := 7) (by simp)
            have f8 := (BAd).free (j := 8) (by simp)
            refine wpAnyH_ready (rs := [9]) (by kernel_rfl) (by simp) ?_
            refine AllReadyH.cons (o := _) rfl (fun K hK => ?_) AllReadyH.nil
            go_simp
            go_simp
            have BE := BAd.all (cs := [.int .i64 0, .int .i64 (i : Int), .slice (some ⟨g, 0, none⟩) vl cp, .int .i64 0, .slice none 0 0, .int .i64 0, .int .i64 0, .slice none 0 0, .int .i64 (d : Int)]) rfl
            change K _ (w4'.setCells tA 0 [.int .i64 0, .int .i64 (i : Int), .slice (some ⟨g, 0, none⟩) vl cp, .int .i64 0, .slice none 0 0, .int .i64 0, .int .i64 0, .slice none 0 0, .int .i64 (d : Int)])
            have kS : Fx (fun q => q = tA) w4' (w4'.setCells tA 0 [.int .i64 0, .int .i64 (i : Int), .slice (some ⟨g, 0, none⟩) vl cp, .int .i64 0, .slice none 0 0, .int .i64 0, .int .i64 0, .slice none 0 0, .int .i64 (d : Int)]) := setsFx tA 0 _ _ (Fx.refl _ _) (.inl rfl)
            have kE := kS.kp_of kwd (fun q e => by rw [e]; exact hwA.out)
            generalize w4'.setCells tA 0 [.int .i64 0, .int .i64 (i : Int), .slice (some ⟨g, 0, none⟩) vl cp, .int .i64 0, .slice none 0 0, .int .i64 0, .int .i64 0, .slice none 0 0, .int .i64 (d : Int)] = wE at *
            have hnA7 : p7 ≠ tA := fun e => hnA.1 (.inr e.symm)
            have hnAw : bw ≠ tA := fun e => hnA.1 (.inl e.symm)
            clear y0 y1 y2 y3 y4 y5 y6 y7 y8 f0 f1 f2 f3 f4 f5 f6 f7 f8
            refine hK.out _ _ (⟨kS.cellS hHeld.1 hnA7, kS.cellS hHeld.2.1 hnA7, kS.cellS hHeld.2.2.1 hnA6, kS.cellS hHeld.2.2.2 hnAw⟩) (fun hHeld2 => ?_)
            clear hK K hHeld
            have hHeld := hHeld2
            clear hHeld2
            try simp only [Act.put, List.setIfInBounds_toArray, List.set_cons_zero, List.set_cons_succ]
            refine take_at 10 5 (v := ?_) rfl rfl (by kernel_rfl) (by kernel_rfl) (by kernel_rfl) (fun _ _ _ h => h) hHeld (Or.inl ⟨by kernel_rfl, ?_⟩) ?_
            rotate_left
            · intro w hSw; (try dsimp only at hSw); go_simp; try with_reducible rfl
            simp only [Act.put, List.setIfInBounds_toArray, List.set_cons_zero, List.set_cons_succ]
            refine wpAnyH_done (by kernel_rfl) ?_ _
            go_wp2
            try simp only [Exit.inBlock, Exit.then]
            refine bodyPost_ret (results_cell_bx2 rfl _ wE tA [.int .i64 0, .int .i64 (i : Int), .slice (some ⟨g, 0, none⟩) vl cp, .int .i64 0, .slice none 0 0, .int .i64 0, .int .i64 0, .slice none 0 0, .int .i64 (d : Int)] _ rfl BE.range Tryz.underlying36 rfl (by kernel_rfl)) rfl ?_
            refine ⟨_, rfl, ⟨_, _, _, _, _, _, rfl, ?_, rdTr_z _ _ _ (Sl.nil _ _ _)⟩, kE⟩
            have hg' : ∀ q, (Value.slice (some ⟨g, 0, none⟩) vl cp).ownBlock = some q → q ≠ tA := fun q hq => by
              have : g = q := by simpa [Value.ownBlock] using hq
              omega
            have hIE := hOw wE ((kF'.trans (kd'.fx _)).trans (kS.mono fun q _ e => by
              have e : q = tA := e
              show q < wg.heap.size
              omega))
            rw [← hvl.out] at hIE
            exact hIE
          | ref t d =>
            obtain ⟨hd, ⟨x4, hWk⟩, q0, q2, q3, A1, A4, n1, c1, n4, c4, B7, hTw⟩ := hQ
            have hX : PR = (⟨1, 0, [], t, d⟩, 0) := hPR.out.symm.trans (findR_ref hV.out hbb.out (by rw [Int.toNat_natCast]; exact hF.out))
            have B72 := B7.fx kF (B7.lt (by simp)) hnn.2.2.2.2
            have hWk2 := hWk.fx kF (hWk.lt (by simp)) hnn.2.2.2.1
            have u0 := B72.cell (j := 0) rfl
            have u2 := B72.cell (j := 2) rfl
            have u3 := B72.cell (j := 3) rfl
            have u4 := B72.cell (j := 4) rfl
            have u5 := B72.cell (j := 5) rfl
            have u6' := B72.cell (j := 6) rfl
            have u6 := hWk2.cell (j := 6) rfl
            subst hX
            have hneq1 : ∀ W, (binOp BinOp.neq 30 (.slice none 0 0) (.slice none 0 0)).run Tryz.prog W = .ok (.bool false) W := fun W => hneq none 0 0 W
            clear hneq hF
            go_wp2_with fail
            have kd : Kp w2 w2.drew := (Kp.refl w2).drew
            refine wp_region_held_drew (S := fun W => (W.cell? ⟨p7, 2, none⟩ = some (.int .i64 q0) ∧ W.cell? ⟨p7, 3, none⟩ = some (.slice A1 n1 c1) ∧ W.cell? ⟨p7, 4, none⟩ = some (.int .i64 q2) ∧ W.cell? ⟨p7, 5, none⟩ = some (.int .i64 q3) ∧ W.cell? ⟨p7, 6, none⟩ = some (.slice A4 n4 c4)) ∧ W.cell? ⟨p6, 0, none⟩ = some (.pointer (some ⟨bw, 0, none⟩)) ∧ W.cell? ⟨bw, 6, none⟩ = some (.int .i64 (d : Int))) (by kernel_rfl) ⟨⟨kd.cellS u2, kd.cellS u3, kd.cellS u4, kd.cellS u5, kd.cellS u6'⟩, kd.cellS hc62, kd.cellS u6⟩ (fun hHeld => ?_)
            refine take_at 0 44 (v := ?_) rfl rfl (by kernel_rfl) (by kernel_rfl) (by kernel_rfl) (fun _ _ _ h => h) hHeld (Or.inl ⟨by kernel_rfl, ?_⟩) ?_
            rotate_left
            · intro w hSw; (try dsimp only at hSw); go_simp; try with_reducible rfl
            simp only [Act.put, List.setIfInBounds_toArray, List.set_cons_zero, List.set_cons_succ]
            refine take_at 1 45 (v := ?_) rfl rfl (by kernel_rfl) (by kernel_rfl) (by kernel_rfl) (fun _ _ _ h => h) hHeld (Or.inl ⟨by kernel_rfl, ?_⟩) ?_
            rotate_left
            · intro w hSw; (try dsimp only at hSw); go_simp; try with_reducible rfl
            simp only [Act.put, List.setIfInBounds_toArray, List.set_cons_zero, List.set_cons_succ]
            refine take_at 2 46 (v := ?_) rfl rfl (by kernel_rfl) (by kernel_rfl) (by kernel_rfl) (fun _ _ _ h => h) hHeld (Or.inl ⟨by kernel_rfl, ?_⟩) ?_
            rotate_left
            · intro w hSw; (try dsimp only at hSw); go_simp; try with_reducible rfl
            simp only [Act.put, List.setIfInBounds_toArray, List.set_cons_zero, List.set_cons_succ]
            refine take_at 3 47 (v := ?_) rfl rfl (by kernel_rfl) (by kernel_rfl) (by kernel_rfl) (fun _ _ _ h => h) hHeld (Or.inl ⟨by kernel_rfl, ?_⟩) ?_
            rotate_left
            · intro w hSw; (try dsimp only at hSw); go_simp; try with_reducible rfl
            simp only [Act.put, List.setIfInBounds_toArray, List.set_cons_zero, List.set_cons_succ]
            refine take_at 4 48 (v := ?_) rfl rfl (by kernel_rfl) (by kernel_rfl) (by kernel_rfl) (fun _ _ _ h => h) hHeld (Or.inl ⟨by kernel_rfl, ?_⟩) ?_
            rotate_left
            · intro w hSw; (try dsimp only at hSw); go_simp; try with_reducible rfl
            simp only [Act.put, List.setIfInBounds_toArray, List.set_cons_zero, List.set_cons_succ]
            refine take_at 5 49 (v := ?_) rfl rfl (by kernel_rfl) (by kernel_rfl) (by kernel_rfl) (fun _ _ _ h => h) hHeld (Or.inl ⟨by kernel_rfl, ?_⟩) ?_
            rotate_left
            · intro w hSw; (try dsimp only at hSw); go_simp; try with_reducible rfl
            simp only [Act.put, List.setIfInBounds_toArray, List.set_cons_zero, List.set_cons_succ]
            refine take_at 6 50 (v := ?_) rfl rfl (by kernel_rfl) (by kernel_rfl) (by kernel_rfl) (fun _ _ _ h => h) hHeld (Or.inl ⟨by kernel_rfl, ?_⟩) ?_
            rotate_left
            · intro w hSw; (try dsimp only at hSw); go_simp; try with_reducible rfl
            simp only [Act.put, List.setIfInBounds_toArray, List.set_cons_zero, List.set_cons_succ]
            have BAd := BA2.kp kd (BA2.lt (by simp))
            have kwd := kend.trans kd
            have kd' := kd
            clear u0 u2 u3 u4 u5 u6' u6 hc62
            generalize w2.drew = w4' at *
            have y0 := (BAd).cell (j := 0) rfl
            have y1 := (BAd).cell (j := 1) rfl
            have y2 := (BAd).cell (j := 2) rfl
            have y3 := (BAd).cell (j := 3) rfl
            have y4 := (BAd).cell (j := 4) rfl
            have y5 := (BAd).cell (j := 5) rfl
            have y6 := (BAd).cell (j := 6) rfl
            have y7 := (BAd).cell (j := 7) rfl
            have y8 := (BAd).cell (j := 8) rfl
            have f0 := (BAd).free (j := 0) (by simp)
            have f1 := (BAd).free (j := 1) (by simp)
            have f2 := (BAd).free (j := 2) (by simp)
            have f3 := (BAd).free (j := 3) (by simp)
            have f4 := (BAd).free (j := 4) (by simp)
            have f5 := (BAd).free (j := 5) (by simp)
            have f6 := (BAd).free (j := 6) (by simp)
            have f7 := (BAd).free (j := 7) (by simp)
            have f8 := (BAd).free (j := 8) (by simp)
            refine wpAnyH_ready (rs := [7]) (by kernel_rfl) (by simp) ?_
            refine AllReadyH.cons (o := _) rfl (fun K hK => ?_) AllReadyH.nil
            go_simp
            go_simp
            have BE := BAd.all (cs := [.int .i64 1, .int .i64 0, .slice none 0 0, .int .i64 q0, .slice A1 n1 c1, .int .i64 q2, .int .i64 q3, .slice A4 n4 c4, .int .i64 (d : Int)]) rfl
            change K _ (w4'.setCells tA 0 [.int .i64 1, .int .i64 0, .slice none 0 0, .int .i64 q0, .slice A1 n1 c1, .int .i64 q2, .int .i64 q3, .slice A4 n4 c4, .int .i64 (d : Int)])
            have kS : Fx (fun q => q = tA) w4' (w4'.setCells tA 0 [.int .i64 1, .int .i64 0, .slice none 0 0, .int .i64 q0, .slice A1 n1 c1, .int .i64 q2, .int .i64 q3, .slice A4 n4 c4, .int .i64 (d : Int)]) := setsFx tA 0 _ _ (Fx.refl _ _) (.inl rfl)
            have kE := kS.kp_of kwd (fun q e => by rw [e]; exact hwA.out)
            generalize w4'.setCells tA 0 [.int .i64 1, .int .i64 0, .slice none 0 0, .int .i64 q0, .slice A1 n1 c1, .int .i64 q2, .int .i64 q3, .slice A4 n4 c4, .int .i64 (d : Int)] = wE at *
            have hnA7 : p7 ≠ tA := fun e => hnA.1 (.inr e.symm)
            have hnAw : bw ≠ tA := fun e => hnA.1 (.inl e.symm)
            clear y0 y1 y2 y3 y4 y5 y6 y7 y8 f0 f1 f2 f3 f4 f5 f6 f7 f8
            refine hK.out _ _ (⟨⟨kS.cellS hHeld.1.1 hnA7, kS.cellS hHeld.1.2.1 hnA7, kS.cellS hHeld.1.2.2.1 hnA7, kS.cellS hHeld.1.2.2.2.1 hnA7, kS.cellS hHeld.1.2.2.2.2 hnA7⟩, kS.cellS hHeld.2.1 hnA6, kS.cellS hHeld.2.2 hnAw⟩) (fun hHeld2 => ?_)
            clear hK K hHeld
            have hHeld := hHeld2
            clear hHeld2
            try simp only [Act.put, List.setIfInBounds_toArray, List.set_cons_zero, List.set_cons_succ]
            refine take_at 8 5 (v := ?_) rfl rfl (by kernel_rfl) (by kernel_rfl) (by kernel_rfl) (fun _ _ _ h => h) hHeld (Or.inl ⟨by kernel_rfl, ?_⟩) ?_
            rotate_left
            · intro w hSw; (try dsimp only at hSw); go_simp; try with_reducible rfl
            simp only [Act.put, List.setIfInBounds_toArray, List.set_cons_zero, List.set_cons_succ]
            refine wpAnyH_done (by kernel_rfl) ?_ _
            go_wp2
            try simp only [Exit.inBlock, Exit.then]
            refine bodyPost_ret (results_cell_bx2 rfl _ wE tA [.int .i64 1, .int .i64 0, .slice none 0 0, .int .i64 q0, .slice A1 n1 c1, .int .i64 q2, .int .i64 q3, .slice A4 n4 c4, .int .i64 (d : Int)] _ rfl BE.range Tryz.underlying36 rfl (by kernel_rfl)) rfl ?_
            refine ⟨_, rfl, ⟨_, _, _, _, _, _, rfl, Sl.nil _ _ _, ?_⟩, kE⟩
            exact rdTr_le (by omega) (hTw wE ((kF'.trans (kd'.fx _)).trans (kS.mono fun q _ e => by
              have e : q = tA := e
              show q < wg.heap.size
              omega)))
        · have hX : PR = (⟨2, 0, [], zTr, (b : Int)⟩, 0) := hPR.out.symm.trans (findR_out hV.out hbb.out (by rw [Int.toNat_natCast]; exact hR))
          subst hX
          have kend := (hS.kp_of kwg hPX.out).trans kK
          have BA2 := (BAg.fx hS hlAg hnA.1).kp kK (Nat.lt_of_lt_of_le hlAg hS.size)
          clear hR
          have y0 := (BA2).cell (j := 0) rfl
          have y1 := (BA2).cell (j := 1) rfl
          have y2 := (BA2).cell (j := 2) rfl
          have y3 := (BA2).cell (j := 3) rfl
          have y4 := (BA2).cell (j := 4) rfl
          have y5 := (BA2).cell (j := 5) rfl
          have y6 := (BA2).cell (j := 6) rfl
          have y7 := (BA2).cell (j := 7) rfl
          have y8 := (BA2).cell (j := 8) rfl
          have f0 := (BA2).free (j := 0) (by simp)
          have f1 := (BA2).free (j := 1) (by simp)
          have f2 := (BA2).free (j := 2) (by simp)
          have f3 := (BA2).free (j := 3) (by simp)
          have f4 := (BA2).free (j := 4) (by simp)
          have f5 := (BA2).free (j := 5) (by simp)
          have f6 := (BA2).free (j := 6) (by simp)
          have f7 := (BA2).free (j := 7) (by simp)
          have f8 := (BA2).free (j := 8) (by simp)
          go_wp2
          try simp only [Exit.inBlock, Exit.then]
          have BE := (BA2).all (cs := [.int .i64 2, .int .i64 0, .slice none 0 0, .int .i64 0, .slice none 0 0, .int .i64 0, .int .i64 0, .slice none 0 0, .int .i64 (b : Int)]) rfl
          change bodyPost _ _ _ _ _ (w2.setCells tA 0 [.int .i64 2, .int .i64 0, .slice none 0 0, .int .i64 0, .slice none 0 0, .int .i64 0, .int .i64 0, .slice none 0 0, .int .i64 (b : Int)])
          refine bodyPost_ret (results_cell_bx2 rfl _ (w2.setCells tA 0 [.int .i64 2, .int .i64 0, .slice none 0 0, .int .i64 0, .slice none 0 0, .int .i64 0, .int .i64 0, .slice none 0 0, .int .i64 (b : Int)]) tA [.int .i64 2, .int .i64 0, .slice none 0 0, .int .i64 0, .slice none 0 0, .int .i64 0, .int .i64 0, .slice none 0 0, .int .i64 (b : Int)] _ rfl BE.range Tryz.underlying36 rfl (by kernel_rfl)) rfl ?_
          have kS : Fx (fun q => q = tA) w2 (w2.setCells tA 0 [.int .i64 2, .int .i64 0, .slice none 0 0, .int .i64 0, .slice none 0 0, .int .i64 0, .int .i64 0, .slice none 0 0, .int .i64 (b : Int)]) := setsFx tA 0 _ _ (Fx.refl _ _) (.inl rfl)
          have kE := kS.kp_of kend (fun q e => by rw [e]; exact hwA.out)
          refine ⟨_, rfl, ⟨_, _, _, _, _, _, rfl, Sl.nil _ _ _, rdTr_z _ _ _ (Sl.nil _ _ _)⟩, kE⟩
end Go.Proofs.YtlbhidiliogflaaGreat
