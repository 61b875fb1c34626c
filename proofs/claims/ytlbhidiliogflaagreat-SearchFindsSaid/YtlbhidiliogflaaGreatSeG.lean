
/-
Search: Propagate: the walk.
-/
import Derived.Test.YtlbhidiliogflaaGreatSeF
import Derived.Test.YtlbhidiliogflaaGreatSG
namespace Go.Proofs.YtlbhidiliogflaaGreat
set_option linter.unusedSimpArgs false
set_option linter.unusedVariables false
open Go.RowKit

theorem prop1_real : Real Tryz.prog 29 := ⟨_, Tryz.func29, by kernel_rfl, by kernel_rfl⟩
/-- what the propagation may change -/
def P1X (bw p12 p13 : Nat) (vb : Value) (q : Nat) : Prop := q = bw ∨ vb.ownBlock = some q ∨ q = p12 ∨ q = p13
set_option maxRecDepth 8000 in
set_option maxHeartbeats 4000000 in
theorem prop1_any (p10 p11 p12 p13 bw : Nat) (x0 x1 x3 : Value) (Ag Ar : Option Addr) (cg cr : Nat) (rows : List Row) (grs : List Gr) (n b : Nat) (vb : Value) (box : List Rng) (X : Nat → Prop) (css : List (Elm 2)) (csg : List (Elm 3)) (w : World)
    (hW : Bx w bw [x0, x1, .slice Ag grs.length cg, x3, .slice Ar rows.length cr, .int .i64 (b : Int), .int .i64 ((0 : Nat) : Int)]) (hO : Own encRng 57 2 0 w vb box)
    (h10 : Bx w p10 [.pointer (some ⟨bw, 0, none⟩)]) (h11 : Bx w p11 [vb]) (h12 : Bx w p12 [.slice none 0 0]) (h13 : Bx w p13 [.bool false])
    (hnd : bw ≠ p12 ∧ bw ≠ p13 ∧ p12 ≠ p13) (hnq : ∀ q, vb.ownBlock = some q → q ≠ bw ∧ q ≠ p12 ∧ q ≠ p13) (hXw : X bw) (hXb : ∀ q, vb.ownBlock = some q → X q)
    (hD : OwF X w (PData css csg (.slice Ar rows.length cr) (.slice Ag grs.length cg) rows grs))
    (hb : b ≤ 65536) (hf : fineBox n box) (hn : n ≤ 128) (hr : ∀ r ∈ rows, fitsB n r = true) (hg : ∀ g ∈ grs, grOk n g = true) :
    Calls Tryz.prog 29 #[.pointer (some ⟨p10, 0, none⟩), .pointer (some ⟨p11, 0, none⟩), .pointer (some ⟨p12, 0, none⟩), .pointer (some ⟨p13, 0, none⟩)] w fun e w' =>
      (e = .returned (.tuple #[]) ∧ (runB b rows grs box).fine = true ∧ Fx (P1X bw p12 p13 vb) w w' ∧ ∃ vs bx, Bx w' p12 [vs] ∧ Bx w' p13 [.bool (!(runB b rows grs box).opn)] ∧ Own encStp 54 3 0 w' vs (runB b rows grs box).steps ∧ Own encRng 57 2 0 w' vb bx ∧ ((runB b rows grs box).opn = true → bx = (runB b rows grs box).box) ∧ ∀ q, vs.ownBlock = some q → w.heap.size ≤ q) ∨
      (e = .panicked Pn ∧ (runB b rows grs box).fine = false ∧ Fx (P1X bw p12 p13 vb) w w') := by
  have hPR := hid (propagate_any bw x0 x1 x3 Ag Ar cg cr rows grs n b 0 vb box X css csg w hW hO (fun q hq => (hnq q hq).1) hXw hXb hD (Nat.zero_le _) hb hf hn hr hg)
  rw [Nat.sub_zero] at hPR
  generalize runB b rows grs box = F at *
  have c10 := h10.cell (j := 0) rfl
  have c11 := h11.cell (j := 0) rfl
  have l12 := h12.lt (by simp)
  have l13 := h13.lt (by simp)
  obtain ⟨Ab, nb, cb, rfl⟩ := hO.isSl
  go_enter Tryz.func29, Tryz.ntmps29
  go_wp2_with fail
  refine hPR.out.mono ?_
  rintro e w5 (⟨h1, rfl, k5⟩ | ⟨h1, vs, bx, rfl, hE⟩)
  · go_wp2
    exact ⟨rfl, .inr ⟨rfl, h1, k5.mono fun q _ e => by
      rcases e with e | e
      · exact .inl e
      · exact .inr (.inl e)⟩⟩
  · obtain ⟨As, ns, cs, rfl⟩ := hE.stp.isSl
    have hne12 : ¬ PW bw (.slice Ab nb cb) p12 := fun e => by
      rcases e with e | e
      · exact hnd.1 e.symm
      · exact (hnq p12 e).2.1 rfl
    have hne13 : ¬ PW bw (.slice Ab nb cb) p13 := fun e => by
      rcases e with e | e
      · exact hnd.2.1 e.symm
      · exact (hnq p13 e).2.2 rfl
    have B12 := h12.fx hE.fx l12 hne12
    have B13 := h13.fx hE.fx l13 hne13
    have f12 := B12.free (j := 0) (by simp)
    have f13 := B13.free (j := 0) (by simp)
    have d12 := B12.cell (j := 0) rfl
    have d13 := B13.cell (j := 0) rfl
    have k6 : Fx (P1X bw p12 p13 (.slice Ab nb cb)) w ((w5.setCell ⟨p12, 0, none⟩ (.slice As ns cs)).setCell ⟨p13, 0, none⟩ (.bool (!F.opn))) :=
      ((hE.fx.mono fun q _ e => by
        rcases e with e | e
        · exact .inl e
        · exact .inr (.inl e)).set1 ⟨p12, 0, none⟩ _ (.inl (.inr (.inr (.inl rfl))))).set1 ⟨p13, 0, none⟩ _ (.inl (.inr (.inr (.inr rfl))))
    have k2 : Fx (fun q => q = p12 ∨ q = p13) w5 ((w5.setCell ⟨p12, 0, none⟩ (.slice As ns cs)).setCell ⟨p13, 0, none⟩ (.bool (!F.opn))) :=
      ((Fx.refl (fun q => q = p12 ∨ q = p13) w5).set1 ⟨p12, 0, none⟩ _ (.inl (.inl rfl))).set1 ⟨p13, 0, none⟩ _ (.inl (.inr rfl))
    have E12 := (B12.set (j := 0) (by simp) (.slice As ns cs)).keep (set_block _ ⟨p13, 0, none⟩ (.bool (!F.opn)) p12 hnd.2.2)
    have E13 := (B13.keep (set_block _ ⟨p12, 0, none⟩ (.slice As ns cs) p13 (Ne.symm hnd.2.2))).set (j := 0) (by simp) (.bool (!F.opn))
    have hs9 := hE.stp.fx k2 (fun q hq e => by
      have := hE.blk q hq
      rcases e with e | e <;> omega)
    have ho9 := hE.own.fx k2 (fun q hq e => by
      rcases e with e | e
      · exact (hnq q hq).2.1 e
      · exact (hnq q hq).2.2 e)
    have hop := hid fun h => (hE.opn h).1
    have hbk := hid hE.blk
    clear hne12 hne13 B12 B13 hE
    go_wp2
    go_end0
    exact .inl ⟨rfl, h1, k6, _, _, E12, E13, hs9, ho9, hop.out, hbk.out⟩
theorem results_tmp4 {fn : Func} {t u v x : Tmp} (h : fn.results = #[.tmp t, .tmp u, .tmp v, .tmp x]) (tmps : Array Value) (P : Program) (w : World) :
    (results fn tmps).run P w = .ok (.tuple #[tmps.getD t undef, tmps.getD u undef, tmps.getD v undef, tmps.getD x undef]) w := by
  simp [results, h]
theorem rdRow_one {w : World} : ∀ cs x, rdRow w cs x → ∀ u ∈ cs, u.oneCell' = true := by
  rintro cs x ⟨v, rfl, h⟩ u hu
  obtain ⟨A, c, rfl, -⟩ := h.form
  simp only [List.mem_cons, List.not_mem_nil, or_false] at hu
  rcases hu with rfl | rfl <;> rfl
theorem rdGr_one {w : World} : ∀ cs x, rdGr w cs x → ∀ u ∈ cs, u.oneCell' = true := by
  rintro cs x ⟨v, rfl, h⟩ u hu
  obtain ⟨A, c, rfl, -⟩ := h.form
  simp only [List.mem_cons, List.not_mem_nil, or_false] at hu
  rcases hu with rfl | rfl | rfl <;> rfl
/-- the rows and graphs of a valid system -/
theorem sys_parts {s : Sys} (h : validS s = true) : s.box.length ≤ 128 ∧ (∀ r ∈ s.rows, fitsB s.box.length r = true) ∧ (∀ g ∈ s.graphs, grOk s.box.length g = true) ∧ fineBox s.box.length s.box ∧ ∀ l ∈ s.cases, ∀ r ∈ l, fitsB s.box.length r = true := by
  obtain ⟨h1, h2, ⟨h3, h4⟩, h5, h6, h7, h8⟩ := validS_parts h
  obtain ⟨a1, a2⟩ := boxB_all h1
  exact ⟨a2, (validB_ok h4).2.2, h7, ⟨rfl, a1, fun r hr => by
    have := List.any_eq_false.1 h2 r hr
    unfold emptyR at this
    simpa using this⟩, fun l hl r hr => (validB_ok (h8 l hl).2).2.2 r hr⟩
set_option maxRecDepth 8000 in
set_option maxHeartbeats 8000000 in
theorem Propagate_any (va vb : Value) (s : Sys) (box : List Rng) (bud : Int) (w : World) (hs : SysV w va s) (hbx : Rngs w vb box) :
    Calls Tryz.prog 10 #[va, vb, .int .i64 bud] w fun e w' => ∃ v1 v2, e = .returned (.tuple #[v1, v2, .bool (propR s box bud).2.2.1, .int .i64 (propR s box bud).2.2.2]) ∧ Stps w' v1 (propR s box bud).1 ∧ Rngs w' v2 (propR s box bud).2.1 ∧ Kp w w' := by
  have hs' := hs
  obtain ⟨Ab, cb, Ar, cr, Ag, cg, Ac, cc, rfl, hb, hr, hg, hc⟩ := hs'
  obtain ⟨l1, m1⟩ := hb.caps
  obtain ⟨l2, m2⟩ := hr.caps
  obtain ⟨l3, m3⟩ := hg.caps
  obtain ⟨l4, m4⟩ := hc.caps
  obtain ⟨A, c, rfl, hbc, hbm⟩ := hbx.form
  have HP : ∀ r, propR s box bud = r → _ := fun r h => h
  have hPR : Hid (propR s box bud = if validS s = true ∧ box.length = s.box.length ∧ boxB box = true ∧ box.any emptyR = false then
    if 0 ≤ bud ∧ bud ≤ 65536 then
      if (runB bud.toNat s.rows s.graphs box).fine = false then ([], [], false, 14)
      else if (runB bud.toNat s.rows s.graphs box).opn = false then ((runB bud.toNat s.rows s.graphs box).steps, [], false, 0)
      else ((runB bud.toNat s.rows s.graphs box).steps, (runB bud.toNat s.rows s.graphs box).box, true, 0)
    else ([], [], false, 2)
  else ([], [], false, 1)) := hid rfl
  generalize propR s box bud = PR at *
  clear HP
  have k0 := (Kp.refl w).alloc (.cells #[.slice Ab s.box.length cb, .slice Ar s.rows.length cr, .slice Ag s.graphs.length cg, .slice Ac s.cases.length cc] 27)
  have B0 := SysB.new w #[.slice Ab s.box.length cb, .slice Ar s.rows.length cr, .slice Ag s.graphs.length cg, .slice Ac s.cases.length cc] 27
  have z0 := alloc_lt w (.cells #[.slice Ab s.box.length cb, .slice Ar s.rows.length cr, .slice Ag s.graphs.length cg, .slice Ac s.cases.length cc] 27)
  go_enter Tryz.func10, Tryz.ntmps10
  go_wp2_with fail
  try rw [← World.size_alloc w (.cells #[.slice Ab s.box.length cb, .slice Ar s.rows.length cr, .slice Ag s.graphs.length cg, .slice Ac s.cases.length cc] 27)]
  generalize w.alloc (.cells #[.slice Ab s.box.length cb, .slice Ar s.rows.length cr, .slice Ag s.graphs.length cg, .slice Ac s.cases.length cc] 27) = w0 at *
  generalize w.heap.size = b0 at *
  refine (sValid_any _ s _ (hs.keep k0)).mono ?_
  rintro e w1 ⟨rfl, k1⟩
  replace B0 := B0.keep k1
  replace k1 := k0.trans k1
  obtain ⟨c0, c1, c2, c3⟩ := B0.cells
  have hgl := block_lt_of_cell c0
  cases hV : validS s with
  | false =>
    have hX : PR = ([], [], false, 1) := by rw [hPR.out, if_neg (by rw [hV]; simp)]
    subst hX
    clear hV
    go_wp2
    try simp only [Exit.inBlock, Exit.then]
    refine bodyPost_ret (results_tmp4 rfl _ _ _) rfl ?_
    exact ⟨_, _, rfl, Sl.nil _ _ _, Sl.nil _ _ _, k1⟩
  | true =>
    replace hV := hid hV
    go_wp2_with fail
    refine (Valid_any _ _ box [] _ (hbx.keep (pl_stable _) k1) (Sl.nil _ _ _)).mono ?_
    rintro e w2 ⟨rfl, k2⟩
    replace B0 := B0.keep k2
    replace k2 := k1.trans k2
    clear c0 c1 c2 c3 hgl k1
    obtain ⟨c0, c1, c2, c3⟩ := B0.cells
    have hgl := block_lt_of_cell c0
    have hvb : validB box [] = boxB box := by simp [validB]
    rw [hvb]
    clear hvb
    cases hB : boxB box with
    | false =>
      have hX : PR = ([], [], false, 1) := by rw [hPR.out, if_neg (by rw [hB]; simp)]
      subst hX
      clear hB
      go_wp2
      try simp only [Exit.inBlock, Exit.then]
      refine bodyPost_ret (results_tmp4 rfl _ _ _) rfl ?_
      exact ⟨_, _, rfl, Sl.nil _ _ _, Sl.nil _ _ _, k2⟩
    | true =>
      replace hB := hid hB
      go_wp2_with fail
      refine (Empty_any _ box _ (hbx.keep (pl_stable _) k2)).mono ?_
      rintro e w3 ⟨rfl, k3⟩
      replace B0 := B0.keep k3
      replace k3 := k2.trans k3
      clear c0 c1 c2 c3 hgl k2
      obtain ⟨c0, c1, c2, c3⟩ := B0.cells
      have hgl := block_lt_of_cell c0
      cases hE : box.any emptyR with
      | true =>
        have hX : PR = ([], [], false, 1) := by rw [hPR.out, if_neg (by rw [hE]; simp)]
        subst hX
        clear hE
        go_wp2
        try simp only [Exit.inBlock, Exit.then]
        refine bodyPost_ret (results_tmp4 rfl _ _ _) rfl ?_
        exact ⟨_, _, rfl, Sl.nil _ _ _, Sl.nil _ _ _, k3⟩
      | false =>
        replace hE := hid hE
        by_cases hL : box.length = s.box.length
        · have e1 : ((box.length : Int) != (s.box.length : Int)) = false := by rw [hL]; simp
          replace hL := hid hL
          by_cases h1 : bud < 0
          · have e2 : decide (bud < 0) = true := decide_eq_true h1
            have hX : PR = ([], [], false, 2) := by rw [hPR.out, if_pos ⟨hV.out, hL.out, hB.out, hE.out⟩, if_neg (by omega)]
            subst hX
            go_wp2
            try simp only [Exit.inBlock, Exit.then]
            refine bodyPost_ret (results_tmp4 rfl _ _ _) rfl ?_
            exact ⟨_, _, rfl, Sl.nil _ _ _, Sl.nil _ _ _, k3⟩
          · have e2 : decide (bud < 0) = false := decide_eq_false h1
            by_cases h2 : 65536 < bud
            · have e3 : decide (65536 < bud) = true := decide_eq_true h2
              have hX : PR = ([], [], false, 2) := by rw [hPR.out, if_pos ⟨hV.out, hL.out, hB.out, hE.out⟩, if_neg (by omega)]
              subst hX
              go_wp2
              try simp only [Exit.inBlock, Exit.then]
              refine bodyPost_ret (results_tmp4 rfl _ _ _) rfl ?_
              exact ⟨_, _, rfl, Sl.nil _ _ _, Sl.nil _ _ _, k3⟩
            · have e3 : decide (65536 < bud) = false := decide_eq_false h2
              obtain ⟨b, rfl⟩ := Int.eq_ofNat_of_zero_le (show 0 ≤ bud by omega)
              have hb9 : b ≤ 65536 := by omega
              have hX : Hid (PR = if (runB b s.rows s.graphs box).fine = false then ([], [], false, 14)
                else if (runB b s.rows s.graphs box).opn = false then ((runB b s.rows s.graphs box).steps, [], false, 0)
                else ((runB b s.rows s.graphs box).steps, (runB b s.rows s.graphs box).box, true, 0)) := hid (by
                rw [hPR.out, if_pos ⟨hV.out, hL.out, hB.out, hE.out⟩, if_pos (by omega), Int.toNat_natCast])
              clear hPR
              obtain ⟨g1, g2, g3, g4, g5⟩ := sys_parts hV.out
              have hfb : fineBox s.box.length box := by
                obtain ⟨a1, a2⟩ := boxB_all hB.out
                exact ⟨hL.out, a1, fun r hr => by
                  have := List.any_eq_false.1 hE.out r hr
                  unfold emptyR at this
                  simpa using this⟩
              obtain ⟨css, hcss⟩ := RawL.of hr rdRow_stable rdRow_one
              obtain ⟨csg, hcsg⟩ := RawL.of hg rdGr_stable rdGr_one
              have hD0 : ∀ w', Kp w w' → PData css csg (.slice Ar s.rows.length cr) (.slice Ag s.graphs.length cg) s.rows s.graphs w' := fun w' k => ⟨hcss w' k, hcsg w' k⟩
              replace hcss := hid hD0
              clear hD0 hcsg hr hg hc hb hs l1 m1 l2 m2 l3 m3 l4 m4
              have k4 := k3.alloc (.cells #[.slice Ab s.box.length cb, .slice Ar s.rows.length cr, .slice Ag s.graphs.length cg, .slice Ac s.cases.length cc, .slice Ar s.rows.length cr, .int .i64 (b : Int), .int .i64 0] 62)
              have BW := Bx.new w3 #[.slice Ab s.box.length cb, .slice Ar s.rows.length cr, .slice Ag s.graphs.length cg, .slice Ac s.cases.length cc, .slice Ar s.rows.length cr, .int .i64 (b : Int), .int .i64 0] 62
              have zw := World.size_alloc w3 (.cells #[.slice Ab s.box.length cb, .slice Ar s.rows.length cr, .slice Ag s.graphs.length cg, .slice Ac s.cases.length cc, .slice Ar s.rows.length cr, .int .i64 (b : Int), .int .i64 0] 62)
              go_upto_region 6 with (fail)
              generalize w3.alloc (.cells #[.slice Ab s.box.length cb, .slice Ar s.rows.length cr, .slice Ag s.graphs.length cg, .slice Ac s.cases.length cc, .slice Ar s.rows.length cr, .int .i64 (b : Int), .int .i64 0] 62) = w4 at *
              have hbW : w.heap.size ≤ w3.heap.size := k3.size
              generalize hbw : w3.heap.size = bw at *
              have k5 := k4.alloc (.cells #[.pointer (some ⟨bw, 0, none⟩)] 60)
              have B10 := Bx.new w4 #[.pointer (some ⟨bw, 0, none⟩)] 60
              have BW5 := BW.kp ((Kp.refl w4).alloc (.cells #[.pointer (some ⟨bw, 0, none⟩)] 60)) (by omega)
              have z5 := World.size_alloc w4 (.cells #[.pointer (some ⟨bw, 0, none⟩)] 60)
              generalize w4.alloc (.cells #[.pointer (some ⟨bw, 0, none⟩)] 60) = w5 at *
              rw [zw] at B10 z5
              generalize h10 : bw + 1 = p10 at *
              simp only [List.toList_toArray] at B10 BW5
              replace h10 := hid h10
              replace hbw := hid hbw
              clear c0 c1 c2 c3 hgl zw BW k4
              go_wp2_with fail
              refine (CloneRange_any _ box w5 (hbx.keep (pl_stable _) k5) (by have := hL.out; omega)).mono ?_
              rintro e w6 ⟨vc, rfl, hO6, k6⟩
              obtain ⟨Av, nv, cv, rfl⟩ := hO6.isSl
              have hgeO := hO6.ge
              have k56 := k5.trans k6
              have BW6 := BW5.kp k6 (by have := h10.out; omega)
              have B106 := B10.kp k6 (by omega)
              have z6 := k6.size
              have B11 := Bx.new w6 #[.slice Av nv cv] 22
              have s11 := World.size_alloc w6 (.cells #[.slice Av nv cv] 22)
              have k7 := (Kp.refl w6).alloc (.cells #[.slice Av nv cv] 22)
              generalize hw7 : w6.alloc (.cells #[.slice Av nv cv] 22) = w7 at *
              have B12 := Bx.new w7 #[.slice none 0 0] 31
              have s12 := World.size_alloc w7 (.cells #[.slice none 0 0] 31)
              have k8 := (Kp.refl w7).alloc (.cells #[.slice none 0 0] 31)
              generalize hw8 : w7.alloc (.cells #[.slice none 0 0] 31) = w8 at *
              have B13 := Bx.new w8 #[.bool false] 4
              have s13 := World.size_alloc w8 (.cells #[.bool false] 4)
              have k9 := (Kp.refl w8).alloc (.cells #[.bool false] 4)
              generalize hw9 : w8.alloc (.cells #[.bool false] 4) = w9 at *
              have hgen : ((w6.alloc (.cells #[.slice Av nv cv] 22)).alloc (.cells #[.slice none 0 0] 31)).alloc (.cells #[.bool false] 4) = w9 := by rw [hw7, hw8, hw9]
              replace hgen := hid hgen
              replace hw7 := hid hw7
              replace hw8 := hid hw8
              replace hw9 := hid hw9
              rw [s11] at B12 s12
              rw [s12] at B13 s13
              replace s11 := hid s11
              replace s12 := hid s12
              replace s13 := hid s13
              go_upto_region 9 with (fail)
              rw [hgen.out]
              have lv := hO6.blk_lt
              generalize hp11 : w6.heap.size = p11 at *
              generalize hp12 : p11 + 1 = p12 at *
              generalize hp13 : p12 + 1 = p13 at *
              have h1011 : p10 < p11 := by omega
              have k89 := k7.trans (k8.trans k9)
              have k69 := k56.trans k89
              have BW9 := BW6.kp k89 (by have := h10.out; omega)
              have B109 := B106.kp k89 (by omega)
              have s11' := s11.out
              have s12' := s12.out
              have s13' := s13.out
              have B119 := B11.kp (k8.trans k9) (by omega)
              have B129 := B12.kp k9 (by omega)
              have hO9 := (hO6.less (Nat.zero_le _)).kp k89
              clear B11 B12 hO6 B106 BW6 k7 k8 k9 k89 k6 B10 BW5 k5 z6
              have hh10 := h10.out
              have hhw := hbw.out
              have hbp : w.heap.size ≤ bw := by omega
              have hvq : ∀ q, (Value.slice Av nv cv).ownBlock = some q → p10 < q ∧ q < p11 := fun q hq => by
                have a1 := hgeO q hq
                have a2 := lv q hq
                omega
              have kg := (Kp.refl w9).alloc (.cells #[.bool false] 4)
              have Bg := Bx.new w9 #[.bool false] 4
              have zg := World.size_alloc w9 (.cells #[.bool false] 4)
              have hPR := prop1_any p10 p11 p12 p13 bw (.slice Ab s.box.length cb) (.slice Ar s.rows.length cr) (.slice Ac s.cases.length cc) Ag Ar cg cr s.rows s.graphs s.box.length b (.slice Av nv cv) box (fun q => w.heap.size ≤ q) css csg (w9.alloc (.cells #[.bool false] 4))
                (BW9.kp kg (by omega)) (hO9.kp kg) (B109.kp kg (by omega)) (B119.kp kg (by omega)) (B129.kp kg (by omega)) (B13.kp kg (by omega)) ⟨by omega, by omega, by omega⟩ (fun q hq => by have := hvq q hq; exact ⟨by omega, by omega, by omega⟩) hbp (fun q hq => by have := hvq q hq; show w.heap.size ≤ q; omega) (OwF.of hcss.out (k69.trans kg)) hb9 hfb g1 g2 g3
              clear kg
              generalize hwg : w9.alloc (.cells #[.bool false] 4) = wg at *
              have kg : Kp w9 wg := by rw [← hwg]; exact (Kp.refl w9).alloc _
              have hnP : ¬ P1X bw p12 p13 (.slice Av nv cv) w9.heap.size := fun e => by
                rcases e with e | e | e | e
                · omega
                · have := hvq _ e
                  omega
                · omega
                · omega
              generalize runB b s.rows s.graphs box = F at *
              have hGU := guarded_any 29 [.pointer (some ⟨p10, 0, none⟩), .pointer (some ⟨p11, 0, none⟩), .pointer (some ⟨p12, 0, none⟩), .pointer (some ⟨p13, 0, none⟩)]
                (fun w' => F.fine = true ∧ Fx (P1X bw p12 p13 (.slice Av nv cv)) wg w' ∧ ∃ vs bx, Bx w' p12 [vs] ∧ Bx w' p13 [.bool (!F.opn)] ∧ Own encStp 54 3 0 w' vs F.steps ∧ Own encRng 57 2 0 w' (.slice Av nv cv) bx ∧ (F.opn = true → bx = F.box) ∧ ∀ q, vs.ownBlock = some q → wg.heap.size ≤ q)
                (fun w' => F.fine = false ∧ Fx (P1X bw p12 p13 (.slice Av nv cv)) wg w') w9 prop1_real (by rw [hwg]; exact hPR)
                (fun w1 h => Bg.fx h.2.1 (by omega) hnP) (fun w1 h => Bg.fx h.2 (by omega) hnP)
              replace hGU := hid hGU
              have hmf : ∀ (fn : Fn) (first cap : Array Value) (w : World), (Instr.makeFunc fn first cap).run Tryz.prog w = .ok (.func fn first cap) w := fun _ _ _ _ => rfl
              have hPX : ∀ q, P1X bw p12 p13 (.slice Av nv cv) q → w.heap.size ≤ q := fun q e => by
                rcases e with e | e | e | e
                · omega
                · have := hvq _ e
                  omega
                · omega
                · omega
              have kwg := k69.trans kg
              have z9 := Nat.le_trans k69.size (Nat.le_refl _)
              have hn12 : p12 ≠ w9.heap.size ∧ p13 ≠ w9.heap.size := by omega
              have hlt12 : p12 < wg.heap.size ∧ p13 < wg.heap.size := by have := kg.size; omega
              have hnv : ∀ q, (Value.slice Av nv cv).ownBlock = some q → q ≠ w9.heap.size := fun q hq => by have := hvq q hq; omega
              have hls : w9.heap.size < wg.heap.size := by omega
              have B11g := B119.kp kg (by omega)
              have l11g : p11 < wg.heap.size := by have := kg.size; omega
              have hn11 : ¬ P1X bw p12 p13 (.slice Av nv cv) p11 := fun e => by
                rcases e with e | e | e | e
                · omega
                · have := hvq _ e
                  omega
                · omega
                · omega
              have hn11' : p11 ≠ w9.heap.size := by omega
              clear hPR hwg zg hO9 BW9 B109 B119 B129 B13 Bg hnP
              replace hGU := hid hGU.out
              go_wp2_with fail
              refine hGU.out.mono ?_
              rintro e w2 (⟨w1, ⟨h1, h2, vs, bx, E12, E13, hs1, ho1, hop, hbq⟩, rfl, kF⟩ | ⟨w1, ⟨h1, h2⟩, rfl, kK⟩)
              · have kk := h2.kp_of kwg hPX
                have kend := kF.kp_of kk (fun q e => by rw [e]; exact z9)
                have G12 := E12.fx kF (E12.lt (by simp)) hn12.1
                have G13 := E13.fx kF (E13.lt (by simp)) hn12.2
                obtain ⟨As, ns, cs, rfl⟩ := hs1.isSl
                have hbk : ∀ q, (Value.slice As ns cs).ownBlock = some q → q ≠ w9.heap.size := fun q hq e => by have := hbq q hq; omega
                have G11 := (B11g.fx h2 l11g hn11).fx kF (Nat.lt_of_lt_of_le l11g h2.size) hn11'

                have hs2 := (hs1.fx kF hbk).sl encStp_len
                have ho2 := (ho1.fx kF hnv).sl encRng_len
                have d12 := G12.cell (j := 0) rfl
                have d13 := G13.cell (j := 0) rfl
                cases ho : F.opn with
                | false =>
                  have hX2 : PR = (F.steps, [], false, 0) := by rw [hX.out, if_neg (by rw [h1]; simp), if_pos ho]
                  subst hX2
                  rw [ho] at d13
                  have d13' : w2.cell? ⟨p13, 0, none⟩ = some (.bool true) := d13
                  clear hX ho d13
                  go_wp2
                  try simp only [Exit.inBlock, Exit.then]
                  refine bodyPost_ret (results_tmp4 rfl _ _ _) rfl ?_
                  exact ⟨_, _, rfl, hs2, Sl.nil _ _ _, kend⟩
                | true =>
                  have hX2 : PR = (F.steps, F.box, true, 0) := by rw [hX.out, if_neg (by rw [h1]; simp), if_neg (by rw [ho]; simp)]
                  subst hX2
                  rw [ho] at d13
                  have d13' : w2.cell? ⟨p13, 0, none⟩ = some (.bool false) := d13
                  rw [hop ho] at ho2
                  have d11 := G11.cell (j := 0) rfl
                  have l12 := G12.lt (by simp)
                  have l11 := G11.lt (by simp)
                  clear hX ho d13
                  go_wp2_with fail
                  refine wp_region_kw (by kernel_rfl) (by kernel_rfl) ?_
                  repeat (go_big_quiet_step ((fail)))
                  refine wpQuiet_nil ?_
                  intro _ hw'
                  obtain ⟨u, hw''⟩ := hw'
                  subst hw''
                  have ku := kw_kp w2 u
                  generalize Kw w2 u = w3 at *
                  go_wp2
                  try simp only [Exit.inBlock, Exit.then]
                  refine bodyPost_ret (results_tmp4 rfl _ _ _) rfl ?_
                  exact ⟨_, _, rfl, hs2.keep (pl_stable _) ku, ho2.keep (pl_stable _) ku, kend.trans ku⟩
              · have hX2 : PR = ([], [], false, 14) := by rw [hX.out, if_pos h1]
                subst hX2
                have kend := (h2.kp_of kwg hPX).trans kK
                clear hX
                go_wp2
                try simp only [Exit.inBlock, Exit.then]
                refine bodyPost_ret (results_tmp4 rfl _ _ _) rfl ?_
                exact ⟨_, _, rfl, Sl.nil _ _ _, Sl.nil _ _ _, kend⟩
        · have e1 : ((box.length : Int) != (s.box.length : Int)) = true := by simp; omega
          have hX : PR = ([], [], false, 1) := by rw [hPR.out, if_neg (fun h => hL h.2.1)]
          subst hX
          clear hL
          go_wp2
          try simp only [Exit.inBlock, Exit.then]
          refine bodyPost_ret (results_tmp4 rfl _ _ _) rfl ?_
          exact ⟨_, _, rfl, Sl.nil _ _ _, Sl.nil _ _ _, k3⟩
end Go.Proofs.YtlbhidiliogflaaGreat
