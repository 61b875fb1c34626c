
/-
IntervalOrder: for every box, rows, cell and part the law returns true and leaves its arguments as they were.
-/
import Derived.Test.YtmecjjfpgjpeoaaAwake
import Derived.Test.YtmecjjfpgjpeoaaIntOpen
import Derived.Test.YtmecjjfpgjpeoaaOrd3
namespace Go.Proofs.Ytmecjjfpgjpeoaa.lawOrder
open Go.ChangeShapes Go.WideShapes Go.ChangeAt Go.RowKit

set_option maxRecDepth 8000 in
set_option maxHeartbeats 4000000 in
theorem walk (vb vr : Value) (b : List Rng) (rows : List Row) (cell pl ph : Int) (w : World) (hb : Rngs w vb b) (hr : RowsL w vr rows) :
    Calls Try.prog 9 #[vb, vr, .int .i64 cell, .agg #[.int .i64 pl, .int .i64 ph]] w fun e w' => e = .returned (.bool true) ∧ Kp w w' := by
  obtain ⟨A, c, rfl, hc, hm⟩ := hb.form
  obtain ⟨A', c', rfl, hc', hm'⟩ := hr.form
  go_enter Try.func9, Try.ntmps9
  have hk0 := (Kp.refl w).alloc (.cells #[.int .i64 pl, .int .i64 ph] 27)
  have p0 := alloc_cell w #[.int .i64 pl, .int .i64 ph] 27 0 rfl
  have p1 := alloc_cell w #[.int .i64 pl, .int .i64 ph] 27 1 rfl
  go_wp2_with fail
  refine (awake_any _).mono ?_
  rintro e w1 ⟨rfl, hk1⟩
  have hbel1 := (hk0).trans hk1
  have p0 := hk1.cellS p0
  have p1 := hk1.cellS p1
  go_wp2_with fail
  refine (light_any _ _ b rows _ (hb.keep (pl_stable _) hbel1) (hr.keep rdRow_stable hbel1)).mono ?_
  rintro e w2 ⟨rfl, hk2⟩
  have hbel2 := (hbel1).trans hk2
  have p0 := hk2.cellS p0
  have p1 := hk2.cellS p1
  cases hl : lightB b rows with
  | false =>
    go_wp2
    go_ret
    exact ⟨rfl, hbel2⟩
  | true =>
    have HR8 : Hid (rows.length ≤ 1000000000) := hid (by
      unfold lightB at hl
      by_cases h : 8 < b.length ∨ 8 < rows.length
      · rw [if_pos h] at hl; cases hl
      · omega)
    clear hl
    go_wp2_with fail
    refine (rValid_any _ _ b rows _ (hb.keep (pl_stable _) hbel2) (hr.keep rdRow_stable hbel2)).mono ?_
    rintro e w3 ⟨rfl, hk3⟩
    have hbel3 := (hbel2).trans hk3
    have p0 := hk3.cellS p0
    have p1 := hk3.cellS p1
    cases hV : validB b rows with
    | false =>
      go_wp2
      go_ret
      exact ⟨rfl, hbel3⟩
    | true =>
      have HV := hid hV
      clear hV
      go_wp2_with fail
      refine (Fix_any _ _ b rows _ (hb.keep (pl_stable _) hbel3) (hr.keep rdRow_stable hbel3)).mono ?_
      rintro e w4 ⟨v4, rfl, own4, hk4⟩
      have hbel4 := hbel3.trans hk4
      have p0 := hk4.cellS p0
      have p1 := hk4.cellS p1
      have S4 := own4.sl encRng_len
      clear own4 hk0 hk1 hk2 hk3 hk4 hbel1 hbel2 hbel3
      obtain ⟨A4, c4, rfl, hc4, hm4⟩ := S4.form
      obtain ⟨raws, hraws, hreads⟩ := RowsL.raws hr
      have hrl := hreads.1
      generalize hfx : fixB b rows = fx at *
      have HFX := hid hfx
      clear hfx
      have hkB := ((Kp.refl w4).alloc (.cells #[.slice A4 (fx.getD []).length c4] 22)).alloc (.cells #[.bool fx.isSome] 4)
      have f0 : ((w4.alloc (.cells #[.slice A4 (fx.getD []).length c4] 22)).alloc (.cells #[.bool fx.isSome] 4)).cell? ⟨w4.heap.size, 0, none⟩ = some (.slice A4 (fx.getD []).length c4) := ((Kp.refl _).alloc _).cellS (alloc_cell w4 #[.slice A4 (fx.getD []).length c4] 22 0 rfl)
      have f1 : ((w4.alloc (.cells #[.slice A4 (fx.getD []).length c4] 22)).alloc (.cells #[.bool fx.isSome] 4)).cell? ⟨w4.heap.size + 1, 0, none⟩ = some (.bool fx.isSome) := by
        have := alloc_cell (w4.alloc (.cells #[.slice A4 (fx.getD []).length c4] 22)) #[.bool fx.isSome] 4 0 rfl
        rw [World.size_alloc] at this
        exact this
      have hbelB := hbel4.trans hkB
      have p0 := hkB.cellS p0
      have p1 := hkB.cellS p1
      have S4 := S4.keep (pl_stable _) hkB
      have l4 : w.heap.size < w4.heap.size := block_lt_of_cell (by assumption : w4.cell? ⟨w.heap.size, 0, none⟩ = _)
      clear hkB
      go_wp2_with fail
      generalize (w4.alloc (.cells #[.slice A4 (fx.getD []).length c4] 22)).alloc (.cells #[.bool fx.isSome] 4) = wB at *
      generalize w4.heap.size = q at *
      have hraws' := hraws.keep (pl_stable _) hbelB
      refine (CloneRow_any _ raws _ hraws' (by rw [hrl]; exact HR8.out)).mono ?_
      rintro e w5 ⟨v5, rfl, own5, hk5⟩
      go_wp2_with fail
      refine (Reverse_any v5 raws wB w5 own5 hk5).mono ?_
      rintro e w6 ⟨rfl, own6, hk6⟩
      have hbel6 := hbelB.trans hk6
      have S6 : RowsL w6 v5 rows.reverse := Raws.rows (own6.sl encS_len) (hreads.keep hbel6).reverse
      have p0 := hk6.cellS p0
      have p1 := hk6.cellS p1
      have f0 := hk6.cellS f0
      have f1 := hk6.cellS f1
      have S4 := S4.keep (pl_stable _) hk6
      clear own5 own6 hk5 hk6 hraws hraws' hreads hrl hbelB hbel4
      go_wp2_with fail
      refine (Fix_any _ _ b rows.reverse _ (hb.keep (pl_stable _) hbel6) S6).mono ?_
      rintro e w7 ⟨v7, rfl, own7, hk7⟩
      rw [fix_reverse, HFX.out] at own7 ⊢
      have hbel7 := hbel6.trans hk7
      have S7 := own7.sl encRng_len
      have p0 := hk7.cellS p0
      have p1 := hk7.cellS p1
      have f0 := hk7.cellS f0
      have f1 := hk7.cellS f1
      have S4 := S4.keep (pl_stable _) hk7
      have e1 : (fx.isSome != fx.isSome) = false := by simp
      have e2 : (fx.isSome == fx.isSome) = true := by simp
      clear own7 S6 hbel6 hk7
      go_wp2_with fail
      refine (EqualRange_any _ _ _ _ _ S4 S7).mono ?_
      rintro e w8 ⟨rfl, hk8⟩
      rw [(eqR_iff _ _).2 rfl]
      have hbel8 := hbel7.trans hk8
      have p0 := hk8.cellS p0
      have p1 := hk8.cellS p1
      have f0 := hk8.cellS f0
      have f1 := hk8.cellS f1
      have S4 := S4.keep (pl_stable _) hk8
      clear S7 hbel7 hk8 e1 e2
      have hcf := fun args w => lawOrder1_real.run args w
      by_cases hin : 0 ≤ cell ∧ cell < b.length
      · obtain ⟨hi0, hi1⟩ := hin
        obtain ⟨j, rfl⟩ := Int.eq_ofNat_of_zero_le hi0
        have hj : j < b.length := by omega
        obtain ⟨g, o, rfl, hg, y1', y2'⟩ := hb.rng hj
        have y1 := hbel8.cellS y1'
        have y2 := hbel8.cellS y2'
        have HSub : Hid (Sub (withL b j ⟨max b[j].lo pl, min b[j].hi ph⟩) b) := hid (sub_with hj _ _ (by rw [pick_at b j hj]; omega) (by rw [pick_at b j hj]; omega))
        have hbl : b.length ≤ 1000000000 := by have := (validB_ok HV.out).2.1; omega
        have lg : g < w8.heap.size := by have := hbel8.size; omega
        have lw : w.heap.size < w8.heap.size := block_lt_of_cell p0
        clear y1' y2'
        generalize b[j] = r at *
        obtain ⟨rl, rh⟩ := r
        dsimp only at y1 y2 HSub
        have HM := hid (fun u => rMeet_any rl rh pl ph (Kw w8 u))
        generalize max rl pl = ml at *
        generalize min rh ph = mh at *
        go_wp2
        refine wp_region_kw_tail 8 (by kernel_rfl) (by kernel_rfl) ?_
        simp only [List.take_succ_cons, List.take_zero, List.drop_succ_cons, List.drop_zero]
        repeat (go_big_quiet_step (((go_at_call 15; exact quiet_kw (HM.out _)))))
        refine wpQuiet_nil ?_
        intro _ hw'
        obtain ⟨u, hw''⟩ := hw'
        subst hw''
        have hkw := kw_kp w8 u
        have hbel9 := hbel8.trans hkw
        have f0 := hkw.cellS f0
        have f1 := hkw.cellS f1
        have S4 := S4.keep (pl_stable _) hkw
        clear y1 y2 lg lw p0 p1 HM hkw hbel8
        generalize Kw w8 u = w9 at *
        go_wp2_with fail
        refine (rWith_any _ b j ml mh _ (hb.keep (pl_stable _) hbel9) hbl).mono ?_
        rintro e w10 ⟨v10, rfl, own10, hk10⟩
        have hbel10 := hbel9.trans hk10
        have f0 := hk10.cellS f0
        have f1 := hk10.cellS f1
        have S4 := S4.keep (pl_stable _) hk10
        have S10 := own10.sl encRng_len
        clear own10 hk10 hbel9
        generalize withL b j ⟨ml, mh⟩ = M at *
        go_wp2_with fail
        refine (rValid_any _ _ M [] _ S10 (Sl.nil _ _ _)).mono ?_
        rintro e w11 ⟨rfl, hk11⟩
        have hbel11 := (hbel10).trans hk11
        have f0 := hk11.cellS f0
        have f1 := hk11.cellS f1
        have S4 := S4.keep (pl_stable _) hk11
        have S10 := S10.keep (pl_stable _) hk11
        clear hk11 hbel10
        cases hVM : validB M [] with
        | false =>
          clear hVM
          by_cases hz : rows.length = 0
          · rw [hz]
            go_wp2
            go_ret
            exact ⟨rfl, hbel11⟩
          · obtain ⟨n, hn⟩ : ∃ n, rows.length = n + 1 := ⟨rows.length - 1, by omega⟩
            obtain ⟨g9, o9, A9, c9, rfl, hg9, -, -, -⟩ := hr.row (k := 0) (by omega)
            have ST : RowsL w11 (.slice (some ⟨g9, o9, none⟩) n c') (rows.take n) := (hr.keep rdRow_stable hbel11).take n (by omega)
            have hn1 : n ≤ c' := by omega
            rw [hn]
            rw [hn] at hc'
            have HT := hid (fun L (h : fx = some L) => fix_take (HFX.out.trans h) n)
            clear hz
            go_wp2_with fail
            refine (Fix_any _ _ b (rows.take n) _ (hb.keep (pl_stable _) hbel11) ST).mono ?_
            rintro e wF ⟨vF, rfl, ownF, hkF⟩
            have hbelF := (hbel11).trans hkF
            have f0 := hkF.cellS f0
            have f1 := hkF.cellS f1
            have S4 := S4.keep (pl_stable _) hkF
            have SF := ownF.sl encRng_len
            clear ownF hkF ST
            cases fx with
            | none =>
              generalize (fixB b (rows.take n)).isSome = xF at *
              dsimp only [Option.isSome_none] at f1
              go_wp2
              go_ret
              exact ⟨rfl, hbelF⟩
            | some L =>
              obtain ⟨L3, hL3, hS3⟩ := HT.out L rfl
              rw [hL3] at SF ⊢
              dsimp only [Option.isSome_some, Option.getD_some] at f0 f1 S4 SF ⊢
              have hlen3 : L.length = L3.length := hS3.1
              obtain ⟨AF, cF, rfl, hcF, hmF⟩ := SF.form
              rw [hlen3] at S4 f0 ⊢
              have HS3 := hid hS3
              have l0 := block_lt_of_cell f0
              clear hL3 hS3 HT
              go_wp2
              go_loopw [113] (fun i wr => ∃ k : Nat, k ≤ L3.length ∧ i = .int .i64 k ∧ Kp wF wr) (fun i _ => L3.length - (intOf i).toNat)
              case atStart => exact ⟨0, Nat.zero_le _, rfl, Kp.refl _⟩
              case round =>
                obtain ⟨k, hk, rfl, hbel⟩ := hrel
                by_cases hlt : k < L3.length
                · have hltl : k < L.length := by omega
                  obtain ⟨gx, ox, rfl, hgx, y1', y2'⟩ := S4.rng hltl
                  have y1 := hbel.cellS y1'
                  have y2 := hbel.cellS y2'
                  obtain ⟨gy, oy, rfl, hgy, z1', z2'⟩ := SF.rng hlt
                  have z1 := hbel.cellS z1'
                  have z2 := hbel.cellS z2'
                  obtain ⟨s1, s2⟩ := sub_at HS3.out k hltl hlt
                  have lgx : gx < wr.heap.size := by have := hbel.size; omega
                  have lgy : gy < wr.heap.size := by have := hbel.size; omega
                  have q1 : (0 : Int) ≤ k := by omega
                  have q2 : (k : Int) < L3.length := by omega
                  clear y1' y2' z1' z2' S4 SF
                  generalize L[k] = x at *
                  generalize L3[k] = s at *
                  obtain ⟨xl, xh⟩ := x
                  obtain ⟨sl, sh⟩ := s
                  dsimp only at y1 y2 z1 z2 s1 s2
                  have d1 : decide (xl < sl) = false := by simp; omega
                  have d2 : decide (sh < xh) = false := by simp; omega
                  have d3 : decide (xh > sh) = false := by simp; omega
                  go_wp2
                  have kA := (Kp.refl wr).alloc (.cells #[.int .i64 xl, .int .i64 xh] 27)
                  have x0 := alloc_cell wr #[.int .i64 xl, .int .i64 xh] 27 0 rfl
                  have x1 := alloc_cell wr #[.int .i64 xl, .int .i64 xh] 27 1 rfl
                  have x2 := alloc_lt wr (.cells #[.int .i64 xl, .int .i64 xh] 27)
                  have z1 := kA.cellS z1
                  have z2 := kA.cellS z2
                  have lg2 : gy < (wr.alloc (.cells #[.int .i64 xl, .int .i64 xh] 27)).heap.size := by omega
                  have hbel3 := hbel.trans kA
                  clear kA y1 y2
                  generalize wr.alloc (.cells #[.int .i64 xl, .int .i64 xh] 27) = w3 at *
                  generalize wr.heap.size = hp at *
                  refine wp_region_kw (by kernel_rfl) (by kernel_rfl) ?_
                  repeat (go_big_quiet_step ((fail)))
                  refine wpQuiet_nil ?_
                  intro _ hw'
                  obtain ⟨u, hw''⟩ := hw'
                  subst hw''
                  go_wp2
                  go_roundw
                  case rel => exact ⟨k + 1, by omega, by go_num, hbel3.trans (kw_kp _ _)⟩
                  case measure => simp [intOf]; omega
                · go_wp2
                  go_ret
                  exact ⟨rfl, hbelF.trans hbel⟩
        | true =>
          clear hVM
          go_wp2_with fail
          refine (Fix_any _ _ M rows _ S10 (hr.keep rdRow_stable hbel11)).mono ?_
          rintro e w12 ⟨v12, rfl, own12, hk12⟩
          have hbel12 := hbel11.trans hk12
          have f0 := hk12.cellS f0
          have f1 := hk12.cellS f1
          have S4 := S4.keep (pl_stable _) hk12
          have S12 := own12.sl encRng_len
          have hprem : (fixB M rows).isSome = true → fx.isSome = true ∧ ((fixB M rows).getD []).length = (fx.getD []).length ∧ Sub ((fixB M rows).getD []) (fx.getD []) := fun hs => by
            cases hm : fixB M rows with
            | none => rw [hm] at hs; cases hs
            | some l =>
              obtain ⟨L', hL1, hL2⟩ := fix_part HV.out HSub.out hm
              rw [HFX.out] at hL1
              subst hL1
              exact ⟨rfl, hL2.1, hL2⟩
          have HP := hid hprem
          clear own12 hk12 hbel11 hprem
          generalize (fixB M rows).isSome = is2 at *
          generalize (fixB M rows).getD [] = L2 at *
          go_wp2_with fail
          refine (lawOrder1_any _ _ L2 (fx.getD []) is2 fx.isSome (q + 1) q _ S12 S4 f1 f0 HP.out).mono ?_
          rintro e w13 ⟨rfl, hk13⟩
          have hbel13 := hbel12.trans hk13
          have f0 := hk13.cellS f0
          have f1 := hk13.cellS f1
          have S4 := S4.keep (pl_stable _) hk13
          clear hk13 hbel12
          by_cases hz : rows.length = 0
          · rw [hz]
            go_wp2
            go_ret
            exact ⟨rfl, hbel13⟩
          · obtain ⟨n, hn⟩ : ∃ n, rows.length = n + 1 := ⟨rows.length - 1, by omega⟩
            obtain ⟨g9, o9, A9, c9, rfl, hg9, -, -, -⟩ := hr.row (k := 0) (by omega)
            have ST : RowsL w13 (.slice (some ⟨g9, o9, none⟩) n c') (rows.take n) := (hr.keep rdRow_stable hbel13).take n (by omega)
            have hn1 : n ≤ c' := by omega
            rw [hn]
            rw [hn] at hc'
            have HT := hid (fun L (h : fx = some L) => fix_take (HFX.out.trans h) n)
            clear hz
            go_wp2_with fail
            refine (Fix_any _ _ b (rows.take n) _ (hb.keep (pl_stable _) hbel13) ST).mono ?_
            rintro e wF ⟨vF, rfl, ownF, hkF⟩
            have hbelF := (hbel13).trans hkF
            have f0 := hkF.cellS f0
            have f1 := hkF.cellS f1
            have S4 := S4.keep (pl_stable _) hkF
            have SF := ownF.sl encRng_len
            clear ownF hkF ST
            cases fx with
            | none =>
              generalize (fixB b (rows.take n)).isSome = xF at *
              dsimp only [Option.isSome_none] at f1
              go_wp2
              go_ret
              exact ⟨rfl, hbelF⟩
            | some L =>
              obtain ⟨L3, hL3, hS3⟩ := HT.out L rfl
              rw [hL3] at SF ⊢
              dsimp only [Option.isSome_some, Option.getD_some] at f0 f1 S4 SF ⊢
              have hlen3 : L.length = L3.length := hS3.1
              obtain ⟨AF, cF, rfl, hcF, hmF⟩ := SF.form
              rw [hlen3] at S4 f0 ⊢
              have HS3 := hid hS3
              have l0 := block_lt_of_cell f0
              clear hL3 hS3 HT
              go_wp2
              go_loopw [113] (fun i wr => ∃ k : Nat, k ≤ L3.length ∧ i = .int .i64 k ∧ Kp wF wr) (fun i _ => L3.length - (intOf i).toNat)
              case atStart => exact ⟨0, Nat.zero_le _, rfl, Kp.refl _⟩
              case round =>
                obtain ⟨k, hk, rfl, hbel⟩ := hrel
                by_cases hlt : k < L3.length
                · have hltl : k < L.length := by omega
                  obtain ⟨gx, ox, rfl, hgx, y1', y2'⟩ := S4.rng hltl
                  have y1 := hbel.cellS y1'
                  have y2 := hbel.cellS y2'
                  obtain ⟨gy, oy, rfl, hgy, z1', z2'⟩ := SF.rng hlt
                  have z1 := hbel.cellS z1'
                  have z2 := hbel.cellS z2'
                  obtain ⟨s1, s2⟩ := sub_at HS3.out k hltl hlt
                  have lgx : gx < wr.heap.size := by have := hbel.size; omega
                  have lgy : gy < wr.heap.size := by have := hbel.size; omega
                  have q1 : (0 : Int) ≤ k := by omega
                  have q2 : (k : Int) < L3.length := by omega
                  clear y1' y2' z1' z2' S4 SF
                  generalize L[k] = x at *
                  generalize L3[k] = s at *
                  obtain ⟨xl, xh⟩ := x
                  obtain ⟨sl, sh⟩ := s
                  dsimp only at y1 y2 z1 z2 s1 s2
                  have d1 : decide (xl < sl) = false := by simp; omega
                  have d2 : decide (sh < xh) = false := by simp; omega
                  have d3 : decide (xh > sh) = false := by simp; omega
                  go_wp2
                  have kA := (Kp.refl wr).alloc (.cells #[.int .i64 xl, .int .i64 xh] 27)
                  have x0 := alloc_cell wr #[.int .i64 xl, .int .i64 xh] 27 0 rfl
                  have x1 := alloc_cell wr #[.int .i64 xl, .int .i64 xh] 27 1 rfl
                  have x2 := alloc_lt wr (.cells #[.int .i64 xl, .int .i64 xh] 27)
                  have z1 := kA.cellS z1
                  have z2 := kA.cellS z2
                  have lg2 : gy < (wr.alloc (.cells #[.int .i64 xl, .int .i64 xh] 27)).heap.size := by omega
                  have hbel3 := hbel.trans kA
                  clear kA y1 y2
                  generalize wr.alloc (.cells #[.int .i64 xl, .int .i64 xh] 27) = w3 at *
                  generalize wr.heap.size = hp at *
                  refine wp_region_kw (by kernel_rfl) (by kernel_rfl) ?_
                  repeat (go_big_quiet_step ((fail)))
                  refine wpQuiet_nil ?_
                  intro _ hw'
                  obtain ⟨u, hw''⟩ := hw'
                  subst hw''
                  go_wp2
                  go_roundw
                  case rel => exact ⟨k + 1, by omega, by go_num, hbel3.trans (kw_kp _ _)⟩
                  case measure => simp [intOf]; omega
                · go_wp2
                  go_ret
                  exact ⟨rfl, hbelF.trans hbel⟩
      · clear p0 p1
        by_cases h1 : 0 ≤ cell
        · have h2 : ¬ cell < b.length := fun h => hin ⟨h1, h⟩
          clear hin
          by_cases hz : rows.length = 0
          · rw [hz]
            go_wp2
            go_ret
            exact ⟨rfl, hbel8⟩
          · obtain ⟨n, hn⟩ : ∃ n, rows.length = n + 1 := ⟨rows.length - 1, by omega⟩
            obtain ⟨g9, o9, A9, c9, rfl, hg9, -, -, -⟩ := hr.row (k := 0) (by omega)
            have ST : RowsL w8 (.slice (some ⟨g9, o9, none⟩) n c') (rows.take n) := (hr.keep rdRow_stable hbel8).take n (by omega)
            have hn1 : n ≤ c' := by omega
            rw [hn]
            rw [hn] at hc'
            have HT := hid (fun L (h : fx = some L) => fix_take (HFX.out.trans h) n)
            clear hz
            go_wp2_with fail
            refine (Fix_any _ _ b (rows.take n) _ (hb.keep (pl_stable _) hbel8) ST).mono ?_
            rintro e wF ⟨vF, rfl, ownF, hkF⟩
            have hbelF := (hbel8).trans hkF
            have f0 := hkF.cellS f0
            have f1 := hkF.cellS f1
            have S4 := S4.keep (pl_stable _) hkF
            have SF := ownF.sl encRng_len
            clear ownF hkF ST
            cases fx with
            | none =>
              generalize (fixB b (rows.take n)).isSome = xF at *
              dsimp only [Option.isSome_none] at f1
              go_wp2
              go_ret
              exact ⟨rfl, hbelF⟩
            | some L =>
              obtain ⟨L3, hL3, hS3⟩ := HT.out L rfl
              rw [hL3] at SF ⊢
              dsimp only [Option.isSome_some, Option.getD_some] at f0 f1 S4 SF ⊢
              have hlen3 : L.length = L3.length := hS3.1
              obtain ⟨AF, cF, rfl, hcF, hmF⟩ := SF.form
              rw [hlen3] at S4 f0 ⊢
              have HS3 := hid hS3
              have l0 := block_lt_of_cell f0
              clear hL3 hS3 HT
              go_wp2
              go_loopw [113] (fun i wr => ∃ k : Nat, k ≤ L3.length ∧ i = .int .i64 k ∧ Kp wF wr) (fun i _ => L3.length - (intOf i).toNat)
              case atStart => exact ⟨0, Nat.zero_le _, rfl, Kp.refl _⟩
              case round =>
                obtain ⟨k, hk, rfl, hbel⟩ := hrel
                by_cases hlt : k < L3.length
                · have hltl : k < L.length := by omega
                  obtain ⟨gx, ox, rfl, hgx, y1', y2'⟩ := S4.rng hltl
                  have y1 := hbel.cellS y1'
                  have y2 := hbel.cellS y2'
                  obtain ⟨gy, oy, rfl, hgy, z1', z2'⟩ := SF.rng hlt
                  have z1 := hbel.cellS z1'
                  have z2 := hbel.cellS z2'
                  obtain ⟨s1, s2⟩ := sub_at HS3.out k hltl hlt
                  have lgx : gx < wr.heap.size := by have := hbel.size; omega
                  have lgy : gy < wr.heap.size := by have := hbel.size; omega
                  have q1 : (0 : Int) ≤ k := by omega
                  have q2 : (k : Int) < L3.length := by omega
                  clear y1' y2' z1' z2' S4 SF
                  generalize L[k] = x at *
                  generalize L3[k] = s at *
                  obtain ⟨xl, xh⟩ := x
                  obtain ⟨sl, sh⟩ := s
                  dsimp only at y1 y2 z1 z2 s1 s2
                  have d1 : decide (xl < sl) = false := by simp; omega
                  have d2 : decide (sh < xh) = false := by simp; omega
                  have d3 : decide (xh > sh) = false := by simp; omega
                  go_wp2
                  have kA := (Kp.refl wr).alloc (.cells #[.int .i64 xl, .int .i64 xh] 27)
                  have x0 := alloc_cell wr #[.int .i64 xl, .int .i64 xh] 27 0 rfl
                  have x1 := alloc_cell wr #[.int .i64 xl, .int .i64 xh] 27 1 rfl
                  have x2 := alloc_lt wr (.cells #[.int .i64 xl, .int .i64 xh] 27)
                  have z1 := kA.cellS z1
                  have z2 := kA.cellS z2
                  have lg2 : gy < (wr.alloc (.cells #[.int .i64 xl, .int .i64 xh] 27)).heap.size := by omega
                  have hbel3 := hbel.trans kA
                  clear kA y1 y2
                  generalize wr.alloc (.cells #[.int .i64 xl, .int .i64 xh] 27) = w3 at *
                  generalize wr.heap.size = hp at *
                  refine wp_region_kw (by kernel_rfl) (by kernel_rfl) ?_
                  repeat (go_big_quiet_step ((fail)))
                  refine wpQuiet_nil ?_
                  intro _ hw'
                  obtain ⟨u, hw''⟩ := hw'
                  subst hw''
                  go_wp2
                  go_roundw
                  case rel => exact ⟨k + 1, by omega, by go_num, hbel3.trans (kw_kp _ _)⟩
                  case measure => simp [intOf]; omega
                · go_wp2
                  go_ret
                  exact ⟨rfl, hbelF.trans hbel⟩
        · clear hin
          by_cases hz : rows.length = 0
          · rw [hz]
            go_wp2
            go_ret
            exact ⟨rfl, hbel8⟩
          · obtain ⟨n, hn⟩ : ∃ n, rows.length = n + 1 := ⟨rows.length - 1, by omega⟩
            obtain ⟨g9, o9, A9, c9, rfl, hg9, -, -, -⟩ := hr.row (k := 0) (by omega)
            have ST : RowsL w8 (.slice (some ⟨g9, o9, none⟩) n c') (rows.take n) := (hr.keep rdRow_stable hbel8).take n (by omega)
            have hn1 : n ≤ c' := by omega
            rw [hn]
            rw [hn] at hc'
            have HT := hid (fun L (h : fx = some L) => fix_take (HFX.out.trans h) n)
            clear hz
            go_wp2_with fail
            refine (Fix_any _ _ b (rows.take n) _ (hb.keep (pl_stable _) hbel8) ST).mono ?_
            rintro e wF ⟨vF, rfl, ownF, hkF⟩
            have hbelF := (hbel8).trans hkF
            have f0 := hkF.cellS f0
            have f1 := hkF.cellS f1
            have S4 := S4.keep (pl_stable _) hkF
            have SF := ownF.sl encRng_len
            clear ownF hkF ST
            cases fx with
            | none =>
              generalize (fixB b (rows.take n)).isSome = xF at *
              dsimp only [Option.isSome_none] at f1
              go_wp2
              go_ret
              exact ⟨rfl, hbelF⟩
            | some L =>
              obtain ⟨L3, hL3, hS3⟩ := HT.out L rfl
              rw [hL3] at SF ⊢
              dsimp only [Option.isSome_some, Option.getD_some] at f0 f1 S4 SF ⊢
              have hlen3 : L.length = L3.length := hS3.1
              obtain ⟨AF, cF, rfl, hcF, hmF⟩ := SF.form
              rw [hlen3] at S4 f0 ⊢
              have HS3 := hid hS3
              have l0 := block_lt_of_cell f0
              clear hL3 hS3 HT
              go_wp2
              go_loopw [113] (fun i wr => ∃ k : Nat, k ≤ L3.length ∧ i = .int .i64 k ∧ Kp wF wr) (fun i _ => L3.length - (intOf i).toNat)
              case atStart => exact ⟨0, Nat.zero_le _, rfl, Kp.refl _⟩
              case round =>
                obtain ⟨k, hk, rfl, hbel⟩ := hrel
                by_cases hlt : k < L3.length
                · have hltl : k < L.length := by omega
                  obtain ⟨gx, ox, rfl, hgx, y1', y2'⟩ := S4.rng hltl
                  have y1 := hbel.cellS y1'
                  have y2 := hbel.cellS y2'
                  obtain ⟨gy, oy, rfl, hgy, z1', z2'⟩ := SF.rng hlt
                  have z1 := hbel.cellS z1'
                  have z2 := hbel.cellS z2'
                  obtain ⟨s1, s2⟩ := sub_at HS3.out k hltl hlt
                  have lgx : gx < wr.heap.size := by have := hbel.size; omega
                  have lgy : gy < wr.heap.size := by have := hbel.size; omega
                  have q1 : (0 : Int) ≤ k := by omega
                  have q2 : (k : Int) < L3.length := by omega
                  clear y1' y2' z1' z2' S4 SF
                  generalize L[k] = x at *
                  generalize L3[k] = s at *
                  obtain ⟨xl, xh⟩ := x
                  obtain ⟨sl, sh⟩ := s
                  dsimp only at y1 y2 z1 z2 s1 s2
                  have d1 : decide (xl < sl) = false := by simp; omega
                  have d2 : decide (sh < xh) = false := by simp; omega
                  have d3 : decide (xh > sh) = false := by simp; omega
                  go_wp2
                  have kA := (Kp.refl wr).alloc (.cells #[.int .i64 xl, .int .i64 xh] 27)
                  have x0 := alloc_cell wr #[.int .i64 xl, .int .i64 xh] 27 0 rfl
                  have x1 := alloc_cell wr #[.int .i64 xl, .int .i64 xh] 27 1 rfl
                  have x2 := alloc_lt wr (.cells #[.int .i64 xl, .int .i64 xh] 27)
                  have z1 := kA.cellS z1
                  have z2 := kA.cellS z2
                  have lg2 : gy < (wr.alloc (.cells #[.int .i64 xl, .int .i64 xh] 27)).heap.size := by omega
                  have hbel3 := hbel.trans kA
                  clear kA y1 y2
                  generalize wr.alloc (.cells #[.int .i64 xl, .int .i64 xh] 27) = w3 at *
                  generalize wr.heap.size = hp at *
                  refine wp_region_kw (by kernel_rfl) (by kernel_rfl) ?_
                  repeat (go_big_quiet_step ((fail)))
                  refine wpQuiet_nil ?_
                  intro _ hw'
                  obtain ⟨u, hw''⟩ := hw'
                  subst hw''
                  go_wp2
                  go_roundw
                  case rel => exact ⟨k + 1, by omega, by go_num, hbel3.trans (kw_kp _ _)⟩
                  case measure => simp [intOf]; omega
                · go_wp2
                  go_ret
                  exact ⟨rfl, hbelF.trans hbel⟩

theorem own : ownKnob Try.prog.godebug = none := by kernel_rfl
theorem laidOut : laidOutB Try.prog = true := by kernel_rfl
set_option maxRecDepth 100000 in
theorem lifted (os : Os) (started : os.Started) (H : Type) (enc : TypeId × Value → H) :
    ReturnsInHanded {} Try.checked os 9 .any (Rows.intervalOrderSpec.pre6 enc Try.prog Try.f9 Rows.intervalOrderRow.domain false) (Rows.intervalOrderSpec.post enc Try.prog Try.f9 false true false false) := by
  refine returnsInHanded_of_change (C := Try.checked) own started (by kernel_rfl) Try.func9
    (ChangeSpec.witness6 (enc := enc) (C := Try.checked) false ⟨#[], #[.slice none 0 0, .slice none 0 0, .int .i64 0, .agg #[.int .i64 0, .int .i64 0]], []⟩ 8 (by kernel_rfl) (by kernel_rfl) (by kernel_rfl) (by kernel_rfl)) ?_
  intro W base args ds gs before hval0 hW hcnd _
  have hval : ∀ (j : Nat) t v, Try.f9.params[j]? = some t → args[j]? = some v → Value.okWide Try.prog W .any base t v := hval0
  have hW' := hW
  obtain ⟨p, q, hA0, hV, rfl, hfz, hnd⟩ := hW
  have hA : DataW.TrodAll enc Try.prog W 0 (fun _ => true) true Try.f9.params.toList args.toList ds p := hA0
  rw [Try.params9] at hA hval
  obtain ⟨v0, vs0, d0, ds0, p0, q0, hargs, rfl, rfl, h0, r0⟩ := trodAll_cons hA
  obtain ⟨v1, vs1, d1, ds1, p1, q1, rfl, rfl, rfl, h1, r1⟩ := trodAll_cons r0
  obtain ⟨v2, vs2, d2, ds2, p2, q2, rfl, rfl, rfl, h2, r2⟩ := trodAll_cons r1
  obtain ⟨v3, vs3, d3, ds3, p3, q3, rfl, rfl, rfl, h3, r3⟩ := trodAll_cons r2
  obtain ⟨rfl, rfl, rfl⟩ := trodAll_nil r3
  obtain rfl : args = #[v0, v1, v2, v3] := by cases args; simp_all
  obtain ⟨rfl, rfl⟩ := trodVars_none hV
  have lt0 : ∀ x ∈ p0, x.block < W.heap.size := by obtain ⟨m, hm⟩ := h0; exact DataW.trod_lt m _ _ _ hm
  have lt1 : ∀ x ∈ p1, x.block < W.heap.size := by obtain ⟨m, hm⟩ := h1; exact DataW.trod_lt m _ _ _ hm
  have lt2 : ∀ x ∈ p2, x.block < W.heap.size := by obtain ⟨m, hm⟩ := h2; exact DataW.trod_lt m _ _ _ hm
  have lt3 : ∀ x ∈ p3, x.block < W.heap.size := by obtain ⟨m, hm⟩ := h3; exact DataW.trod_lt m _ _ _ hm
  obtain ⟨a0, len0, cap0, rfl⟩ := okWide_slice Try.underlying22 (hval 0 22 v0 rfl rfl)
  obtain ⟨n0, hn0⟩ := trod_slice_value h0
  obtain ⟨x0, hx0⟩ := opRngs hn0
  obtain ⟨a1, len1, cap1, rfl⟩ := okWide_slice Try.underlying23 (hval 1 23 v1 rfl rfl)
  obtain ⟨n1, hn1⟩ := trod_slice_value h1
  obtain ⟨x1, hx1⟩ := opRows hn1
  obtain ⟨x2, rfl, -, -, wx2⟩ := open_int Try.underlying3 (hval 2 3 v2 rfl rfl) h2
  obtain ⟨c3, e3, y3, z3, n3, rfl, -, -, hy3, hz3⟩ := Joins.open_agg2 Try.underlying27 (by kernel_rfl) (by kernel_rfl) (hval 3 27 v3 rfl rfl) h3
  obtain ⟨lo3, rfl⟩ := opField_int Try.underlying3 hy3
  obtain ⟨hi3, rfl⟩ := opField_int Try.underlying3 hz3
  clear hA0 hval0
  refine (walk _ _ x0 x1 x2 lo3 hi3 W hx0 hx1).mono fun e W' ⟨he, bel⟩ => ?_
  subst he
  exact ⟨_, rfl, _, _, _, [], _, [], hW', trodAll_mk1 (shut_bool Try.underlying4 _), (trodAll_cons_mk (Below.trod laidOut (by kernel_rfl) (of_decide_eq_true (by kernel_rfl)) h0 bel lt0) (trodAll_cons_mk (Below.trod laidOut (by kernel_rfl) (of_decide_eq_true (by kernel_rfl)) h1 bel lt1) (trodAll_cons_mk (Below.trod laidOut (by kernel_rfl) (of_decide_eq_true (by kernel_rfl)) h2 bel lt2) (trodAll_cons_mk (Below.trod laidOut (by kernel_rfl) (of_decide_eq_true (by kernel_rfl)) h3 bel lt3) trodAll_mk0)))), rfl, Below.frame bel _, fun h => by cases h⟩
theorem over : Rows.intervalOrderRow.holds Try.pinned (OpenSpec.ofChange Rows.intervalOrderSpec) :=
  OpenClaim.holds_of_wide 9 Try.f9 rfl rfl rfl rfl rfl rfl rfl ⟨rfl, rfl, rfl, rfl, rfl⟩ rfl rfl rfl rfl rfl (by kernel_rfl) Try.func9 (by kernel_rfl)
    (of_decide_eq_true (by kernel_rfl)) (by unfold Func.isWrapper; first | (rw [if_pos (by decide +kernel)]; kernel_rfl) | (rw [if_neg (by decide +kernel)]; exact ⟨rfl, rfl⟩))
    (fun os started H enc _ => lifted os started H enc)
theorem proved : Rows.IntervalOrderSaid := over
end Go.Proofs.Ytmecjjfpgjpeoaa.lawOrder
