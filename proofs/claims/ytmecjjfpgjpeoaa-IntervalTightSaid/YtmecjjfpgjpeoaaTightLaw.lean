
/-
IntervalTight: for every box and rows the law returns true and leaves its arguments as they were.
-/
import Derived.Test.YtmecjjfpgjpeoaaAwake
import Derived.Test.YtmecjjfpgjpeoaaIntOpen
import Derived.Test.YtmecjjfpgjpeoaaPlain3
namespace Go.Proofs.Ytmecjjfpgjpeoaa.lawTight
open Go.ChangeShapes Go.WideShapes Go.ChangeAt Go.RowKit

set_option maxRecDepth 8000 in
set_option maxHeartbeats 4000000 in
theorem walk (vb vr : Value) (b : List Rng) (rows : List Row) (w : World) (hb : Rngs w vb b) (hr : RowsL w vr rows) :
    Calls Try.prog 8 #[vb, vr] w fun e w' => e = .returned (.bool true) ∧ Kp w w' := by
  obtain ⟨A, c, rfl, hc, hm⟩ := hb.form
  obtain ⟨A', c', rfl, hc', hm'⟩ := hr.form
  go_enter Try.func8, Try.ntmps8
  go_wp2_with fail
  refine (awake_any _).mono ?_
  rintro e w1 ⟨rfl, hbel1⟩
  go_wp2_with fail
  refine (light_any _ _ b rows _ (hb.keep (pl_stable _) hbel1) (hr.keep rdRow_stable hbel1)).mono ?_
  rintro e w2 ⟨rfl, hk2⟩
  have hbel2 := (hbel1).trans hk2
  cases hl : lightB b rows with
  | false =>
    go_wp2
    go_ret
    exact ⟨rfl, hbel2⟩
  | true =>
    clear hl
    go_wp2_with fail
    refine (rValid_any _ _ b rows _ (hb.keep (pl_stable _) hbel2) (hr.keep rdRow_stable hbel2)).mono ?_
    rintro e w3 ⟨rfl, hk3⟩
    have hbel3 := (hbel2).trans hk3
    cases hV : validB b rows with
    | false =>
      go_wp2
      go_ret
      exact ⟨rfl, hbel3⟩
    | true =>
      have HV := hid hV
      clear hV
      go_wp2_with fail
      refine (Fix_any _ _ b rows _ (hb.keep (pl_stable _) hbel3) (hr.keep rdRow_stable hbel3)).mono ?_
      rintro e w4 ⟨v4, rfl, own4, hk4⟩
      have hbel4 := hbel3.trans hk4
      cases hF : fixB b rows with
      | none =>
        rw [hF] at own4
        have S4 := own4.sl encRng_len
        obtain ⟨A4, c4, rfl, hc4, hm4⟩ := S4.form
        dsimp only [Option.isSome_none, Option.getD_none, List.length_nil]
        clear own4 S4 hc4
        go_wp2
        go_ret
        exact ⟨rfl, hbel4⟩
      | some L =>
        rw [hF] at own4
        have S4 := own4.sl encRng_len
        dsimp only [Option.isSome_some, Option.getD_some] at S4 ⊢
        clear own4
        have HFF := hid (fix_fixed hF)
        have hlen : L.length = b.length := (fix_closed hF).2.2.2.1.1
        obtain ⟨A4, c4, rfl, hc4, hm4⟩ := S4.form
        rw [hlen] at hc4 S4 ⊢
        have HF := hid hF
        clear hF
        go_wp2_with fail
        refine (Fix_any _ _ L rows _ S4 (hr.keep rdRow_stable hbel4)).mono ?_
        rintro e w5 ⟨v5, rfl, own5, hk5⟩
        have hbel5 := hbel4.trans hk5
        rw [HFF.out] at own5 ⊢
        have S5 := own5.sl encRng_len
        dsimp only [Option.isSome_some, Option.getD_some] at S5 ⊢
        clear own5
        have S4 := S4.keep (pl_stable _) hk5
        go_wp2_with fail
        refine (EqualRange_any _ _ L L _ S4 S5).mono ?_
        rintro e w6 ⟨rfl, hk6⟩
        rw [(eqR_iff L L).2 rfl]
        have hbel6 := hbel5.trans hk6
        have S4 := S4.keep (pl_stable _) hk6
        clear S5 hk4 hk5 hk6 hbel1 hbel2 hbel3 hbel4 hbel5
        go_wp2
        go_loopw [64] (fun i wr => ∃ k : Nat, k ≤ b.length ∧ i = .int .i64 k ∧ Kp w6 wr) (fun i _ => b.length - (intOf i).toNat)
        case atStart => exact ⟨0, Nat.zero_le _, rfl, Kp.refl _⟩
        case round =>
          obtain ⟨k, hk, rfl, hbel⟩ := hrel
          have hbelw := hbel6.trans hbel
          by_cases hlt : k < b.length
          · have hltL : k < L.length := by omega
            obtain ⟨g, o, rfl, hg, y1', y2'⟩ := S4.rng hltL
            have y1 := hbel.cellS y1'
            have y2 := hbel.cellS y2'
            obtain ⟨g0, o0, rfl, hg0, z1', z2'⟩ := hb.rng hlt
            have z1 := hbelw.cellS z1'
            have z2 := hbelw.cellS z2'
            have HFn := hid (fix_closed HF.out).2.2.2.1
            have HSub := hid (fix_closed HF.out).2.2.2.2.1
            have h1 : L[k].lo ≤ L[k].hi := HFn.out.2.2 _ (List.getElem_mem hltL)
            have h2 : b[k].lo ≤ L[k].lo ∧ L[k].hi ≤ b[k].hi := by
              have := HSub.out.2 k hlt
              rw [pick_at b k hlt, pick_at L k hltL] at this
              exact this
            have HS := hid (fun e (e1 : L[k].lo ≤ e) (e2 : e ≤ L[k].hi) r (hrr : r ∈ rows) => sum_end HF.out hltL (e := e) (by rw [pick_at L k hltL]; exact e1) (by rw [pick_at L k hltL]; exact e2) hrr)
            have lg : g < wr.heap.size := by have := hbel.size; omega
            have lg0 : g0 < wr.heap.size := by have := hbelw.size; omega
            have q1 : (0 : Int) ≤ k := by omega
            have q2 : (k : Int) < b.length := by omega
            clear y1' y2' z1' z2' HFn HSub
            generalize L[k] = x at *
            generalize b[k] = s at *
            obtain ⟨xl, xh⟩ := x
            obtain ⟨sl, sh⟩ := s
            dsimp only at y1 y2 z1 z2 h1 h2 HS
            obtain ⟨h2, h3⟩ := h2
            have d1 : decide (xl > xh) = false := by simp; omega
            have d2 : decide (xh < xl) = false := by simp; omega
            have d3 : decide (xl < sl) = false := by simp; omega
            have d4 : decide (xh > sh) = false := by simp; omega
            have d5 : decide (sh < xh) = false := by simp; omega
            go_wp2
            have kA := (Kp.refl wr).alloc (.cells #[.int .i64 xl, .int .i64 xh] 27)
            have x0 := alloc_cell wr #[.int .i64 xl, .int .i64 xh] 27 0 rfl
            have x1 := alloc_cell wr #[.int .i64 xl, .int .i64 xh] 27 1 rfl
            have x2 := alloc_lt wr (.cells #[.int .i64 xl, .int .i64 xh] 27)
            have z1 := kA.cellS z1
            have z2 := kA.cellS z2
            have lg2 : g0 < (wr.alloc (.cells #[.int .i64 xl, .int .i64 xh] 27)).heap.size := by omega
            have hbel3 := hbel.trans kA
            clear kA y1 y2
            generalize wr.alloc (.cells #[.int .i64 xl, .int .i64 xh] 27) = w3 at *
            refine wp_region_kw (by kernel_rfl) (by kernel_rfl) ?_
            repeat (go_big_quiet_step ((fail)))
            refine wpQuiet_nil ?_
            intro _ hw'
            obtain ⟨u, hw''⟩ := hw'
            subst hw''
            have x0 := (kw_kp w3 u).cellS x0
            have x1 := (kw_kp w3 u).cellS x1
            have x2 : wr.heap.size < (Kw w3 u).heap.size := by have := (kw_kp w3 u).size; omega
            have hbel4 := hbel3.trans (kw_kp w3 u)
            clear z1 z2 lg2 d1 d2 d3 d4 d5 hbel3
            generalize Kw w3 u = w4 at *
            generalize wr.heap.size = hp at *
            go_wp2
            have kA := (Kp.refl w4).alloc (.cells #[.int .i64 xl, .int .i64 xh] 3)
            have e0 := alloc_cell w4 #[.int .i64 xl, .int .i64 xh] 3 0 rfl
            have e1 := alloc_cell w4 #[.int .i64 xl, .int .i64 xh] 3 1 rfl
            have e2 := alloc_lt w4 (.cells #[.int .i64 xl, .int .i64 xh] 3)
            have hbel5 := hbel4.trans kA
            clear kA x0 x1
            generalize w4.alloc (.cells #[.int .i64 xl, .int .i64 xh] 3) = w5 at *
            generalize w4.heap.size = he at *
            go_loopw [100] (fun i wr => ∃ k2 : Nat, k2 ≤ 2 ∧ i = .int .i64 k2 ∧ Kp w5 wr) (fun i _ => 2 - (intOf i).toNat)
            case atStart => exact ⟨0, Nat.zero_le _, rfl, Kp.refl _⟩
            case round =>
              obtain ⟨k2, hk2, rfl, hbel7⟩ := hrel
              have hbel8 := hbel6.trans (hbel5.trans hbel7)
              by_cases hlt2 : k2 < 2
              · obtain ⟨en, hen, hen1, hen2⟩ : ∃ en, w5.cell? ⟨he, k2, none⟩ = some (.int .i64 en) ∧ xl ≤ en ∧ en ≤ xh := by
                  have : k2 = 0 ∨ k2 = 1 := by omega
                  rcases this with rfl | rfl
                  · exact ⟨xl, e0, Int.le_refl _, h1⟩
                  · exact ⟨xh, e1, h1, Int.le_refl _⟩
                have hen' := hbel7.cellS hen
                have le2 : he < wr.heap.size := by have := hbel7.size; omega
                have HS2 := hid (fun r hrr => HS.out en hen1 hen2 r hrr)
                clear hen hen1 hen2
                go_wp2_with fail
                refine (rWith_any _ L k en en _ ((S4.keep (pl_stable _) hbel5).keep (pl_stable _) hbel7) (by have := (validB_ok HV.out).2.1; omega)).mono ?_
                rintro e w7 ⟨v7, rfl, own7, hk7⟩
                have S7 := own7.sl encRng_len
                have hbel9 := hbel7.trans hk7
                have hbel10 := hbel8.trans hk7
                clear own7 hen' hk7 hbel8
                generalize withL L k ⟨en, en⟩ = M at *
                obtain ⟨A7, c7, rfl, hc7, hm7⟩ := S7.form
                go_wp2
                go_loopw [112] (fun i wr => ∃ k3 : Nat, k3 ≤ rows.length ∧ i = .int .i64 k3 ∧ Kp w7 wr) (fun i _ => rows.length - (intOf i).toNat)
                case atStart => exact ⟨0, Nat.zero_le _, rfl, Kp.refl _⟩
                case round =>
                  obtain ⟨k3, hk3, rfl, hbel11⟩ := hrel
                  have hbel12 := hbel10.trans hbel11
                  by_cases hlt3 : k3 < rows.length
                  · obtain ⟨g9, o9, A9, c9, rfl, hg9, r1', r2', rt⟩ := hr.row hlt3
                    have r1 := hbel12.cellS r1'
                    have r2 := hbel12.cellS r2'
                    have HS3 := hid (HS2.out _ (List.getElem_mem hlt3))
                    clear r1' r2'
                    generalize rows[k3] = r at *
                    obtain ⟨ts, bd⟩ := r
                    dsimp only at r1 r2 rt HS3
                    have lg9 : g9 < wr.heap.size := by have := hbel12.size; omega
                    go_wp2_with fail
                    have kA := (Kp.refl wr).alloc (.cells #[.slice A9 ts.length c9, .int .i64 bd] 41)
                    have t0 := alloc_cell wr #[.slice A9 ts.length c9, .int .i64 bd] 41 0 rfl
                    have t1 := alloc_cell wr #[.slice A9 ts.length c9, .int .i64 bd] 41 1 rfl
                    have t2 := alloc_lt wr (.cells #[.slice A9 ts.length c9, .int .i64 bd] 41)
                    refine (Sum_any _ _ ⟨ts, bd⟩ M _ (rt.keep (pl_stable _) (hbel12.trans kA)) (S7.keep (pl_stable _) (hbel11.trans kA))).mono ?_
                    rintro e w8 ⟨rfl, hk8⟩
                    have hbel13 := ((hbel11.trans kA)).trans hk8
                    have t1 := hk8.cellS t1
                    have t3 : wr.heap.size < w8.heap.size := by have := hk8.size; omega
                    have HS4 := HS3.out
                    clear t0 t2 kA r1 r2 lg9 hk8
                    generalize (sumB ⟨ts, bd⟩ M).1 = lw at *
                    generalize (sumB ⟨ts, bd⟩ M).2 = hi at *
                    have f1 : decide (lw > bd) = false := by simp; omega
                    have f2 : decide (bd < lw) = false := by simp; omega
                    go_wp2
                    go_roundw
                    case rel => exact ⟨k3 + 1, by omega, by go_num, hbel13⟩
                    case measure => simp [intOf]; omega
                  · go_wp2
                    go_roundw
                    case rel => exact ⟨k2 + 1, by omega, by go_num, hbel9.trans hbel11⟩
                    case measure => simp [intOf]; omega
              · have d6 : decide ((k2 : Int) < 2) = false := by simp; omega
                clear hk2 hlt2
                generalize (k2 : Int) = z at *
                clear HS h1 h2 h3 e0 e1
                go_wp2
                go_roundw
                case rel => exact ⟨k + 1, by omega, by go_num, hbel5.trans hbel7⟩
                case measure => simp [intOf]; omega
          · go_wp2
            go_ret
            exact ⟨rfl, hbelw⟩

theorem own : ownKnob Try.prog.godebug = none := by kernel_rfl
theorem laidOut : laidOutB Try.prog = true := by kernel_rfl
set_option maxRecDepth 100000 in
theorem lifted (os : Os) (started : os.Started) (H : Type) (enc : TypeId × Value → H) :
    ReturnsInHanded {} Try.checked os 8 .any (Rows.intervalTightSpec.pre6 enc Try.prog Try.f8 Rows.intervalTightRow.domain false) (Rows.intervalTightSpec.post enc Try.prog Try.f8 false true false false) := by
  refine returnsInHanded_of_change (C := Try.checked) own started (by kernel_rfl) Try.func8
    (ChangeSpec.witness6 (enc := enc) (C := Try.checked) false ⟨#[], #[.slice none 0 0, .slice none 0 0], []⟩ 8 (by kernel_rfl) (by kernel_rfl) (by kernel_rfl) (by kernel_rfl)) ?_
  intro W base args ds gs before hval0 hW hcnd _
  have hval : ∀ (j : Nat) t v, Try.f8.params[j]? = some t → args[j]? = some v → Value.okWide Try.prog W .any base t v := hval0
  have hW' := hW
  obtain ⟨p, q, hA0, hV, rfl, hfz, hnd⟩ := hW
  have hA : DataW.TrodAll enc Try.prog W 0 (fun _ => true) true Try.f8.params.toList args.toList ds p := hA0
  rw [Try.params8] at hA hval
  obtain ⟨v0, vs0, d0, ds0, p0, q0, hargs, rfl, rfl, h0, r0⟩ := trodAll_cons hA
  obtain ⟨v1, vs1, d1, ds1, p1, q1, rfl, rfl, rfl, h1, r1⟩ := trodAll_cons r0
  obtain ⟨rfl, rfl, rfl⟩ := trodAll_nil r1
  obtain rfl : args = #[v0, v1] := by cases args; simp_all
  obtain ⟨rfl, rfl⟩ := trodVars_none hV
  have lt0 : ∀ x ∈ p0, x.block < W.heap.size := by obtain ⟨m, hm⟩ := h0; exact DataW.trod_lt m _ _ _ hm
  have lt1 : ∀ x ∈ p1, x.block < W.heap.size := by obtain ⟨m, hm⟩ := h1; exact DataW.trod_lt m _ _ _ hm
  obtain ⟨a0, len0, cap0, rfl⟩ := okWide_slice Try.underlying22 (hval 0 22 v0 rfl rfl)
  obtain ⟨n0, hn0⟩ := trod_slice_value h0
  obtain ⟨x0, hx0⟩ := opRngs hn0
  obtain ⟨a1, len1, cap1, rfl⟩ := okWide_slice Try.underlying23 (hval 1 23 v1 rfl rfl)
  obtain ⟨n1, hn1⟩ := trod_slice_value h1
  obtain ⟨x1, hx1⟩ := opRows hn1
  clear hA0 hval0
  refine (walk _ _ x0 x1 W hx0 hx1).mono fun e W' ⟨he, bel⟩ => ?_
  subst he
  exact ⟨_, rfl, _, _, _, [], _, [], hW', trodAll_mk1 (shut_bool Try.underlying4 _), (trodAll_cons_mk (Below.trod laidOut (by kernel_rfl) (of_decide_eq_true (by kernel_rfl)) h0 bel lt0) (trodAll_cons_mk (Below.trod laidOut (by kernel_rfl) (of_decide_eq_true (by kernel_rfl)) h1 bel lt1) trodAll_mk0)), rfl, Below.frame bel _, fun h => by cases h⟩
theorem over : Rows.intervalTightRow.holds Try.pinned (OpenSpec.ofChange Rows.intervalTightSpec) :=
  OpenClaim.holds_of_wide 8 Try.f8 rfl rfl rfl rfl rfl rfl rfl ⟨rfl, rfl, rfl, rfl, rfl⟩ rfl rfl rfl rfl rfl (by kernel_rfl) Try.func8 (by kernel_rfl)
    (of_decide_eq_true (by kernel_rfl)) (by unfold Func.isWrapper; first | (rw [if_pos (by decide +kernel)]; kernel_rfl) | (rw [if_neg (by decide +kernel)]; exact ⟨rfl, rfl⟩))
    (fun os started H enc _ => lifted os started H enc)
theorem proved : Rows.IntervalTightSaid := over
end Go.Proofs.Ytmecjjfpgjpeoaa.lawTight
