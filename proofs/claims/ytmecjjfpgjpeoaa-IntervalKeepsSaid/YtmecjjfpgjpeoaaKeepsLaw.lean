
/-
IntervalKeeps: for every box, rows and values the law returns true and leaves its arguments as they were.
-/
import Derived.Test.YtmecjjfpgjpeoaaAwake
import Derived.Test.YtmecjjfpgjpeoaaIntOpen
import Derived.Test.YtmecjjfpgjpeoaaPlain2
namespace Go.Proofs.Ytmecjjfpgjpeoaa.lawKeeps
open Go.ChangeShapes Go.WideShapes Go.ChangeAt Go.RowKit

/-- a premise that no rewriting drops -/
def Imp (d : Bool) (p : Prop) : Prop := d = true → p

set_option maxHeartbeats 4000000 in
theorem walk (vb vr vv : Value) (b : List Rng) (rows : List Row) (vs : List Int) (w : World) (hb : Rngs w vb b) (hr : RowsL w vr rows) (hv : Ints w vv vs) :
    Calls Try.prog 7 #[vb, vr, vv] w fun e w' => e = .returned (.bool true) ∧ Kp w w' := by
  obtain ⟨A, c, rfl, hc, hm⟩ := hb.form
  obtain ⟨A', c', rfl, hc', hm'⟩ := hr.form
  obtain ⟨A2, c2, rfl, hc2, hm2⟩ := hv.form
  go_enter Try.func7, Try.ntmps7
  go_wp2_with fail
  refine (awake_any _).mono ?_
  rintro e w1 ⟨rfl, hbel1⟩
  go_wp2_with fail
  refine (light_any _ _ b rows _ (hb.keep (pl_stable _) hbel1) (hr.keep rdRow_stable hbel1)).mono ?_
  rintro e w2 ⟨rfl, hk2⟩
  have hbel2 := (hbel1).trans hk2
  cases hl : lightB b rows with
  | false =>
    go_wp2
    go_ret
    exact ⟨rfl, hbel2⟩
  | true =>
    clear hl
    go_wp2_with fail
    refine (rValid_any _ _ b rows _ (hb.keep (pl_stable _) hbel2) (hr.keep rdRow_stable hbel2)).mono ?_
    rintro e w3 ⟨rfl, hk3⟩
    have hbel3 := (hbel2).trans hk3
    cases hV : validB b rows with
    | false =>
      go_wp2
      go_ret
      exact ⟨rfl, hbel3⟩
    | true =>
      have HV := hid hV
      clear hV
      go_wp2_with fail
      refine (rContains_any _ _ b vs _ (hb.keep (pl_stable _) hbel3) (hv.keep (pl_stable _) hbel3)).mono ?_
      rintro e w4 ⟨rfl, hk4⟩
      have hbel4 := (hbel3).trans hk4
      cases hC : containsB b vs with
      | false =>
        go_wp2
        go_ret
        exact ⟨rfl, hbel4⟩
      | true =>
        have HC := hid hC
        clear hC
        have HL : Hid (b.length = vs.length) := hid (not_badV HC.out).1
        go_wp2
        go_loopw [36, 7] (fun i al wr => ∃ (k : Nat) (a : Bool), k ≤ rows.length ∧ i = .int .i64 k ∧ al = .bool a ∧ Hid (Imp a (∀ j : Nat, ∀ hj : j < rows.length, j < k → valueL vs 0 rows[j].terms ≤ rows[j].bound)) ∧ Kp w wr) (fun i _ _ => rows.length - (intOf i).toNat)
        case atStart => exact ⟨0, true, Nat.zero_le _, rfl, rfl, hid (fun _ j _ hj => by omega), hbel4⟩
        case round =>
          clear hbel4 hk4 hk3 hk2
          obtain ⟨k, a, hk, rfl, rfl, HA, hbel⟩ := hrel
          by_cases hlt : k < rows.length
          · obtain ⟨g9, o9, A9, c9, rfl, hg9, r1', r2', rt⟩ := hr.row hlt
            have r1 := hbel.cellS r1'
            have r2 := hbel.cellS r2'
            have HV1 := hid (valid_one HV.out (List.getElem_mem hlt))
            have HF := hid ((validB_ok HV.out).2.2 _ (List.getElem_mem hlt))
            have H128 := hid (validB_ok HV.out).2.1
            have HA' : ∀ d : Bool, (d = true → valueL vs 0 rows[k].terms ≤ rows[k].bound) → Hid (Imp (a && d) (∀ j : Nat, ∀ hj : j < rows.length, j < k + 1 → valueL vs 0 rows[j].terms ≤ rows[j].bound)) := fun d hd => hid (fun (h : (a && d) = true) j hj hjk => by
              rw [Bool.and_eq_true] at h
              by_cases he : j = k
              · subst he; exact hd h.2
              · exact HA.out h.1 j hj (by omega))
            clear r1' r2'
            generalize rows[k] = r at *
            obtain ⟨ts, bd⟩ := r
            dsimp only at r1 r2 rt HA'
            have lg9 : g9 < wr.heap.size := by have := hbel.size; omega
            have htl : ts.length ≤ 128 := by have h1 := (fitsB_ok HF.out).2.1; have h2 := H128.out; dsimp only at h1; omega
            have hok : Hid (∀ t ∈ ts, okT vs.length t) := hid (fun t ht => by rw [← HL.out]; exact (fits_all HF.out t ht).1)
            have hvs := hid (okV_of HV.out HC.out)
            go_wp2
            have kA := (Kp.refl wr).alloc (.cells #[.slice A9 ts.length c9, .int .i64 bd] 41)
            have x0 := alloc_cell wr #[.slice A9 ts.length c9, .int .i64 bd] 41 0 rfl
            have x1 := alloc_cell wr #[.slice A9 ts.length c9, .int .i64 bd] 41 1 rfl
            have x2 := alloc_lt wr (.cells #[.slice A9 ts.length c9, .int .i64 bd] 41)
            have hbel3 := hbel.trans kA
            clear kA r1 r2 lg9
            generalize hw3 : wr.alloc (.cells #[.slice A9 ts.length c9, .int .i64 bd] 41) = w3 at *
            have HC1 := hid (fun u => rValue_any _ _ ts bd vs (Kw w3 u) (rt.keep (pl_stable _) (hbel3.trans (kw_kp _ _))) (hv.keep (pl_stable _) (hbel3.trans (kw_kp _ _))) hok.out hvs.out htl)
            have HT := hid (fun (h : valueL vs 0 ts ≤ bd) j hj => keeps_tight (r := ⟨ts, bd⟩) HV1.out HC.out h j hj)
            clear HV1 HF H128
            generalize valueL vs 0 ts = V at *
            refine wp_region_kw (by kernel_rfl) (by kernel_rfl) ?_
            repeat (go_big_quiet_step ((first | (go_at_call 35; exact quiet_kw (HC1.out _)))))
            refine wpQuiet_nil ?_
            intro _ hw'
            obtain ⟨u, hw''⟩ := hw'
            subst hw''
            have hbel4 := hbel3.trans (kw_kp w3 u)
            have y0 := (kw_kp w3 u).cellS x0
            have y1 := (kw_kp w3 u).cellS x1
            have y2 : wr.heap.size < (Kw w3 u).heap.size := by have := (kw_kp w3 u).size; omega
            clear x0 x1 x2 HC1 hw3
            generalize Kw w3 u = w4 at *
            have HA2 := HA' (decide (V ≤ bd)) (fun h => by simpa using h)
            have HT2 : Hid (Imp (decide (V ≤ bd)) (∀ j : Nat, j < vs.length → (tightenB ⟨ts, bd⟩ b j).lo ≤ vs.getD j 0 ∧ vs.getD j 0 ≤ (tightenB ⟨ts, bd⟩ b j).hi)) := hid (fun (h : decide (V ≤ bd) = true) => HT.out (by simpa using h))
            clear HA' HT
            generalize decide (V ≤ bd) = d at *
            generalize wr.heap.size = hp at *
            cases a <;> cases d <;> go_wp2 <;>
            · go_loopw [52] (fun i wr => ∃ k2 : Nat, k2 ≤ vs.length ∧ i = .int .i64 k2 ∧ Kp w4 wr) (fun i _ => vs.length - (intOf i).toNat)
              case atStart => exact ⟨0, Nat.zero_le _, rfl, Kp.refl _⟩
              case round =>
                obtain ⟨k2, hk2, rfl, hbel5⟩ := hrel
                have hbel6 := hbel4.trans hbel5
                by_cases hlt2 : k2 < vs.length
                · obtain ⟨g', o', rfl, hg', h3'⟩ := hv.ints hlt2
                  have h3 := hbel6.cellS h3'
                  have z0 := hbel5.cellS y0
                  have z1 := hbel5.cellS y1
                  have HG : Hid (vs.getD k2 0 = vs[k2]) := hid (by simp [List.getD, hlt2])
                  have z2 : hp < wr.heap.size := by have := hbel5.size; omega
                  go_wp2_with fail
                  refine (Tighten_any _ _ ⟨ts, bd⟩ b k2 _ (rt.keep (pl_stable _) hbel6) (hb.keep (pl_stable _) hbel6)).mono ?_
                  rintro e w7 ⟨rfl, hk7⟩
                  have hbel7 := (hbel5).trans hk7
                  have HT3 := hid (fun h => HT2.out h k2 hlt2)
                  rw [HG.out] at HT3
                  clear h3 h3' hbel6 z0 z1
                  generalize vs[k2] = n at *
                  generalize tightenB ⟨ts, bd⟩ b k2 = y at *
                  obtain ⟨yl, yh⟩ := y
                  first
                  | (have e1 := HT3.out rfl
                     dsimp only at e1
                     have e2 : decide (n < yl) = false := by simp; omega
                     have e3 : decide (yh < n) = false := by simp; omega
                     have e4 : decide (n > yh) = false := by simp; omega
                     go_wp2
                     go_roundw
                     case rel => exact ⟨k2 + 1, by omega, by go_num, hbel7.alloc _⟩
                     case measure => simp [intOf]; omega)
                  | (go_wp2
                     go_roundw
                     case rel => exact ⟨k2 + 1, by omega, by go_num, hbel7.alloc _⟩
                     case measure => simp [intOf]; omega)
                · go_wp2
                  go_roundw
                  case rel => exact ⟨k + 1, _, by omega, by go_num, rfl, HA2, hbel4.trans hbel5⟩
                  case measure => simp [intOf]; omega
          · cases a with
            | false =>
              go_wp2_with fail
              refine (Fix_any _ _ b rows _ (hb.keep (pl_stable _) hbel) (hr.keep rdRow_stable hbel)).mono ?_
              rintro e w5 ⟨v5, rfl, own5, hk5⟩
              generalize (fixB b rows).isSome = x at *
              go_wp2
              go_ret
              exact ⟨rfl, hbel.trans hk5⟩
            | true =>
              obtain ⟨L, hL1, hL2⟩ := keeps_fix HV.out HC.out (fun r hr => by
                obtain ⟨j, hj, rfl⟩ := List.getElem_of_mem hr
                exact HA.out rfl j hj (by omega))
              go_wp2_with fail
              refine (Fix_any _ _ b rows _ (hb.keep (pl_stable _) hbel) (hr.keep rdRow_stable hbel)).mono ?_
              rintro e w5 ⟨v5, rfl, own5, hk5⟩
              rw [hL1]
              rw [hL1] at own5
              have hbel5 := hbel.trans hk5
              have S5 := own5.sl encRng_len
              dsimp only [Option.isSome_some, Option.getD_some] at S5 ⊢
              clear own5 hL1
              go_wp2_with fail
              refine (Contains_any _ _ L vs _ S5 (hv.keep (pl_stable _) hbel5)).mono ?_
              rintro e w6 ⟨rfl, hk6⟩
              have hbel6 := (hbel5).trans hk6
              rw [hL2]
              go_wp2
              go_ret
              exact ⟨rfl, hbel6⟩

theorem own : ownKnob Try.prog.godebug = none := by kernel_rfl
theorem laidOut : laidOutB Try.prog = true := by kernel_rfl
set_option maxRecDepth 100000 in
theorem lifted (os : Os) (started : os.Started) (H : Type) (enc : TypeId × Value → H) :
    ReturnsInHanded {} Try.checked os 7 .any (Rows.intervalKeepsSpec.pre6 enc Try.prog Try.f7 Rows.intervalKeepsRow.domain false) (Rows.intervalKeepsSpec.post enc Try.prog Try.f7 false true false false) := by
  refine returnsInHanded_of_change (C := Try.checked) own started (by kernel_rfl) Try.func7
    (ChangeSpec.witness6 (enc := enc) (C := Try.checked) false ⟨#[], #[.slice none 0 0, .slice none 0 0, .slice none 0 0], []⟩ 8 (by kernel_rfl) (by kernel_rfl) (by kernel_rfl) (by kernel_rfl)) ?_
  intro W base args ds gs before hval0 hW hcnd _
  have hval : ∀ (j : Nat) t v, Try.f7.params[j]? = some t → args[j]? = some v → Value.okWide Try.prog W .any base t v := hval0
  have hW' := hW
  obtain ⟨p, q, hA0, hV, rfl, hfz, hnd⟩ := hW
  have hA : DataW.TrodAll enc Try.prog W 0 (fun _ => true) true Try.f7.params.toList args.toList ds p := hA0
  rw [Try.params7] at hA hval
  obtain ⟨v0, vs0, d0, ds0, p0, q0, hargs, rfl, rfl, h0, r0⟩ := trodAll_cons hA
  obtain ⟨v1, vs1, d1, ds1, p1, q1, rfl, rfl, rfl, h1, r1⟩ := trodAll_cons r0
  obtain ⟨v2, vs2, d2, ds2, p2, q2, rfl, rfl, rfl, h2, r2⟩ := trodAll_cons r1
  obtain ⟨rfl, rfl, rfl⟩ := trodAll_nil r2
  obtain rfl : args = #[v0, v1, v2] := by cases args; simp_all
  obtain ⟨rfl, rfl⟩ := trodVars_none hV
  have lt0 : ∀ x ∈ p0, x.block < W.heap.size := by obtain ⟨m, hm⟩ := h0; exact DataW.trod_lt m _ _ _ hm
  have lt1 : ∀ x ∈ p1, x.block < W.heap.size := by obtain ⟨m, hm⟩ := h1; exact DataW.trod_lt m _ _ _ hm
  have lt2 : ∀ x ∈ p2, x.block < W.heap.size := by obtain ⟨m, hm⟩ := h2; exact DataW.trod_lt m _ _ _ hm
  obtain ⟨a0, len0, cap0, rfl⟩ := okWide_slice Try.underlying22 (hval 0 22 v0 rfl rfl)
  obtain ⟨n0, hn0⟩ := trod_slice_value h0
  obtain ⟨x0, hx0⟩ := opRngs hn0
  obtain ⟨a1, len1, cap1, rfl⟩ := okWide_slice Try.underlying23 (hval 1 23 v1 rfl rfl)
  obtain ⟨n1, hn1⟩ := trod_slice_value h1
  obtain ⟨x1, hx1⟩ := opRows hn1
  obtain ⟨a2, len2, cap2, rfl⟩ := okWide_slice Try.underlying24 (hval 2 24 v2 rfl rfl)
  obtain ⟨n2, hn2⟩ := trod_slice_value h2
  obtain ⟨x2, hx2⟩ := opInts hn2
  clear hA0 hval0
  refine (walk _ _ _ x0 x1 x2 W hx0 hx1 hx2).mono fun e W' ⟨he, bel⟩ => ?_
  subst he
  exact ⟨_, rfl, _, _, _, [], _, [], hW', trodAll_mk1 (shut_bool Try.underlying4 _), (trodAll_cons_mk (Below.trod laidOut (by kernel_rfl) (of_decide_eq_true (by kernel_rfl)) h0 bel lt0) (trodAll_cons_mk (Below.trod laidOut (by kernel_rfl) (of_decide_eq_true (by kernel_rfl)) h1 bel lt1) (trodAll_cons_mk (Below.trod laidOut (by kernel_rfl) (of_decide_eq_true (by kernel_rfl)) h2 bel lt2) trodAll_mk0))), rfl, Below.frame bel _, fun h => by cases h⟩
theorem over : Rows.intervalKeepsRow.holds Try.pinned (OpenSpec.ofChange Rows.intervalKeepsSpec) :=
  OpenClaim.holds_of_wide 7 Try.f7 rfl rfl rfl rfl rfl rfl rfl ⟨rfl, rfl, rfl, rfl, rfl⟩ rfl rfl rfl rfl rfl (by kernel_rfl) Try.func7 (by kernel_rfl)
    (of_decide_eq_true (by kernel_rfl)) (by unfold Func.isWrapper; first | (rw [if_pos (by decide +kernel)]; kernel_rfl) | (rw [if_neg (by decide +kernel)]; exact ⟨rfl, rfl⟩))
    (fun os started H enc _ => lifted os started H enc)
theorem proved : Rows.IntervalKeepsSaid := over
end Go.Proofs.Ytmecjjfpgjpeoaa.lawKeeps
