
/-
SearchSplits: for every system the law returns true and leaves its argument as it was.
-/
import Derived.Test.YtlbhidiliogflaaSfR
import Derived.Test.YtlbhidiliogflaaSysOpen
import Derived.Laws.EntriesVeiled
namespace Go.Proofs.Ytlbhidiliogflaa.lawSplits20
set_option linter.unusedSimpArgs false
set_option linter.unusedVariables false
open Go.ChangeShapes Go.WideShapes Go.ChangeAt Go.RowKit

set_option maxRecDepth 10000 in
set_option maxHeartbeats 8000000 in
theorem walk (va : Value) (s : Sys) (w : World) (hs : SysV w va s) :
    Calls Try.prog 7 #[va] w fun e w' => e = .returned (.bool true) ∧ Kp w w' := by
  have hs' := hs
  obtain ⟨Ab, cb, Ar, cr, Ag, cg, Ac, cc, rfl, hb, hr, hg, hc⟩ := hs'
  obtain ⟨l1, m1⟩ := hb.caps
  obtain ⟨l2, m2⟩ := hr.caps
  obtain ⟨l3, m3⟩ := hg.caps
  obtain ⟨l4, m4⟩ := hc.caps
  have K := (Kp.refl w).alloc (.cells #[.slice Ab s.box.length cb, .slice Ar s.rows.length cr, .slice Ag s.graphs.length cg, .slice Ac s.cases.length cc] 27)
  have B := SysB.new w #[.slice Ab s.box.length cb, .slice Ar s.rows.length cr, .slice Ag s.graphs.length cg, .slice Ac s.cases.length cc] 27
  have BB := Bx.new w #[.slice Ab s.box.length cb, .slice Ar s.rows.length cr, .slice Ag s.graphs.length cg, .slice Ac s.cases.length cc] 27
  go_enter Try.func7, Try.ntmps7
  go_wp2_with fail
  generalize w.alloc (.cells #[.slice Ab s.box.length cb, .slice Ar s.rows.length cr, .slice Ag s.graphs.length cg, .slice Ac s.cases.length cc] 27) = w0 at *
  generalize hb0 : w.heap.size = b0 at *
  replace hb0 := hid hb0
  have hbl0 := BB.lt (by simp)
  refine (awake20_any _).mono ?_
  rintro e w1 ⟨rfl, k1⟩
  replace B := B.keep k1
  replace K := K.trans k1
  have K2 := k1
  clear k1
  obtain ⟨s0, s1, s2, s3⟩ := B.cells
  have hgl := block_lt_of_cell s0
  go_wp2_with fail
  refine (lawFew_any _ s 2000 _ (hs.keep K)).mono ?_
  rintro e w2 ⟨rfl, k2⟩
  clear s0 s1 s2 s3 hgl
  replace B := B.keep k2
  replace K := K.trans k2
  replace K2 := K2.trans k2
  obtain ⟨s0, s1, s2, s3⟩ := B.cells
  have hgl := block_lt_of_cell s0
  cases hF : fewL s 2000 with
  | false =>
    clear hF
    go_wp2
    go_ret
    exact ⟨rfl, K⟩
  | true =>
    clear hF
    go_wp2_with fail
    refine (qValid_any _ s _ (hs.keep K)).mono ?_
    rintro e w3 ⟨rfl, k3⟩
    clear s0 s1 s2 s3 hgl
    replace B := B.keep k3
    replace K := K.trans k3
    replace K2 := K2.trans k3
    obtain ⟨s0, s1, s2, s3⟩ := B.cells
    have hgl := block_lt_of_cell s0
    cases hV : validS s with
    | false =>
      clear hV
      go_wp2
      go_ret
      exact ⟨rfl, K⟩
    | true =>
      obtain ⟨R, hR⟩ : ∃ R, findR s 65536 = R := ⟨_, rfl⟩
      obtain ⟨⟨kd, ce, vs, t, sp⟩, er⟩ := R
      have hR2 := hR
      rw [show (65536 : Int) = ((65536 : Nat) : Int) from rfl, findR_at hV 65536 (Nat.le_refl _)] at hR2
      obtain rfl : er = 0 := (congrArg Prod.snd hR2).symm
      have hT : kd = 1 → RT s 65537 t true 0 := by
        intro hk
        have h1 := congrArg Prod.fst hR2
        dsimp only at h1
        cases hF : rootF s 65536 with
        | out => rw [hF] at h1; simp only [ansF, Ans.mk.injEq] at h1; omega
        | sol vs' i c => rw [hF] at h1; simp only [ansF, Ans.mk.injEq] at h1; omega
        | ref t' c =>
          rw [hF] at h1
          simp only [ansF, Ans.mk.injEq] at h1
          rw [← h1.2.2.2.1]
          exact root_tree hV hF
      have HR := hid hR
      replace hT := hid hT
      clear hR hR2 hV
      go_wp2_with fail
      refine (Find_form _ s 65536 w3 (hs.keep K) kd ce sp 0 vs t HR.out).mono ?_
      rintro e w4 ⟨Ax, cx, p0, A1, n1, c1, p2, p3, A4, n4, c4, rfl, hA, -, -, kc⟩
      have BX := Bx.new w4 #[.int .i64 kd, .int .i64 ce, .slice Ax vs.length cx, .int .i64 p0, .slice A1 n1 c1, .int .i64 p2, .int .i64 p3, .slice A4 n4 c4, .int .i64 sp] 48
      have kb := (Kp.refl w4).alloc (.cells #[.int .i64 kd, .int .i64 ce, .slice Ax vs.length cx, .int .i64 p0, .slice A1 n1 c1, .int .i64 p2, .int .i64 p3, .slice A4 n4 c4, .int .i64 sp] 48)
      have k34 := kc.trans kb
      obtain ⟨N, hN⟩ : ∃ N, rdTr N w4 [.int .i64 p0, .slice A1 n1 c1, .int .i64 p2, .int .i64 p3, .slice A4 n4 c4] t := by
        obtain ⟨vv, y0, y1, y2, y3, y4, e, hv, ht⟩ := hA
        simp only [List.cons.injEq, and_true] at e
        obtain ⟨-, -, -, rfl, rfl, rfl, rfl, rfl, -⟩ := e
        exact ⟨_, ht⟩
      replace hN := hid (rdTr_stable N _ _ _ _ kb hN)
      clear hA
      go_upto_region 6 with (fail)
      generalize w4.alloc (.cells #[.int .i64 kd, .int .i64 ce, .slice Ax vs.length cx, .int .i64 p0, .slice A1 n1 c1, .int .i64 p2, .int .i64 p3, .slice A4 n4 c4, .int .i64 sp] 48) = w5 at *
      obtain ⟨tx, htx⟩ : ∃ tx, tx = w4.heap.size := ⟨_, rfl⟩
      rw [← htx] at BX ⊢
      replace htx := hid htx
      clear kc kb
      clear s0 s1 s2 s3 hgl
      replace B := B.keep k34
      replace K := K.trans k34
      replace K2 := K2.trans k34
      obtain ⟨s0, s1, s2, s3⟩ := B.cells
      have hgl := block_lt_of_cell s0
      have x0 := BX.cell (j := 0) rfl
      have hxl := BX.lt (by simp)
      by_cases hk : kd = 1
      · subst hk
        have hcf := fun args w => right_real.run args w
        have hmf : ∀ (fn : Fn) (first cap : Array Value) (w : World), (Instr.makeFunc fn first cap).run Try.prog w = .ok (.func fn first cap) w := fun _ _ _ _ => rfl
        have B3 := Bx.new w5 #[.nilFunc] 67
        have k3 := (Kp.refl w5).alloc (.cells #[.nilFunc] 67)
        have BX6 := BX.kp k3 hxl
        have BB6 := BB.kp (K2.trans k3) hbl0
        have K6 := K.trans k3
        have hN6 := hid (rdTr_stable N _ _ _ _ k3 hN.out)
        have e1 : ((1 : Int) != 1) = false := by simp
        clear s0 s1 s2 s3 hgl BX B K
        go_upto_region 8 with (fail)
        clear x0
        go_upto_region 9 with (fail)
        generalize w5.alloc (.cells #[.nilFunc] 67) = w6 at *
        obtain ⟨pr, hpr⟩ : ∃ pr, pr = w5.heap.size := ⟨_, rfl⟩
        rw [← hpr] at B3 ⊢
        have hne : b0 ≠ pr ∧ tx ≠ pr ∧ w.heap.size ≤ pr := by
          have := K2.size
          have := hb0.out
          omega
        replace hpr := hid hpr
        have c3 := B3.cell (j := 0) rfl
        have f3 := B3.free (j := 0) (by simp)
        have hl3 := B3.lt (by simp)
        have B3' := B3.set (j := 0) (by simp) (.func (.func 29) #[] #[.pointer (some ⟨b0, 0, none⟩), .pointer (some ⟨pr, 0, none⟩)])
        rw [List.set_cons_zero] at B3'
        have fx := (Fx.refl (fun q => q = pr) w6).set1 ⟨pr, 0, none⟩ (.func (.func 29) #[] #[.pointer (some ⟨b0, 0, none⟩), .pointer (some ⟨pr, 0, none⟩)]) (.inl rfl)
        have BX7 := BX6.fx fx (BX6.lt (by simp)) hne.2.1
        have BB7 := BB6.fx fx (BB6.lt (by simp)) hne.1
        have K7 := fx.kp_of K6 (fun q e => by rw [e]; exact hne.2.2)
        have K57 := fx.kp_of k3 (fun q e => by rw [e, hpr.out]; exact Nat.le_refl _)
        go_upto_region 10 with (fail)
        generalize w6.setCell ⟨pr, 0, none⟩ (.func (.func 29) #[] #[.pointer (some ⟨b0, 0, none⟩), .pointer (some ⟨pr, 0, none⟩)]) = w7 at *
        have hN7 := hid (rdTr_stable N _ _ _ _ K57 hN.out)
        have x3 := BX7.cell (j := 3) rfl
        have x4 := BX7.cell (j := 4) rfl
        have x5 := BX7.cell (j := 5) rfl
        have x6 := BX7.cell (j := 6) rfl
        have x7 := BX7.cell (j := 7) rfl
        have f7 := B3'.cell (j := 0) rfl
        have hx7 := BX7.lt (by simp)
        have hf7 := B3'.lt (by simp)
        clear BX6 BB6 BX7 B3 c3 f3 hl3 fx K2 k3 hN6 hN K57 K6
        go_wp2_with fail
        refine (right_any s (Ab := Ab) (Ar := Ar) (Ag := Ag) (Ac := Ac) (cb := cb) (cr := cr) (cg := cg) (cc := cc) 65537 N t _ _ _ _ _ true 0 b0 pr w7 hN7.out (hT.out (by trivial)) BB7 B3' (hb.keep (pl_stable _) K7)).mono ?_
        rintro e w8 ⟨rfl, k8⟩
        have kend := K7.trans k8
        go_wp2
        go_ret
        exact ⟨rfl, kend⟩
      · have e1 : (kd != 1) = true := by simpa using hk
        clear hk
        go_wp2
        go_ret
        exact ⟨rfl, K⟩
theorem own : ownKnob Try.prog.godebug = none := by kernel_rfl
theorem laidOut : laidOutB Try.prog = true := by kernel_rfl
set_option maxRecDepth 100000 in
theorem lifted (os : Os) (started : os.Started) (H : Type) (enc : TypeId × Value → H) :
    ReturnsInHanded {} Try.checked os 7 .any (Rows.searchSplitsSpec.pre6 enc Try.prog Try.f7 Rows.searchSplitsRow.domain false) (Rows.searchSplitsSpec.post enc Try.prog Try.f7 false true false false) := by
  refine returnsInHanded_of_change (C := Try.checked) own started (by kernel_rfl) Try.func7
    (ChangeSpec.witness6 (enc := enc) (C := Try.checked) false ⟨#[], #[.agg #[.slice none 0 0, .slice none 0 0, .slice none 0 0, .slice none 0 0]], []⟩ 8 (by kernel_rfl) (by kernel_rfl) (by kernel_rfl) (by kernel_rfl)) ?_
  intro W base args ds gs before hval0 hW hcnd _
  have hval : ∀ (j : Nat) t v, Try.f7.params[j]? = some t → args[j]? = some v → Value.okWide Try.prog W .any base t v := hval0
  have hW' := hW
  obtain ⟨p, q, hA0, hV, rfl, hfz, hnd⟩ := hW
  have hA : DataW.TrodAll enc Try.prog W 0 (fun _ => true) true Try.f7.params.toList args.toList ds p := hA0
  rw [Try.params7] at hA hval
  obtain ⟨v0, vs0, d0, ds0, p0, q0, hargs, rfl, rfl, h0, r0⟩ := trodAll_cons hA
  obtain ⟨rfl, rfl, rfl⟩ := trodAll_nil r0
  obtain rfl : args = #[v0] := by cases args; simp_all
  obtain ⟨rfl, rfl⟩ := trodVars_none hV
  have lt0 : ∀ x ∈ p0, x.block < W.heap.size := by obtain ⟨m, hm⟩ := h0; exact DataW.trod_lt m _ _ _ hm
  obtain ⟨s0, hs0⟩ := opSys (hval 0 27 v0 rfl rfl) h0
  clear hA0 hval0
  refine (walk _ s0 W hs0).mono fun e W' ⟨he, bel⟩ => ?_
  subst he
  exact ⟨_, rfl, _, _, _, [], _, [], hW', trodAll_mk1 (shut_bool Try.underlying4 _), (trodAll_cons_mk (Below.trod laidOut (by kernel_rfl) (of_decide_eq_true (by kernel_rfl)) h0 bel lt0) trodAll_mk0), rfl, Below.frame bel _, fun h => by cases h⟩
theorem over : Rows.searchSplitsRow.holds Try.pinned (OpenSpec.ofChange Rows.searchSplitsSpec) :=
  OpenClaim.holds_of_wide 7 Try.f7 rfl rfl rfl rfl rfl rfl rfl ⟨rfl, rfl, rfl, rfl, rfl⟩ rfl rfl rfl rfl rfl (by kernel_rfl) Try.func7 (by kernel_rfl)
    (of_decide_eq_true (by kernel_rfl)) (by unfold Func.isWrapper; first | (rw [if_pos (by decide +kernel)]; kernel_rfl) | (rw [if_neg (by decide +kernel)]; exact ⟨rfl, rfl⟩))
    (fun os started H enc _ => lifted os started H enc)
theorem proved : Rows.SearchSplitsSaid := over
end Go.Proofs.Ytlbhidiliogflaa.lawSplits20
