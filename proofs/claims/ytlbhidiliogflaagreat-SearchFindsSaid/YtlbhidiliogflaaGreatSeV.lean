
/-
Search: All: the walk.
-/
import Derived.Test.YtlbhidiliogflaaGreatSeU
import Derived.Test.YtlbhidiliogflaaGreatRefS16
import Derived.Deep.LoopGhost
namespace Go.Proofs.YtlbhidiliogflaaGreat
set_option linter.unusedSimpArgs false
set_option linter.unusedVariables false
open Go.RowKit

set_option maxHeartbeats 1000000 in
theorem CloneAI_any (v : Value) (l : List Int) (w : World) (hS : Ints w v l) (hl : l.length ≤ 1000000000) :
    Calls Tryz.prog 34 #[v] w fun e w' => ∃ v', e = .returned v' ∧ Own encInt 3 1 w.heap.size w' v' l ∧ Kp w w' := by
  obtain ⟨A, c, rfl, hc, hm⟩ := hS.form
  rcases A with _ | A
  · have hl0 : l = [] := by
      cases l with
      | nil => rfl
      | cons x l =>
        obtain ⟨_, _, _, hA, _⟩ := hS.at_ (k := 0) (by simp)
        cases hA
    subst hl0
    rw [List.length_nil]
    have hnil := fun (W : World) => Lib.run_eql_slice_nil (P := Tryz.prog) W 30 3 none 0 c 0 0 Tryz.underlying30
    go_enter Tryz.func34, Tryz.ntmps34
    go_wp2
    go_ret
    exact ⟨_, rfl, Own.nil _ _ _ _ _, Kp.refl _⟩
  · have hnil := fun (W : World) => Lib.run_eql_slice_nil (P := Tryz.prog) W 30 3 (some A) l.length c 0 0 Tryz.underlying30
    go_enter Tryz.func34, Tryz.ntmps34
    go_wp2_with (at_builtin; refine wpl_append_flat rfl (.tmp 5) (.tmp 6) rfl stIntC encInt_len encInt_one rfl (Own.lit (base := w.heap.size) encInt w #[] [] (Nat.le_refl _) (by simp) rfl rfl) rfl (hS.keep (pl_stable _) ((Kp.refl w).alloc _)) (by simp; omega) (by simp; omega) (by simp) ?_; intro v' w' hown hgrow hat hnil')
    go_ret
    exact ⟨_, rfl, by simpa using hown, ((Kp.refl w).alloc _).grown hgrow (fun k hk => by cases hk; exact Nat.le_refl _)⟩
section
variable {s : Sys} {most : Int}
theorem allR_bad (h : validS s = false) : allR s most = ([], 1) := by rw [allR, if_neg (by rw [h]; simp)]
theorem allR_rng (h : validS s = true) (hm : ¬ (0 ≤ most ∧ most ≤ 1024)) : allR s most = ([], 2) := by rw [allR, if_pos h, if_neg hm]
theorem allR_big (h : validS s = true) (hm : 0 ≤ most ∧ most ≤ 1024) (hz : 65536 < sizeB s.box) : allR s most = ([], 8) := by rw [allR, if_pos h, if_pos hm, if_pos hz]
theorem allR_many (h : validS s = true) (hm : 0 ≤ most ∧ most ≤ 1024) (hz : ¬ 65536 < sizeB s.box) (hl : most < (((allS s.box).filter (holdsS s)).length : Int)) : allR s most = ([], 8) := by rw [allR, if_pos h, if_pos hm, if_neg hz, if_pos hl]
theorem allR_ok (h : validS s = true) (hm : 0 ≤ most ∧ most ≤ 1024) (hz : ¬ 65536 < sizeB s.box) (hl : ¬ most < (((allS s.box).filter (holdsS s)).length : Int)) : allR s most = ((allS s.box).filter (holdsS s), 0) := by rw [allR, if_pos h, if_pos hm, if_neg hz, if_neg hl]
end
def SizeIs (w : World) (n : Nat) : Prop := w.heap.size = n
theorem results_tmp2 {fn : Func} {t u : Tmp} (h : fn.results = #[.tmp t, .tmp u]) (tmps : Array Value) (P : Program) (w : World) :
    (results fn tmps).run P w = .ok (.tuple #[tmps.getD t undef, tmps.getD u undef]) w := by
  simp [results, h]
set_option maxRecDepth 8000 in
set_option maxHeartbeats 8000000 in
theorem All_any (va : Value) (s : Sys) (most : Int) (w : World) (hs : SysV w va s) :
    Calls Tryz.prog 11 #[va, .int .i64 most] w fun e w' => ∃ v, e = .returned (.tuple #[v, .int .i64 (allR s most).2]) ∧ Sl rdIL 1 w' v (allR s most).1 ∧ Kp w w' := by
  have hs' := hs
  obtain ⟨Ab, cb, Ar, cr, Ag, cg, Ac, cc, rfl, hb, hr, hg, hc⟩ := hs'
  obtain ⟨l1, m1⟩ := hb.caps
  obtain ⟨l2, m2⟩ := hr.caps
  obtain ⟨l3, m3⟩ := hg.caps
  obtain ⟨l4, m4⟩ := hc.caps
  obtain ⟨PR, hPR⟩ : ∃ PR, Hid (allR s most = PR) := ⟨_, hid rfl⟩
  rw [hPR.out]
  have hSI : SizeIs w w.heap.size := rfl
  have k0 := (Kp.refl w).alloc (.cells #[.slice Ab s.box.length cb, .slice Ar s.rows.length cr, .slice Ag s.graphs.length cg, .slice Ac s.cases.length cc] 27)
  have B0 := SysB.new w #[.slice Ab s.box.length cb, .slice Ar s.rows.length cr, .slice Ag s.graphs.length cg, .slice Ac s.cases.length cc] 27
  have z0 := alloc_lt w (.cells #[.slice Ab s.box.length cb, .slice Ar s.rows.length cr, .slice Ag s.graphs.length cg, .slice Ac s.cases.length cc] 27)
  go_enter Tryz.func11, Tryz.ntmps11
  go_wp2_with fail
  try rw [← World.size_alloc w (.cells #[.slice Ab s.box.length cb, .slice Ar s.rows.length cr, .slice Ag s.graphs.length cg, .slice Ac s.cases.length cc] 27)]
  generalize w.alloc (.cells #[.slice Ab s.box.length cb, .slice Ar s.rows.length cr, .slice Ag s.graphs.length cg, .slice Ac s.cases.length cc] 27) = w0 at *
  generalize w.heap.size = b0 at *
  refine (sValid_any _ s _ (hs.keep k0)).mono ?_
  rintro e w1 ⟨rfl, k1⟩
  replace B0 := B0.keep k1
  replace k1 := k0.trans k1
  obtain ⟨c0, c1, c2, c3⟩ := B0.cells
  have hgl := block_lt_of_cell c0
  cases hV : validS s with
  | false =>
    have hX : PR = ([], 1) := hPR.out.symm.trans (allR_bad hV)
    subst hX
    clear hV
    go_wp2
    try simp only [Exit.inBlock, Exit.then]
    refine bodyPost_ret (results_tmp2 rfl _ _ _) rfl ?_
    exact ⟨_, rfl, Sl.nil _ _ _, k1⟩
  | true =>
    replace hV := hid hV
    by_cases h1 : most < 0
    · have e2 : decide (most < 0) = true := decide_eq_true h1
      have hX : PR = ([], 2) := hPR.out.symm.trans (allR_rng hV.out (by omega))
      subst hX
      go_wp2
      try simp only [Exit.inBlock, Exit.then]
      refine bodyPost_ret (results_tmp2 rfl _ _ _) rfl ?_
      exact ⟨_, rfl, Sl.nil _ _ _, k1⟩
    · have e2 : decide (most < 0) = false := decide_eq_false h1
      by_cases h2 : 1024 < most
      · have e3 : decide (1024 < most) = true := decide_eq_true h2
        have hX : PR = ([], 2) := hPR.out.symm.trans (allR_rng hV.out (by omega))
        subst hX
        go_wp2
        try simp only [Exit.inBlock, Exit.then]
        refine bodyPost_ret (results_tmp2 rfl _ _ _) rfl ?_
        exact ⟨_, rfl, Sl.nil _ _ _, k1⟩
      · have e3 : decide (1024 < most) = false := decide_eq_false h2
        obtain ⟨m, rfl⟩ := Int.eq_ofNat_of_zero_le (show 0 ≤ most by omega)
        have hbb : (0 : Int) ≤ (m : Int) ∧ (m : Int) ≤ 1024 := by omega
        have hm9 : m ≤ 1024 := by omega
        replace hbb := hid hbb
        go_wp2_with fail
        refine (Size_any _ s.box _ (hb.keep (pl_stable _) k1)).mono ?_
        rintro e w2 ⟨rfl, k2⟩
        replace B0 := B0.keep k2
        replace k2 := k1.trans k2
        clear c0 c1 c2 c3 hgl k1
        obtain ⟨c0, c1, c2, c3⟩ := B0.cells
        have hgl := block_lt_of_cell c0
        by_cases h3 : 65536 < sizeB s.box
        · have e4 : decide (65536 < sizeB s.box) = true := decide_eq_true h3
          have hX : PR = ([], 8) := hPR.out.symm.trans (allR_big hV.out hbb.out h3)
          subst hX
          go_wp2
          try simp only [Exit.inBlock, Exit.then]
          refine bodyPost_ret (results_tmp2 rfl _ _ _) rfl ?_
          exact ⟨_, rfl, Sl.nil _ _ _, k2⟩
        · have e4 : decide (65536 < sizeB s.box) = false := decide_eq_false h3
          have H3 := hid h3
          have hwb : Hid (w.heap.size ≤ b0 + 1) := hid (by have h : w.heap.size = b0 := hSI; omega)
          obtain ⟨v1, v2, -, -⟩ := validS_parts hV.out
          have hlb : s.box.length ≤ 128 := (boxB_all v1).2
          have HB := hid v1
          have HN := hid v2
          have hlen : ((allS s.box).length : Int) ≤ 65536 := by
            have : sizeB s.box ≤ 65536 := by omega
            rw [allS_length _ (wide_of v2), ← size_prod2 v1 v2 this]
            exact this
          replace hlen := hid hlen
          obtain ⟨t, ht⟩ := allS_head s.box (wide_of v2)
          have HT := hid ht
          clear v1 v2 ht
          have hbw0 := hgl
          go_wp2_with fail
          obtain ⟨M, hM⟩ : ∃ M, M = s.box.map (·.lo) := ⟨_, rfl⟩
          have hMl : M.length = s.box.length := by rw [hM, List.length_map]
          replace hM := hid hM
          go_loopw [7, 30] (fun v i wr => ∃ k : Nat, k ≤ s.box.length ∧ i = .int .i64 (k : Int) ∧ Own encInt 3 1 w2.heap.size wr v (M.take k) ∧ Kp w2 wr) (fun _ i _ => s.box.length - (intOf i).toNat)
          case atStart => exact ⟨0, Nat.zero_le _, rfl, Own.nil _ _ _ _ _, Kp.refl _⟩
          case round =>
            obtain ⟨k, hk, rfl, own, kr⟩ := hrel
            obtain ⟨A7, n7, c7, rfl⟩ := own.isSl
            have d0 := kr.cellS c0
            have hzr := kr.size
            by_cases hlt : k < s.box.length
            · obtain ⟨gb, ob, hab, hgb, i1, i2⟩ := (hb.keep (pl_stable _) (k2.trans kr)).rng hlt
              subst hab
              have hlo : M[k]? = some s.box[k].lo := by rw [hM.out]; simp [hlt]
              have HL : Hid (M.take k ++ [s.box[k].lo] = M.take (k + 1)) := hid (by rw [List.take_add_one, hlo]; rfl)
              have hkk : (k : Int) < (s.box.length : Int) := by omega
              have htl : (M.take k).length ≤ 128 := by rw [List.length_take]; omega
              generalize s.box[k].lo = lo at *
              generalize s.box[k].hi = hi at *
              have ka := (Kp.refl wr).alloc (.cells #[.int .i64 lo, .int .i64 hi] 57)
              have BA := Bx.new wr #[.int .i64 lo, .int .i64 hi] 57
              go_upto_region 12 with (fail)
              generalize wr.alloc (.cells #[.int .i64 lo, .int .i64 hi] 57) = wa at *
              have own2 := own.kp ka
              have kra := kr.trans ka
              have a0 := BA.cell (j := 0) rfl
              have hza := kra.size
              clear own BA i1 i2 ka
              replace htl := hid htl
              have hge := hid own2.ge
              go_wp2_with (at_builtin; refine wpl_append_flat rfl (.tmp 34) (.tmp 37) rfl stIntC encInt_len encInt_one rfl (own2.alloc _) rfl (litI _ [lo] _ rfl (by simp) 1 rfl) (by have := htl.out; simp; omega) (by have := htl.out; simp; omega) (by simp; omega) ?_; intro v4 w4 hown4 hgrow4 hat4 hnil4)
              go_roundw
              case rel => exact ⟨k + 1, by omega, by go_num, by rw [← HL.out]; exact hown4, (kra.alloc _).grown hgrow4 (fun q hq => hge.out q hq)⟩
              case measure => simp [intOf]; omega
            · have hkb : k = s.box.length := by omega
              have hMt : M.take k = M := List.take_of_length_le (by omega)
              rw [hMt] at own
              clear hMt
              have HT2 : Hid (allS s.box = M :: t) := hid (by rw [hM.out]; exact HT.out)
              obtain rfl : n7 = M.length := by
                obtain ⟨A', c', he, -⟩ := own.form
                injection he
              have hkk : ¬ (k : Int) < (s.box.length : Int) := by omega
              have k12 := k2.trans kr
              clear c0 c1 c2 c3 d0 hgl
              obtain ⟨c0, c1, c2, c3⟩ := (B0.keep kr).cells
              have hgl := block_lt_of_cell c0
              have hbwr : b0 < wr.heap.size := hgl
              have hN : NL rdIL 30 1 (fun q => b0 + 1 ≤ q) wr (.slice none 0 0) [] [] := NL.nil _ _ _ _ _
              have own2' := own.less (show b0 + 1 ≤ w2.heap.size from hbw0)
              have hne2 : ∀ q, (Value.slice A7 M.length c7).ownBlock = some q → (Value.slice none 0 0).ownBlock ≠ some q := fun q _ e => by simp [Value.ownBlock] at e
              have hz2 : b0 + 1 ≤ wr.heap.size := hgl
              clear own k2 kr hlt hkb hk HT hM hMl B0
              go_wp2_with fail
              go_loopg [6, 7, 10] ((allS s.box).length + 1) (fun gk vo vv mo w9 => ∃ (AO : Option Addr) (gO : Nat) (css : List (Elm 1)) (pre : List (List Int)), vo = .slice AO (pre.filter (holdsS s)).length gO ∧ NL rdIL 30 1 (fun q => b0 + 1 ≤ q) w9 (.slice AO (pre.filter (holdsS s)).length gO) css (pre.filter (holdsS s)) ∧ Kp w w9 ∧ w9.heap[b0]? = wr.heap[b0]? ∧ b0 < w9.heap.size ∧ (pre.filter (holdsS s)).length ≤ m ∧
                ((mo = .bool true ∧ ∃ (L : List Int) (rest : List (List Int)) (AL : Option Addr) (cL : Nat), vv = .slice AL L.length cL ∧ Hid (allS s.box = pre ++ L :: rest) ∧ rest.length < gk ∧ Own encInt 3 1 (b0 + 1) w9 (.slice AL L.length cL) L ∧ Hid (∀ q, (Value.slice AL L.length cL).ownBlock = some q → (Value.slice AO (pre.filter (holdsS s)).length gO).ownBlock ≠ some q)) ∨ (mo = .bool false ∧ pre = allS s.box)))
              case atStart => exact ⟨none, 0, [], [], rfl, hN, k12, rfl, hbwr, Nat.zero_le _, .inl ⟨rfl, M, t, A7, c7, rfl, HT2, by rw [HT2.out]; simp; omega, own2', hid hne2⟩⟩
              case round =>
                clear hN own2' hne2
                obtain ⟨AO, gO, css, pre, rfl, hN, hkw, hbk, hbw, hpm, ⟨rfl, L, rest, AL, cL, rfl, HL, hgk, own, hne⟩ | ⟨rfl, hpre⟩⟩ := hrel
                · have hin : containsB s.box L = true := (inB_iff _ _).1 ((allS_mem s.box L).1 (by rw [HL.out]; simp))
                  have HX := hid (next_all HB.out HN.out HL.out)
                  have d0 := (World.cell?_of_block hbk).trans c0
                  have d1 := (World.cell?_of_block hbk).trans c1
                  have d2 := (World.cell?_of_block hbk).trans c2
                  have d3 := (World.cell?_of_block hbk).trans c3
                  have hll : L.length = s.box.length := by
                    exact (inB_len _ _ ((allS_mem s.box L).1 (by rw [HL.out]; simp))).symm
                  have hll' : L.length ≤ 128 := by omega
                  replace hll := hid hll
                  replace e2 := hid e2
                  replace e3 := hid e3
                  replace e4 := hid e4
                  replace hpm := hid hpm
                  have HP : Hid ((pre ++ [L]).filter (holdsS s) = pre.filter (holdsS s) ++ if holdsS s L then [L] else []) := hid (by
                    rw [List.filter_append]
                    cases h : holdsS s L <;> simp [h])
                  have HAL2 : Hid (∀ r, rest = r → allS s.box = (pre ++ [L]) ++ r) := hid (fun r hr => by rw [HL.out, ← hr]; simp)
                  have HFA : Hid (holdsS s L = true → (pre.filter (holdsS s)).length < ((allS s.box).filter (holdsS s)).length) := hid (fun h => by
                    rw [HL.out, List.filter_append, List.length_append, List.filter_cons, if_pos h]
                    simp)
                  replace hin := hid hin
                  have hcl := hid hN.len
                  generalize hF : pre.filter (holdsS s) = F at *
                  clear hF
                  go_wp2_with fail
                  refine (sHolds_any _ _ s L _ (hs.keep hkw) (own.sl encInt_len)).mono ?_
                  rintro e w3 ⟨rfl, k3⟩
                  have hN3 := hN.kp k3
                  have own3 := own.kp k3
                  have hkw3 := hkw.trans k3
                  have hbk3 := (k3.block hbw).trans hbk
                  have hz3 := k3.size
                  have hbw3 : b0 < w3.heap.size := by omega
                  clear hN own hkw hbk d0 d1 d2 d3 k3
                  cases hq : holdsS s L with
                  | true =>
                    rw [hq] at HP
                    have HP2 : Hid ((pre ++ [L]).filter (holdsS s) = F ++ [L]) := hid HP.out
                    have hFA := hid (HFA.out hq)
                    clear hq HP HFA
                    by_cases hFm : F.length = m
                    · have e5 : ((F.length : Int) == (m : Int)) = true := by rw [hFm]; simp
                      have e6 : (F.length == m) = true := by rw [hFm]; simp
                      have hX : PR = ([], 8) := hPR.out.symm.trans (allR_many hV.out hbb.out (by have := H3.out; omega) (by have := hFA.out; rw [hFm] at this; exact Int.ofNat_lt.mpr this))
                      subst hX
                      go_wp2
                      try simp only [Exit.inBlock, Exit.then]
                      refine bodyPost_ret (results_tmp2 rfl _ _ _) rfl ?_
                      exact ⟨_, rfl, Sl.nil _ _ _, hkw3⟩
                    · have e5 : ((F.length : Int) == (m : Int)) = false := by simpa using fun h => hFm (Int.ofNat.inj h)
                      have e6 : (F.length == m) = false := by simpa using hFm
                      have hpm5' : F.length + 1 ≤ m := by have := hpm.out; omega
                      replace hFm := hid hFm
                      go_wp2_with fail
                      refine (CloneAI_any _ L w3 (own3.sl encInt_len) (by omega)).mono ?_
                      rintro e w4 ⟨vc, rfl, ownC, k4⟩
                      obtain ⟨AC, cC, rfl, _, _⟩ := ownC.form
                      have hN4 := hN3.kp k4
                      have own4 := own3.kp k4
                      have hkw4 := hkw3.trans k4
                      have hbk4 := (k4.block hbw3).trans hbk3
                      have hbw4 := Nat.lt_of_lt_of_le hbw3 k4.size
                      have hneC : ∀ q, (Value.slice AC L.length cC).ownBlock = some q → (Value.slice AO F.length gO).ownBlock ≠ some q := fun q hq e => by
                        have h1 := ownC.ge q hq
                        have h2 := hN3.own.blk_lt q e
                        omega
                      have ownC' := ownC.less (show b0 + 1 ≤ w3.heap.size by omega)
                      clear hN3 own3 hkw3 hbk3 hbw3 ownC
                      have kA := (Kp.refl w4).alloc (.cells #[.slice AC L.length cC] 30)
                      have hNA := hN4.kp kA
                      have ownA := own4.kp kA
                      have ownCA := ownC'.kp kA
                      have hbkA := (kA.block hbw4).trans hbk4
                      have hkwA := hkw4.trans kA
                      obtain ⟨el, hel⟩ : ∃ el : Elm 1, el.val = [.slice AC L.length cC] := ⟨⟨[.slice AC L.length cC], rfl, by simp [Value.oneCell']⟩, rfl⟩
                      have hsrc := Sl.one (R := Pl (encC (size := 1))) w4 [.slice AC L.length cC] 30 1 el rfl hel.symm
                      replace hel := hid hel
                      have hzA := kA.size
                      have hoge := hid hNA.blk
                      have hbwA : b0 < (w4.alloc (.cells #[.slice AC L.length cC] 30)).heap.size := by omega
                      replace hneC := hid hneC
                      go_wp2_with (at_builtin; refine wpl_append_flat (l := css) (m := [el]) rfl (.tmp 56) (.tmp 59) rfl stIntsM encC_len encC_one rfl hNA.own rfl hsrc (by have := hcl.out; simp; omega) (by have := hcl.out; simp; omega) (by simp) ?_; intro v4 w5 hown5 hgrow5 hat5 hnil5; obtain ⟨A4, c4, hv4, hc4, hm4⟩ := hown5.form; subst hv4; have hN5 := hNA.push (z := b0 + 1) (l := L) hel.out ownCA hown5 hgrow5 hat5 (fun _ h => h) (by omega) hneC.out; have hfr : ∀ q, (Value.slice AO F.length gO).ownBlock = some q → b0 + 1 ≤ q := hoge.out; have hkw5 := hkwA.grown hgrow5 (fun q hq => by have := hfr q hq; have := hwb.out; omega); have hbk5 := (hgrow5.block b0 hbwA (fun e => by have := hfr b0 e.symm; omega)).trans hbkA; have hz5 := hgrow5.size; have hbw5 : b0 < w5.heap.size := (by omega); have hab : ∀ q, (Value.slice A4 (css ++ [el]).length c4).ownBlock = some q → q < w5.heap.size := hown5.blk_lt; have d0 := (World.cell?_of_block hbk5).trans c0; have d1 := (World.cell?_of_block hbk5).trans c1; have d2 := (World.cell?_of_block hbk5).trans c2; have d3 := (World.cell?_of_block hbk5).trans c3; have own5 := ownA.owS.step hgrow5.size (fun q hq hlt => hgrow5.block q hlt (fun e => hne.out q hq e.symm)); clear hNA ownA ownCA hkwA hbkA hsrc hN4 own4 ownC' hkw4 hbk4 hown5 hgrow5)
                      refine (Next_any _ _ s.box L _ (hb.keep (pl_stable _) hkw5) (own5.here.sl encInt_len)).mono ?_
                      rw [HX.out]
                      rintro e w6 ⟨v6, rfl, own6, k6⟩
                      have hN5 := hN5.kp k6
                      have hne5 := hid (fun q (hq : v6.ownBlock = some q) (e : (Value.slice A4 (css ++ [el]).length c4).ownBlock = some q) => show False from by
                        have h1 := own6.ge q hq
                        have h2 := hab q e
                        omega)
                      have own5' := own6.less (show b0 + 1 ≤ w5.heap.size by omega)
                      have e8 : (css ++ [el]).length = (F ++ [L]).length := by simp [hcl.out]
                      have e9 : css.length + 1 = (F ++ [L]).length := by simp [hcl.out]
                      have hkw5 := hkw5.trans k6
                      have hbk5 := (k6.block hbw5).trans hbk5
                      have hbw5 := Nat.lt_of_lt_of_le hbw5 k6.size
                      have hpm5 := hid (show ((pre ++ [L]).filter (holdsS s)).length ≤ m by rw [HP2.out]; simp; omega)
                      rw [e8] at hN5 hne5
                      try rw [e9]
                      rw [← HP2.out] at hN5 hne5 ⊢
                      clear d0 d1 d2 d3 own5 e8 e9 hab own6 hfr
                      obtain ⟨A5, c5, rfl, _, _⟩ := own5'.form
                      cases rest with
                      | nil =>
                        dsimp only [List.head?_nil, Option.getD_none, List.length_nil, Option.isSome_none] at *
                        have HAE : Hid (pre ++ [L] = allS s.box) := hid (by have := HAL2.out [] rfl; simpa using this.symm)
                        go_wp2
                        go_roundg 0
                        case measure => omega
                        case rel => exact ⟨_, _, _, pre ++ [L], rfl, hN5, hkw5, hbk5, hbw5, hpm5.out, .inr ⟨rfl, HAE.out⟩⟩
                      | cons L2 rest =>
                        dsimp only [List.head?_cons, Option.getD_some, Option.isSome_some] at *
                        have HAL3 : Hid (allS s.box = (pre ++ [L]) ++ L2 :: rest) := hid (HAL2.out _ rfl)
                        go_wp2
                        go_roundg (rest.length + 1)
                        case measure => simp at hgk; omega
                        case rel => exact ⟨_, _, _, pre ++ [L], rfl, hN5, hkw5, hbk5, hbw5, hpm5.out, .inl ⟨rfl, L2, rest, A5, c5, rfl, HAL3, by omega, own5', hne5⟩⟩
                  | false =>
                    rw [hq] at HP
                    have HP2 : Hid ((pre ++ [L]).filter (holdsS s) = F) := hid (by rw [HP.out]; simp)
                    clear hq HP HFA
                    have d0 := (World.cell?_of_block hbk3).trans c0
                    have d1 := (World.cell?_of_block hbk3).trans c1
                    have d2 := (World.cell?_of_block hbk3).trans c2
                    have d3 := (World.cell?_of_block hbk3).trans c3
                    have hpm5 := hid (show ((pre ++ [L]).filter (holdsS s)).length ≤ m by rw [HP2.out]; exact hpm.out)
                    go_wp2_with fail
                    refine (Next_any _ _ s.box L _ (hb.keep (pl_stable _) hkw3) (own3.sl encInt_len)).mono ?_
                    rw [HX.out]
                    rintro e w5 ⟨v5, rfl, own5, k5⟩
                    have hN5 := hN3.kp k5
                    have hab := hN3.own.blk_lt
                    have hne5 := hid (fun q (hq : v5.ownBlock = some q) (e : (Value.slice AO F.length gO).ownBlock = some q) => show False from by
                      have h1 := own5.ge q hq
                      have h2 := hab q e
                      omega)
                    have own5' := own5.less (show b0 + 1 ≤ w3.heap.size by omega)
                    have hkw5 := hkw3.trans k5
                    have hbk5 := (k5.block hbw3).trans hbk3
                    have hbw5 := Nat.lt_of_lt_of_le hbw3 k5.size
                    rw [← HP2.out] at hN5 hne5 ⊢
                    clear d0 d1 d2 d3 hN3 own3 hab own5
                    obtain ⟨A5, c5, rfl, _, _⟩ := own5'.form
                    cases rest with
                    | nil =>
                      dsimp only [List.head?_nil, Option.getD_none, List.length_nil, Option.isSome_none] at *
                      have HAE : Hid (pre ++ [L] = allS s.box) := hid (by have := HAL2.out [] rfl; simpa using this.symm)
                      go_wp2
                      go_roundg 0
                      case measure => omega
                      case rel => exact ⟨_, _, _, pre ++ [L], rfl, hN5, hkw5, hbk5, hbw5, hpm5.out, .inr ⟨rfl, HAE.out⟩⟩
                    | cons L2 rest =>
                      dsimp only [List.head?_cons, Option.getD_some, Option.isSome_some] at *
                      have HAL3 : Hid (allS s.box = (pre ++ [L]) ++ L2 :: rest) := hid (HAL2.out _ rfl)
                      go_wp2
                      go_roundg (rest.length + 1)
                      case measure => simp at hgk; omega
                      case rel => exact ⟨_, _, _, pre ++ [L], rfl, hN5, hkw5, hbk5, hbw5, hpm5.out, .inl ⟨rfl, L2, rest, A5, c5, rfl, HAL3, by omega, own5', hne5⟩⟩
                · have HX : PR = (pre.filter (holdsS s), 0) := hPR.out.symm.trans (by rw [hpre]; exact allR_ok hV.out hbb.out (by have := H3.out; omega) (by rw [← hpre]; omega))
                  subst HX
                  have hSl := hN.sl
                  replace hpre := hid hpre
                  go_wp2
                  try simp only [Exit.inBlock, Exit.then]
                  refine bodyPost_ret (results_tmp2 rfl _ _ _) rfl ?_
                  exact ⟨_, rfl, hSl, hkw⟩
end Go.Proofs.YtlbhidiliogflaaGreat
