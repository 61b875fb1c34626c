/-
Simplifying: setting the bound of every equal row is setting that of the first.
The reference of systems: simplifying (the walk).
-/
import Derived.Test.YtfllmnaillilhaaTC
namespace Go.Proofs.Ytfllmnaillilhaa
set_option linter.unusedSimpArgs false
set_option linter.unusedVariables false
open Go.RowKit

/-- how the reference adds a row -/
def qAdd (out : List Row) (x : Row) : List Row := if out.any (fun y => eqT y.terms x.terms) then out.map (fun y => if eqT y.terms x.terms then ⟨y.terms, min y.bound x.bound⟩ else y) else out ++ [x]
theorem qAdd_eq {out : List Row} (x : Row) (hn : (out.map (·.terms)).Nodup) : qAdd out x = simpAdd out x ∧ ((qAdd out x).map (·.terms)).Nodup := by
  rcases idxF_cases (fun y : Row => eqT y.terms x.terms) 0 out with ⟨hi, ha⟩ | ⟨j, hj, hi, hp, -⟩
  · have h1 := ha
    rw [List.any_eq_false] at ha
    have h2 : qAdd out x = out ++ [x] := by unfold qAdd; rw [h1]; simp
    rw [h2]
    refine ⟨by unfold simpAdd; rw [hi, if_neg (by omega)], ?_⟩
    rw [List.map_append, List.nodup_append]
    refine ⟨hn, by simp, fun a ha' b hb e => ?_⟩
    obtain ⟨y, hy, rfl⟩ := List.mem_map.1 ha'
    simp only [List.map_cons, List.map_nil, List.mem_singleton] at hb
    have := ha y hy
    exact this ((eqT_iff _ _).2 (e.trans hb))
  · have h1 : out.any (fun y => eqT y.terms x.terms) = true := List.any_eq_true.2 ⟨out[j], List.getElem_mem hj, hp⟩
    have h2 : qAdd out x = out.map (fun y => if eqT y.terms x.terms then ⟨y.terms, min y.bound x.bound⟩ else y) := by unfold qAdd; rw [h1]; simp
    rw [h2]
    refine ⟨?_, ?_⟩
    · unfold simpAdd
      rw [hi, if_pos (by omega)]
      have e1 : (((0 + j : Nat) : Int)).toNat = j := by omega
      rw [e1]
      have e2 : out.getD j ⟨[], 0⟩ = out[j] := by simp [List.getD, hj]
      rw [e2]
      apply List.ext_getElem (by simp)
      intro k k1 k2
      rw [List.getElem_map, List.getElem_set]
      have hk : k < out.length := by simpa using k1
      by_cases hkj : j = k
      · subst hkj
        rw [if_pos rfl, if_pos hp]
      · rw [if_neg hkj, if_neg]
        intro he
        have e3 := (eqT_iff _ _).1 he
        have e4 := (eqT_iff _ _).1 hp
        have e5 : (out.map (·.terms))[k]'(by simpa using hk) = (out.map (·.terms))[j]'(by simpa using hj) := by simp [e3, e4]
        exact hkj ((List.getElem_inj hn).1 e5).symm
    · have e : (out.map (fun y => if eqT y.terms x.terms then (⟨y.terms, min y.bound x.bound⟩ : Row) else y)).map (·.terms) = out.map (·.terms) := by
        rw [List.map_map]
        apply List.map_congr_left
        intro y _
        show (if eqT y.terms x.terms then (⟨y.terms, min y.bound x.bound⟩ : Row) else y).terms = y.terms
        split <;> rfl
      rw [e]
      exact hn
def qStep (b : List Rng) (out : List Row) (r : Row) : List Row := if (sumB (normR r) b).2 ≤ (normR r).bound then out else qAdd out (normR r)
theorem qStep_eq (b : List Rng) : ∀ (rows : List Row) (out : List Row), (out.map (·.terms)).Nodup → rows.foldl (qStep b) out = rows.foldl (simpStep b) out
  | [], _, _ => rfl
  | r :: rows, out, h => by
    rw [List.foldl_cons, List.foldl_cons]
    unfold qStep simpStep
    by_cases hc : (sumB (normR r) b).2 ≤ (normR r).bound
    · rw [if_pos hc, if_pos hc]
      exact qStep_eq b rows out h
    · rw [if_neg hc, if_neg hc]
      obtain ⟨h1, h2⟩ := qAdd_eq (normR r) h
      rw [← h1]
      exact qStep_eq b rows _ h2
end Go.Proofs.Ytfllmnaillilhaa
namespace Go.Proofs.Ytfllmnaillilhaa
set_option linter.unusedSimpArgs false
set_option linter.unusedVariables false
open Go.RowKit

theorem fitsL_up {n m : Int} (hnm : n ≤ m) : ∀ (l : List Term) (last : Int), fitsL n last l = true → fitsL m last l = true
  | [], _, _ => rfl
  | t :: l, last, h => by
    unfold fitsL at h ⊢
    by_cases hb : badT n last t
    · rw [if_pos hb] at h; exact absurd h (by simp)
    · rw [if_neg hb] at h
      rw [if_neg (fun hb2 => hb (by unfold badT at hb2 ⊢; omega))]
      exact fitsL_up hnm l _ h
theorem fitsB_up {n m : Int} {r : Row} (hnm : n ≤ m) (h : fitsB n r = true) : fitsB m r = true := by
  unfold fitsB at h ⊢
  rw [Bool.and_eq_true] at h ⊢
  exact ⟨fitsL_up hnm _ _ h.1, h.2⟩
theorem NormalR_ok {n : Nat} {r : Row} (hn : n ≤ 128) (h : fitsB n r = true) : NormalR r = (normR r, true) := by
  unfold NormalR
  rw [if_pos (fitsB_up (by omega) h)]
theorem mapd_step {α : Type} (f : α → α) (l : List α) (m : Nat) (h : m < l.length) : (l.take (m + 1)).map f ++ l.drop (m + 1) = ((l.take m).map f ++ l.drop m).set m (f l[m]) := by
  rw [List.take_succ_eq_append_getElem h, List.drop_eq_getElem_cons h, List.map_append, List.set_append]
  have e : ((l.take m).map f).length = m := by simp; omega
  rw [if_neg (by omega), e, Nat.sub_self, List.set_cons_zero, List.append_assoc]
  rfl
def upd (xs : List Term) (xb : Int) (y : Row) : Row := if eqT y.terms xs then ⟨y.terms, min y.bound xb⟩ else y
set_option maxRecDepth 8000 in
set_option maxHeartbeats 16000000 in
theorem qSimplify_any (va : Value) (s : Sys) (w : World) (hs : SysV w va s) :
    Calls Try.prog 14 #[va] w fun e w' => ∃ v, e = .returned (.tuple #[v, .int .i64 (SimpR s).2]) ∧ SysV w' v (SimpR s).1 ∧ Kp w w' := by
  have hs' := hs
  obtain ⟨Ab, cb, Ar, cr, Ag, cg, Ac, cc, rfl, hb, hr, hg, hc⟩ := hs'
  obtain ⟨l1, m1⟩ := hb.caps
  obtain ⟨l2, m2⟩ := hr.caps
  obtain ⟨l3, m3⟩ := hg.caps
  obtain ⟨l4, m4⟩ := hc.caps
  have k0 := ((Kp.refl w).alloc (.cells #[.slice Ab s.box.length cb, .slice Ar s.rows.length cr, .slice Ag s.graphs.length cg, .slice Ac s.cases.length cc] 27)).alloc (.cells #[.slice none 0 0, .slice none 0 0, .slice none 0 0, .slice none 0 0] 27)
  have B0 := (SysB.new w #[.slice Ab s.box.length cb, .slice Ar s.rows.length cr, .slice Ag s.graphs.length cg, .slice Ac s.cases.length cc] 27).keep ((Kp.refl _).alloc (.cells #[.slice none 0 0, .slice none 0 0, .slice none 0 0, .slice none 0 0] 27))
  have hR := Bx.new (w.alloc (.cells #[.slice Ab s.box.length cb, .slice Ar s.rows.length cr, .slice Ag s.graphs.length cg, .slice Ac s.cases.length cc] 27)) #[.slice none 0 0, .slice none 0 0, .slice none 0 0, .slice none 0 0] 27
  rw [World.size_alloc] at hR
  have hzw : ((w.alloc (.cells #[.slice Ab s.box.length cb, .slice Ar s.rows.length cr, .slice Ag s.graphs.length cg, .slice Ac s.cases.length cc] 27)).alloc (.cells #[.slice none 0 0, .slice none 0 0, .slice none 0 0, .slice none 0 0] 27)).heap.size = w.heap.size + 2 := by simp
  go_enter Try.func14, Try.ntmps14
  go_wp2_with fail
  generalize (w.alloc (.cells #[.slice Ab s.box.length cb, .slice Ar s.rows.length cr, .slice Ag s.graphs.length cg, .slice Ac s.cases.length cc] 27)).alloc (.cells #[.slice none 0 0, .slice none 0 0, .slice none 0 0, .slice none 0 0] 27) = w0 at *
  generalize hbw : w.heap.size = b at *
  replace hbw := hid hbw
  replace hzw := hid hzw
  refine (qValid_any _ s _ (hs.keep k0)).mono ?_
  rintro e w1 ⟨rfl, k1⟩
  have hb1 : b + 1 < w1.heap.size := by have := k1.size; have := hzw.out; omega
  have hR1 := hR.kp k1 (by have := hzw.out; omega)
  replace B0 := B0.keep k1
  have hz1 : b + 2 ≤ w1.heap.size := by have := k1.size; have := hzw.out; omega
  replace k1 := k0.trans k1
  obtain ⟨c0, c1, c2, c3⟩ := B0.cells
  have hgl := block_lt_of_cell c0
  cases hV : validS s with
  | false =>
    have HN : Hid (SimpR s = (zSys, 1)) := hid (by unfold SimpR; rw [hV]; rfl)
    have f0 := hR1.free (j := 0) (by simp)
    have f1 := hR1.free (j := 1) (by simp)
    have f2 := hR1.free (j := 2) (by simp)
    have f3 := hR1.free (j := 3) (by simp)
    have g0 := hR1.cell (j := 0) rfl
    have g1 := hR1.cell (j := 1) rfl
    have g2 := hR1.cell (j := 2) rfl
    have g3 := hR1.cell (j := 3) rfl
    have hBF := hR1.set4 (.slice none 0 0) (.slice none 0 0) (.slice none 0 0) (.slice none 0 0)
    have kF := Kg.to_kp k1 (Kg.set4 w1 (b + 1) (.slice none 0 0) (.slice none 0 0) (.slice none 0 0) (.slice none 0 0)) (by have := hbw.out; omega)
    clear hV hR1 hR
    go_wp2
    refine bodyPost_ret (results_cell_bx2 rfl _ _ (b + 1) [.slice none 0 0, .slice none 0 0, .slice none 0 0, .slice none 0 0] _ rfl hBF.range Try.underlying27 rfl (by kernel_rfl)) rfl ?_
    exact ⟨_, by rw [HN.out]; rfl, by rw [HN.out]; exact zSys_v _, kF⟩
  | true =>
    have HN : Hid (SimpR s = (simpS s, 0)) := hid (by unfold SimpR; rw [hV]; rfl)
    have HVP := hid (validS_parts hV)
    have hsz := size_of hV
    clear hV
    go_wp2_with fail
    refine (qCopySystem_any _ s _ (hs.keep k1) hsz).mono ?_
    rintro e w2 ⟨vb, vr, vg, vc, τ, rfl, hT, hO, k2⟩
    obtain ⟨A1, e1, rfl, _, _⟩ := hO.box.form
    obtain ⟨css0, hr0⟩ := hO.rows
    obtain ⟨A2, e2, rfl, _, _⟩ := hr0.form
    obtain ⟨A3, e3, rfl, _, _⟩ := hO.graphs.here.form
    obtain ⟨A4, e4, rfl, _, _⟩ : ∃ A c, vc = .slice A s.cases.length c ∧ s.cases.length ≤ c ∧ c ≤ 9223372036854775807 := by
      obtain ⟨vs, o4, l4, -, -⟩ := hO.cases
      rw [← l4]
      exact o4.form
    clear hr0 c0 c1 c2 c3 hgl
    have kA := (Kp.refl w2).alloc (.cells #[.slice A1 s.box.length e1, .slice none 0 0, .slice A3 s.graphs.length e3, .slice A4 s.cases.length e4] 27)
    have hB := Bx.new w2 #[.slice A1 s.box.length e1, .slice none 0 0, .slice A3 s.graphs.length e3, .slice A4 s.cases.length e4] 27
    have hO3 := hO.kp kA _ hT
    have hR3 := (hR1.kp k2 hb1).kp kA (by have := k2.size; omega)
    have B3 := (B0.keep k2).keep kA
    have hbo := alloc_lt w2 (.cells #[.slice A1 s.box.length e1, .slice none 0 0, .slice A3 s.graphs.length e3, .slice A4 s.cases.length e4] 27)
    have k3 := (k1.trans k2).trans kA
    have hτ : τ w2.heap.size = 0 := by
      by_cases h : τ w2.heap.size = 0
      · exact h
      · have := (hT _ h).2
        omega
    have hτb : τ (b + 1) = 0 := by
      by_cases h : τ (b + 1) = 0
      · exact h
      · have := (hT _ h).1
        omega
    have hlo : b + 2 ≤ w2.heap.size := by have := k2.size; omega
    obtain ⟨c0, c1, c2, c3⟩ := (B0.keep k2).cells
    have hgl := block_lt_of_cell c0
    clear hO hR hR1 B0 k2 kA hT
    go_wp2
    clear c0 c1 c2 c3 hgl
    generalize w2.alloc (.cells #[.slice A1 s.box.length e1, .slice none 0 0, .slice A3 s.graphs.length e3, .slice A4 s.cases.length e4] 27) = w3 at *
    generalize w2.heap.size = bo at *
    obtain ⟨c0, c1, c2, c3⟩ := B3.cells
    have hgb : b ≠ bo := by omega
    go_loopw [5] (fun i wr => ∃ (k : Nat) (css : List (Elm 2)) (out : List Row) (AR : Option Addr) (cR : Nat), k ≤ s.rows.length ∧ i = .int .i64 k ∧ Bx wr bo [.slice A1 s.box.length e1, .slice AR out.length cR, .slice A3 s.graphs.length e3, .slice A4 s.cases.length e4] ∧
      NL rdRow 30 2 (fun q => w3.heap.size ≤ q) wr (.slice AR out.length cR) css out ∧ out.length ≤ k ∧ (out.map (·.terms)).Nodup ∧ Hid (out = (s.rows.take k).foldl (qStep s.box) []) ∧ Kg w3 wr bo) (fun i _ => s.rows.length - (intOf i).toNat)
    case atStart => exact ⟨0, [], [], none, 0, Nat.zero_le _, rfl, hB, NL.nil _ _ _ _ _, Nat.le_refl _, by simp, hid (by simp), Kg.refl _ _⟩
    case round =>
      clear hB
      obtain ⟨k, css, out, AR, cR, hk, rfl, hB, hN, hol, hnd, HO, hKr⟩ := hrel
      have hsz3 := hKr.size
      have hbor : bo < wr.heap.size := by omega
      have kwr : Kp w wr := Kg.to_kp k3 hKr (by have := hbw.out; omega)
      have d0 := hKr.cellS c0 hgb
      have d1 := hKr.cellS c1 hgb
      have hgl := block_lt_of_cell d0
      by_cases hlt : k < s.rows.length
      · obtain ⟨g, o, A5, e5, rfl, hg5, h1, h2, hTm⟩ := (hr.keep rdRow_stable kwr).row hlt
        have hfit := (validB_ok HVP.out.2.2.1.2).2.2 s.rows[k] (List.getElem_mem hlt)
        have hsm := normal_small hfit
        obtain ⟨-, fl, fb1, fb2⟩ := fitsB_ok hfit
        have HF : Hid ((s.rows.take (k + 1)).foldl (qStep s.box) [] = qStep s.box ((s.rows.take k).foldl (qStep s.box) []) s.rows[k]) := hid (by rw [List.take_succ_eq_append_getElem hlt, List.foldl_append]; rfl)
        clear c0 c1 c2 c3
        generalize s.rows[k] = r at *
        obtain ⟨ts, bd⟩ := r
        dsimp only at h1 h2 hTm fl fb1 fb2 hsm
        replace hsm := hid hsm
        replace hnd := hid hnd
        have hrl := hsz.rows
        have hNR := NormalR_ok hsz.box hfit
        replace hNR := hid hNR
        clear hfit
        go_wp2_with fail
        refine (qNormal_any _ ts bd _ hTm).mono ?_
        rw [hNR.out]
        rintro e w5 ⟨vx, rfl, ownx, k5⟩
        dsimp only at ownx ⊢
        have hst : Hid (qStep s.box out ⟨ts, bd⟩ = if (sumB (normR ⟨ts, bd⟩) s.box).2 ≤ (normR ⟨ts, bd⟩).bound then out else qAdd out (normR ⟨ts, bd⟩)) := hid rfl
        clear hNR
        generalize normR ⟨ts, bd⟩ = x at *
        obtain ⟨xs, xb⟩ := x
        dsimp only at ownx ⊢ hst
        obtain ⟨Ax, cx, rfl, hcx, hmx⟩ := ownx.form
        have kC := (Kp.refl w5).alloc (.cells #[.slice Ax xs.length cx, .int .i64 xb] 30)
        have x0 := alloc_cell w5 #[.slice Ax xs.length cx, .int .i64 xb] 30 0 rfl
        have x1 := alloc_cell w5 #[.slice Ax xs.length cx, .int .i64 xb] 30 1 rfl
        have zx := alloc_lt w5 (.cells #[.slice Ax xs.length cx, .int .i64 xb] 30)
        have e0 := k5.cellS d0
        have hxl := block_lt_of_cell e0
        go_wp2_with fail
        refine (rSum_any _ _ ⟨xs, xb⟩ s.box _ ((ownx.sl encTerm_len).keep (pl_stable _) kC) (hb.keep (pl_stable _) ((kwr.trans k5).trans kC))).mono ?_
        rintro e w6 ⟨rfl, k6⟩
        have k56 := k5.trans (kC.trans k6)
        generalize hsum : sumB ⟨xs, xb⟩ s.box = sm at *
        obtain ⟨sl, sh⟩ := sm
        dsimp only at hst ⊢
        have hB6 := hB.kp k56 hbor
        have hN6 := hN.kp k56
        have hK6 := hKr.trans (k56.kg bo)
        have y0 := k6.cellS x0
        have y1 := k6.cellS x1
        have zy := Nat.lt_of_lt_of_le zx k6.size
        have hobl := hN.own.blk_lt
        have hxge := ownx.ge
        have hxlt := ownx.blk_lt
        have ho6 := ((ownx.kp kC).kp k6).owS
        have hT6 := ((ownx.sl encTerm_len).keep (pl_stable _) kC).keep (pl_stable _) k6
        have z56 := kC.size
        have z66 := k6.size
        have zr5 := k5.size
        clear hB hN hKr x0 x1 zx ownx kC k6 k5 k56 hsum e0 hxl
        simp only [World.size_alloc] at z56
        generalize w5.heap.size = bx at *
        by_cases hle : sh ≤ xb
        · have e10 : decide (sh ≤ xb) = true := decide_eq_true hle
          have HO2 : Hid (out = (s.rows.take (k + 1)).foldl (qStep s.box) []) := hid (by rw [HF.out, ← HO.out, hst.out, if_pos hle])
          go_wp2
          go_roundw
          case rel => exact ⟨k + 1, css, out, AR, cR, by omega, by go_num, hB6, hN6, by omega, hnd.out, HO2, hK6⟩
          case measure => simp [intOf]; omega
        · have e10 : decide (sh ≤ xb) = false := decide_eq_false hle
          have HO1 : Hid ((s.rows.take (k + 1)).foldl (qStep s.box) [] = qAdd out ⟨xs, xb⟩) := hid (by rw [HF.out, ← HO.out, hst.out, if_neg hle])
          have q1 := hB6.cell (j := 1) rfl
          have hbo6 := block_lt_of_cell q1
          have zb6 := hK6.size
          have hg6 := block_lt_of_cell y0
          have hoB := hid (Nat.le_refl w6.heap.size)
          have hobw : bo < wr.heap.size := hbor
          obtain ⟨wo, hwo⟩ : ∃ wo : World, wo = wr := ⟨_, rfl⟩
          subst hwo
          go_wp2
          go_loopw [10, 11] (fun v i wr => ∃ (m : Nat) (cssm : List (Elm 2)), m ≤ out.length ∧ i = .int .i64 m ∧ v = .bool ((out.take m).any (fun y => eqT y.terms xs)) ∧ Bx wr bo [.slice A1 s.box.length e1, .slice AR out.length cR, .slice A3 s.graphs.length e3, .slice A4 s.cases.length e4] ∧
            NL rdRow 30 2 (fun q => w3.heap.size ≤ q) wr (.slice AR out.length cR) cssm ((out.take m).map (fun y => if eqT y.terms xs then (⟨y.terms, min y.bound xb⟩ : Row) else y) ++ out.drop m) ∧ Kg w3 wr bo ∧ w6.heap.size ≤ wr.heap.size ∧ (∀ q, (Value.slice AR out.length cR).ownBlock ≠ some q → q ≠ bo → q < w6.heap.size → wr.heap[q]? = w6.heap[q]?)) (fun _ i _ => out.length - (intOf i).toNat)
          case atStart => exact ⟨0, css, Nat.zero_le _, rfl, rfl, hB6, by simpa using hN6, hK6, Nat.le_refl _, fun _ _ _ _ => rfl⟩
          case round =>
            clear hB6 hN6 hK6 q1
            obtain ⟨m, cssm, hm, rfl, rfl, hBm, hNm, hKm, hzm, hkm⟩ := hrel
            by_cases hml : m < out.length
            · have hLl : ((out.take m).map (fun y => if eqT y.terms xs then (⟨y.terms, min y.bound xb⟩ : Row) else y) ++ out.drop m).length = out.length := by simp; omega
              obtain ⟨yts, ybd, hyo⟩ : ∃ a b, out[m] = ⟨a, b⟩ := ⟨_, _, rfl⟩
              have hLm : ∀ h, ((out.take m).map (fun y => if eqT y.terms xs then (⟨y.terms, min y.bound xb⟩ : Row) else y) ++ out.drop m)[m]'h = ⟨yts, ybd⟩ := fun h => by
                rw [List.getElem_append_right (by simp; omega)]
                simp only [List.length_map, List.length_take, List.getElem_drop]
                rw [← hyo]
                congr 1
                omega
              have hLs := mapd_step (fun y => if eqT y.terms xs then (⟨y.terms, min y.bound xb⟩ : Row) else y) out m hml
              rw [hyo] at hLs
              replace hLs := hid hLs
              have hAs : Hid ((out.take (m + 1)).any (fun y => eqT y.terms xs) = ((out.take m).any (fun y => eqT y.terms xs) || eqT yts xs)) := hid (by rw [List.take_succ_eq_append_getElem hml, List.any_append, hyo]; simp)
              generalize hgL : (out.take m).map (fun y => if eqT y.terms xs then (⟨y.terms, min y.bound xb⟩ : Row) else y) ++ out.drop m = L at *
              clear hgL
              generalize (out.take m).any (fun y => eqT y.terms xs) = kn at *
              have hmc : m < cssm.length := by have := hNm.len; omega
              have hmL : m < L.length := by omega
              obtain ⟨T, hTj, hoj⟩ := hNm.els m hmc hmL
              obtain ⟨tv, hcs, ht⟩ := hoj.here
              rw [hLm hmL] at hcs ht
              dsimp only at hcs ht
              obtain ⟨A1', c1', rfl, _, _⟩ := ht.form
              have hbne : ∀ q, (Value.slice Ax xs.length cx).ownBlock = some q → (Value.slice AR out.length cR).ownBlock ≠ some q := fun q hq e => by have := hobl q e; have := hxge q hq; omega
              have hTx := (ho6 wr hzm (fun q hq hlt => hkm q (hbne q hq) (by have := hxge q hq; omega) hlt)).sl encTerm_len
              have hkx : wr.heap[bx]? = w6.heap[bx]? := hkm bx (fun e => by have := hobl bx e; omega) (by omega) (by show bx < _; exact hg6)
              have yy0 : wr.cell? ⟨bx, 0, none⟩ = _ := (World.cell?_of_block hkx).trans y0
              have yy1 : wr.cell? ⟨bx, 1, none⟩ = _ := (World.cell?_of_block hkx).trans y1
              have hg7 := block_lt_of_cell yy0
              obtain ⟨g2, rfl, -, hg2⟩ := hNm.own.at_ (by have := hNm.len; omega)
              have hcl : out.length = cssm.length := by have := hNm.len; omega
              have cj0 : wr.cell? ⟨g2, m * 2, none⟩ = some (.slice A1' yts.length c1') := by
                have := hNm.own.cellAt encC_len hcl hmc (j := 0) (by omega)
                refine this.trans ?_
                show cssm[m].val[0]? = _
                rw [hcs]; rfl
              have cj1 : wr.cell? ⟨g2, m * 2 + 1, none⟩ = some (.int .i64 ybd) := by
                have := hNm.own.cellAt encC_len hcl hmc (j := 1) (by omega)
                refine this.trans ?_
                show cssm[m].val[1]? = _
                rw [hcs]; rfl
              have fj1 : wr.frozen? ⟨g2, m * 2 + 1, none⟩ = false := hNm.own.frozen hcl _
              have q1 := hBm.cell (j := 1) rfl
              have hg2bo : g2 ≠ bo := fun e => by have := hNm.blk g2 rfl; omega
              have hge2 := hNm.blk g2 rfl
              have hbor2 := block_lt_of_cell q1
              have hobg := hobl g2 rfl
              clear hoj hTj hobl hxge hxlt hbne
              have j1 : (0 : Int) ≤ m := by omega
              have j2 : (m : Int) < out.length := by omega
              have hSf : ∀ W, Kp wr W → (W.cell? ⟨bo, 1, none⟩ = some (.slice (some ⟨g2, 0, none⟩) out.length cR) ∧ W.cell? ⟨g2, m * 2, none⟩ = some (.slice A1' yts.length c1') ∧ W.cell? ⟨g2, m * 2 + 1, none⟩ = some (.int .i64 ybd) ∧ W.cell? ⟨bx, 0, none⟩ = some (.slice Ax xs.length cx) ∧ W.cell? ⟨bx, 1, none⟩ = some (.int .i64 xb) ∧ Kp wr W) := fun W hk => ⟨hk.cellS q1, hk.cellS cj0, hk.cellS cj1, hk.cellS yy0, hk.cellS yy1, hk⟩
              go_wp2
              refine wp_region_held_drew (S := fun W => W.cell? ⟨bo, 1, none⟩ = some (.slice (some ⟨g2, 0, none⟩) out.length cR) ∧ W.cell? ⟨g2, m * 2, none⟩ = some (.slice A1' yts.length c1') ∧ W.cell? ⟨g2, m * 2 + 1, none⟩ = some (.int .i64 ybd) ∧ W.cell? ⟨bx, 0, none⟩ = some (.slice Ax xs.length cx) ∧ W.cell? ⟨bx, 1, none⟩ = some (.int .i64 xb) ∧ Kp wr W) (by kernel_rfl) (hSf _ (Kp.refl _).drew) (fun hHeld => ?_)
              refine take_at 0 53 (v := ?_) rfl rfl (by kernel_rfl) (by kernel_rfl) (by kernel_rfl) (fun _ _ _ h => h) hHeld (Or.inl ⟨by kernel_rfl, ?_⟩) ?_
              rotate_left
              · intro w hSw; (try dsimp only at hSw); go_simp; try with_reducible rfl
              simp only [Act.put, List.setIfInBounds_toArray, List.set_cons_zero, List.set_cons_succ]
              refine take_at 1 54 (v := ?_) rfl rfl (by kernel_rfl) (by kernel_rfl) (by kernel_rfl) (fun _ _ _ h => h) hHeld (Or.inl ⟨by kernel_rfl, ?_⟩) ?_
              rotate_left
              · intro w hSw; (try dsimp only at hSw); go_simp; try with_reducible rfl
              simp only [Act.put, List.setIfInBounds_toArray, List.set_cons_zero, List.set_cons_succ]
              refine take_at 2 55 (v := ?_) rfl rfl (by kernel_rfl) (by kernel_rfl) (by kernel_rfl) (fun _ _ _ h => h) hHeld (Or.inl ⟨by kernel_rfl, ?_⟩) ?_
              rotate_left
              · intro w hSw; (try dsimp only at hSw); go_simp; try with_reducible rfl
              simp only [Act.put, List.setIfInBounds_toArray, List.set_cons_zero, List.set_cons_succ]
              refine take_at 3 56 (v := ?_) rfl rfl (by kernel_rfl) (by kernel_rfl) (by kernel_rfl) (fun _ _ _ h => h) hHeld (Or.inl ⟨by kernel_rfl, ?_⟩) ?_
              rotate_left
              · intro w hSw; (try dsimp only at hSw); go_simp; try with_reducible rfl
              simp only [Act.put, List.setIfInBounds_toArray, List.set_cons_zero, List.set_cons_succ]
              refine take_at 4 57 (v := ?_) rfl rfl (by kernel_rfl) (by kernel_rfl) (by kernel_rfl) (fun _ _ _ h => h) hHeld (Or.inl ⟨by kernel_rfl, ?_⟩) ?_
              rotate_left
              · intro w hSw; (try dsimp only at hSw); go_simp; try with_reducible rfl
              simp only [Act.put, List.setIfInBounds_toArray, List.set_cons_zero, List.set_cons_succ]
              refine take_at 5 58 (v := ?_) rfl rfl (by kernel_rfl) (by kernel_rfl) (by kernel_rfl) (fun _ _ _ h => h) hHeld (Or.inl ⟨by kernel_rfl, ?_⟩) ?_
              rotate_left
              · intro w hSw; (try dsimp only at hSw); go_simp; try with_reducible rfl
              simp only [Act.put, List.setIfInBounds_toArray, List.set_cons_zero, List.set_cons_succ]
              refine wpAnyH_ready (rs := [6]) (by kernel_rfl) (by simp) ?_
              refine AllReadyH.cons (o := _) rfl (fun K hK => ?_) AllReadyH.nil
              go_simp
              refine (qTerms_any _ _ yts xs ybd xb _ (ht.keep (pl_stable _) hHeld.2.2.2.2.2) (hTx.keep (pl_stable _) hHeld.2.2.2.2.2)).mono ?_
              rintro e w9 ⟨rfl, h9⟩
              refine hK.out _ _ (hSf _ (hHeld.2.2.2.2.2.trans h9)) (fun hHeld2 => ?_)
              clear hK K hHeld
              have hHeld := hHeld2
              clear hHeld2
              refine wpAnyH_done (by kernel_rfl) ?_ _
              have k9 := hHeld.2.2.2.2.2
              obtain ⟨z1, z2, z3, z4, z5, -⟩ := hHeld
              clear hSf
              have hB9' := hBm.kp k9 hbor2
              have hN9' := hNm.kp k9
              have hK9' := hKm.trans (k9.kg bo)
              have hz9 := k9.size
              have f9 : w9.frozen? ⟨g2, m * 2 + 1, none⟩ = false := (World.frozen?_of_block (k9.block hg2)).trans fj1
              have hkm9 : ∀ q, (Value.slice (some ⟨g2, 0, none⟩) out.length cR).ownBlock ≠ some q → q ≠ bo → q < w6.heap.size → w9.heap[q]? = w6.heap[q]? := fun q a1 a2 a3 => (k9.block (by omega)).trans (hkm q a1 a2 a3)
              cases hq : eqT yts xs with
              | false =>
                rw [hq] at hAs hLs
                have HA : Hid ((out.take (m + 1)).any (fun y => eqT y.terms xs) = kn) := hid (by rw [hAs.out]; simp)
                have HL : Hid ((out.take (m + 1)).map (fun y => if eqT y.terms xs then (⟨y.terms, min y.bound xb⟩ : Row) else y) ++ out.drop (m + 1) = L) := hid (by rw [hLs.out]; have := hLm hmL; rw [show (if (false : Bool) = true then (⟨yts, min ybd xb⟩ : Row) else ⟨yts, ybd⟩) = L[m] by rw [this]; rfl]; exact List.set_getElem_self _)
                clear hAs hLs hq q1 cj0 cj1 yy0 yy1
                go_wp2
                go_roundw
                case rel => exact ⟨m + 1, cssm, by omega, by go_num, by rw [HA.out], hB9', by rw [HL.out]; exact hN9', hK9', by omega, hkm9⟩
                case measure => simp [intOf]; omega
              | true =>
                rw [hq] at hAs hLs
                have HA : Hid ((out.take (m + 1)).any (fun y => eqT y.terms xs) = true) := hid (by rw [hAs.out]; simp)
                have HL : Hid ((out.take (m + 1)).map (fun y => if eqT y.terms xs then (⟨y.terms, min y.bound xb⟩ : Row) else y) ++ out.drop (m + 1) = L.set m ⟨yts, min ybd xb⟩) := hid (by rw [hLs.out]; rfl)
                clear hAs hLs hq q1 cj0 cj1 yy0 yy1 fj1
                have hbo9 : bo < w9.heap.size := by omega
                have hB9 := hB9'.kg (w' := w9.setCell ⟨g2, m * 2 + 1, none⟩ (.int .i64 (min ybd xb))) (g := g2) ((Kg.refl _ _).set (.inl rfl) _) hbo9 (fun e => hg2bo e.symm)
                have hN9 := hN9'.bound (by omega) hmc hmL (min ybd xb)
                have hK9 : Kg w3 (w9.setCell ⟨g2, m * 2 + 1, none⟩ (.int .i64 (min ybd xb))) bo := hK9'.set (.inr hge2) _
                rw [hLm hmL] at hN9
                dsimp only at hN9
                rw [← HL.out] at hN9
                have hkm10 : ∀ u : Value, ∀ q, (Value.slice (some ⟨g2, 0, none⟩) out.length cR).ownBlock ≠ some q → q ≠ bo → q < w6.heap.size → (w9.setCell ⟨g2, m * 2 + 1, none⟩ u).heap[q]? = w6.heap[q]? := fun u q a1 a2 a3 => (set_block _ _ _ _ (fun e => a1 (by show some g2 = some q; rw [e]))).trans (hkm9 q a1 a2 a3)
                have hz10 : ∀ u : Value, w6.heap.size ≤ (w9.setCell ⟨g2, m * 2 + 1, none⟩ u).heap.size := fun u => by rw [set_size]; omega
                clear hB9' hN9' hK9' hBm hNm hKm hkm hkm9 k9
                rcases (show xb < ybd ∨ ybd ≤ xb by omega) with hmn | hmn
                · have hmm : min ybd xb = xb := by omega
                  rw [hmm] at hN9 hB9 hK9
                  go_wp2
                  have hSf : ∀ W : World, W.heap[bo]? = w9.heap[bo]? → W.heap[g2]? = w9.heap[g2]? → W.heap[bx]? = w9.heap[bx]? → (W.cell? ⟨bo, 1, none⟩ = some (.slice (some ⟨g2, 0, none⟩) out.length cR) ∧ W.cell? ⟨g2, m * 2 + 1, none⟩ = some (.int .i64 ybd) ∧ W.frozen? ⟨g2, m * 2 + 1, none⟩ = false ∧ W.cell? ⟨bx, 1, none⟩ = some (.int .i64 xb)) := fun W h1 h2 h3 => ⟨(World.cell?_of_block h1).trans z1, (World.cell?_of_block h2).trans z3, (World.frozen?_of_block h2).trans f9, (World.cell?_of_block h3).trans z5⟩
                  refine beginT 14 (S := fun W => W.cell? ⟨bo, 1, none⟩ = some (.slice (some ⟨g2, 0, none⟩) out.length cR) ∧ W.cell? ⟨g2, m * 2 + 1, none⟩ = some (.int .i64 ybd) ∧ W.frozen? ⟨g2, m * 2 + 1, none⟩ = false ∧ W.cell? ⟨bx, 1, none⟩ = some (.int .i64 xb)) (by kernel_rfl) (hSf _ rfl rfl rfl) (fun hHeld => ?_)
                  refine take_atT 0 60 (v := ?_) rfl rfl (by kernel_rfl) (by kernel_rfl) (by kernel_rfl) (by kernel_rfl) (by kernel_rfl) (fun _ _ _ h => h) hHeld (Or.inl ⟨by kernel_rfl, ?_⟩) ?_
                  rotate_left
                  · intro w hSw; (try dsimp only at hSw); go_simp; try with_reducible rfl
                  simp only [Act.put, List.setIfInBounds_toArray, List.set_cons_zero, List.set_cons_succ]
                  refine take_atT 1 61 (v := ?_) rfl rfl (by kernel_rfl) (by kernel_rfl) (by kernel_rfl) (by kernel_rfl) (by kernel_rfl) (fun _ _ _ h => h) hHeld (Or.inl ⟨by kernel_rfl, ?_⟩) ?_
                  rotate_left
                  · intro w hSw; (try dsimp only at hSw); go_simp; try with_reducible rfl
                  simp only [Act.put, List.setIfInBounds_toArray, List.set_cons_zero, List.set_cons_succ]
                  refine take_atT 2 62 (v := ?_) rfl rfl (by kernel_rfl) (by kernel_rfl) (by kernel_rfl) (by kernel_rfl) (by kernel_rfl) (fun _ _ _ h => h) hHeld (Or.inl ⟨by kernel_rfl, ?_⟩) ?_
                  rotate_left
                  · intro w hSw; (try dsimp only at hSw); go_simp; try with_reducible rfl
                  simp only [Act.put, List.setIfInBounds_toArray, List.set_cons_zero, List.set_cons_succ]
                  refine take_atT 3 63 (v := ?_) rfl rfl (by kernel_rfl) (by kernel_rfl) (by kernel_rfl) (by kernel_rfl) (by kernel_rfl) (fun _ _ _ h => h) hHeld (Or.inl ⟨by kernel_rfl, ?_⟩) ?_
                  rotate_left
                  · intro w hSw; (try dsimp only at hSw); go_simp; try with_reducible rfl
                  simp only [Act.put, List.setIfInBounds_toArray, List.set_cons_zero, List.set_cons_succ]
                  refine take_atT 4 64 (v := ?_) rfl rfl (by kernel_rfl) (by kernel_rfl) (by kernel_rfl) (by kernel_rfl) (by kernel_rfl) (fun _ _ _ h => h) hHeld (Or.inl ⟨by kernel_rfl, ?_⟩) ?_
                  rotate_left
                  · intro w hSw; (try dsimp only at hSw); go_simp; try with_reducible rfl
                  simp only [Act.put, List.setIfInBounds_toArray, List.set_cons_zero, List.set_cons_succ]
                  refine take_atT 5 65 (v := ?_) rfl rfl (by kernel_rfl) (by kernel_rfl) (by kernel_rfl) (by kernel_rfl) (by kernel_rfl) (fun _ _ _ h => h) hHeld (Or.inl ⟨by kernel_rfl, ?_⟩) ?_
                  rotate_left
                  · intro w hSw; (try dsimp only at hSw); go_simp; try with_reducible rfl
                  simp only [Act.put, List.setIfInBounds_toArray, List.set_cons_zero, List.set_cons_succ]
                  refine take_atT 6 66 (v := ?_) rfl rfl (by kernel_rfl) (by kernel_rfl) (by kernel_rfl) (by kernel_rfl) (by kernel_rfl) (fun _ _ _ h => h) hHeld (Or.inl ⟨by kernel_rfl, ?_⟩) ?_
                  rotate_left
                  · intro w hSw; (try dsimp only at hSw); go_simp; try with_reducible rfl
                  simp only [Act.put, List.setIfInBounds_toArray, List.set_cons_zero, List.set_cons_succ]
                  refine take_atT 7 67 (v := ?_) rfl rfl (by kernel_rfl) (by kernel_rfl) (by kernel_rfl) (by kernel_rfl) (by kernel_rfl) (fun _ _ _ h => h) hHeld (Or.inl ⟨by kernel_rfl, ?_⟩) ?_
                  rotate_left
                  · intro w hSw; (try dsimp only at hSw); go_simp; try with_reducible rfl
                  simp only [Act.put, List.setIfInBounds_toArray, List.set_cons_zero, List.set_cons_succ]
                  refine take_atT 8 68 (v := ?_) rfl rfl (by kernel_rfl) (by kernel_rfl) (by kernel_rfl) (by kernel_rfl) (by kernel_rfl) (fun _ _ _ h => h) hHeld (Or.inl ⟨by kernel_rfl, ?_⟩) ?_
                  rotate_left
                  · intro w hSw; (try dsimp only at hSw); go_simp; try with_reducible rfl
                  simp only [Act.put, List.setIfInBounds_toArray, List.set_cons_zero, List.set_cons_succ]
                  refine take_atT 9 69 (v := ?_) rfl rfl (by kernel_rfl) (by kernel_rfl) (by kernel_rfl) (by kernel_rfl) (by kernel_rfl) (fun _ _ _ h => h) hHeld (Or.inl ⟨by kernel_rfl, ?_⟩) ?_
                  rotate_left
                  · intro w hSw; (try dsimp only at hSw); go_simp; try with_reducible rfl
                  simp only [Act.put, List.setIfInBounds_toArray, List.set_cons_zero, List.set_cons_succ]
                  refine take_atT 10 70 (v := ?_) rfl rfl (by kernel_rfl) (by kernel_rfl) (by kernel_rfl) (by kernel_rfl) (by kernel_rfl) (fun _ _ _ h => h) hHeld (Or.inl ⟨by kernel_rfl, ?_⟩) ?_
                  rotate_left
                  · intro w hSw; (try dsimp only at hSw); go_simp; try with_reducible rfl
                  simp only [Act.put, List.setIfInBounds_toArray, List.set_cons_zero, List.set_cons_succ]
                  refine take_atT 11 71 (v := ?_) rfl rfl (by kernel_rfl) (by kernel_rfl) (by kernel_rfl) (by kernel_rfl) (by kernel_rfl) (fun _ _ _ h => h) hHeld (Or.inl ⟨by kernel_rfl, ?_⟩) ?_
                  rotate_left
                  · intro w hSw; (try dsimp only at hSw); go_simp; try with_reducible rfl
                  simp only [Act.put, List.setIfInBounds_toArray, List.set_cons_zero, List.set_cons_succ]
                  refine stepT (i := 12) (o := _) (by kernel_rfl) rfl (fun K hK => ?_)
                  go_simp
                  refine hK.out _ _ hHeld (fun hHeld2 => ?_)
                  clear hK K hHeld
                  have hHeld := hHeld2
                  clear hHeld2
                  refine stepT (i := 13) (o := _) (by kernel_rfl) rfl (fun K hK => ?_)
                  go_simp
                  refine hK.out _ _ hHeld (fun hHeld2 => ?_)
                  clear hK K hHeld
                  have hHeld := hHeld2
                  clear hHeld2
                  obtain ⟨k8, k9, k10, k11⟩ := hHeld
                  clear hSf z1 z2 z3 z4 z5 f9
                  refine lastT (o := _) (by kernel_rfl) rfl (fun K hK => ?_)
                  go_simp
                  refine hK.out _ _ ?_
                  clear hK K
                  refine doneT (by kernel_rfl) ?_ _
                  go_wp2
                  go_roundw
                  case rel => exact ⟨m + 1, _, by omega, by go_num, by rw [HA.out], hB9.keep rfl, hN9.kp (Kp.refl _).drew, hK9.kp (Kp.refl _).drew, hz10 _, hkm10 _⟩
                  case measure => simp [intOf]; omega
                · have hmm : min ybd xb = ybd := by omega
                  rw [hmm] at hN9 hB9 hK9
                  go_wp2
                  have hSf : ∀ W : World, W.heap[bo]? = w9.heap[bo]? → W.heap[g2]? = w9.heap[g2]? → W.heap[bx]? = w9.heap[bx]? → (W.cell? ⟨bo, 1, none⟩ = some (.slice (some ⟨g2, 0, none⟩) out.length cR) ∧ W.cell? ⟨g2, m * 2 + 1, none⟩ = some (.int .i64 ybd) ∧ W.frozen? ⟨g2, m * 2 + 1, none⟩ = false ∧ W.cell? ⟨bx, 1, none⟩ = some (.int .i64 xb)) := fun W h1 h2 h3 => ⟨(World.cell?_of_block h1).trans z1, (World.cell?_of_block h2).trans z3, (World.frozen?_of_block h2).trans f9, (World.cell?_of_block h3).trans z5⟩
                  refine beginT 14 (S := fun W => W.cell? ⟨bo, 1, none⟩ = some (.slice (some ⟨g2, 0, none⟩) out.length cR) ∧ W.cell? ⟨g2, m * 2 + 1, none⟩ = some (.int .i64 ybd) ∧ W.frozen? ⟨g2, m * 2 + 1, none⟩ = false ∧ W.cell? ⟨bx, 1, none⟩ = some (.int .i64 xb)) (by kernel_rfl) (hSf _ rfl rfl rfl) (fun hHeld => ?_)
                  refine take_atT 0 60 (v := ?_) rfl rfl (by kernel_rfl) (by kernel_rfl) (by kernel_rfl) (by kernel_rfl) (by kernel_rfl) (fun _ _ _ h => h) hHeld (Or.inl ⟨by kernel_rfl, ?_⟩) ?_
                  rotate_left
                  · intro w hSw; (try dsimp only at hSw); go_simp; try with_reducible rfl
                  simp only [Act.put, List.setIfInBounds_toArray, List.set_cons_zero, List.set_cons_succ]
                  refine take_atT 1 61 (v := ?_) rfl rfl (by kernel_rfl) (by kernel_rfl) (by kernel_rfl) (by kernel_rfl) (by kernel_rfl) (fun _ _ _ h => h) hHeld (Or.inl ⟨by kernel_rfl, ?_⟩) ?_
                  rotate_left
                  · intro w hSw; (try dsimp only at hSw); go_simp; try with_reducible rfl
                  simp only [Act.put, List.setIfInBounds_toArray, List.set_cons_zero, List.set_cons_succ]
                  refine take_atT 2 62 (v := ?_) rfl rfl (by kernel_rfl) (by kernel_rfl) (by kernel_rfl) (by kernel_rfl) (by kernel_rfl) (fun _ _ _ h => h) hHeld (Or.inl ⟨by kernel_rfl, ?_⟩) ?_
                  rotate_left
                  · intro w hSw; (try dsimp only at hSw); go_simp; try with_reducible rfl
                  simp only [Act.put, List.setIfInBounds_toArray, List.set_cons_zero, List.set_cons_succ]
                  refine take_atT 3 63 (v := ?_) rfl rfl (by kernel_rfl) (by kernel_rfl) (by kernel_rfl) (by kernel_rfl) (by kernel_rfl) (fun _ _ _ h => h) hHeld (Or.inl ⟨by kernel_rfl, ?_⟩) ?_
                  rotate_left
                  · intro w hSw; (try dsimp only at hSw); go_simp; try with_reducible rfl
                  simp only [Act.put, List.setIfInBounds_toArray, List.set_cons_zero, List.set_cons_succ]
                  refine take_atT 4 64 (v := ?_) rfl rfl (by kernel_rfl) (by kernel_rfl) (by kernel_rfl) (by kernel_rfl) (by kernel_rfl) (fun _ _ _ h => h) hHeld (Or.inl ⟨by kernel_rfl, ?_⟩) ?_
                  rotate_left
                  · intro w hSw; (try dsimp only at hSw); go_simp; try with_reducible rfl
                  simp only [Act.put, List.setIfInBounds_toArray, List.set_cons_zero, List.set_cons_succ]
                  refine take_atT 5 65 (v := ?_) rfl rfl (by kernel_rfl) (by kernel_rfl) (by kernel_rfl) (by kernel_rfl) (by kernel_rfl) (fun _ _ _ h => h) hHeld (Or.inl ⟨by kernel_rfl, ?_⟩) ?_
                  rotate_left
                  · intro w hSw; (try dsimp only at hSw); go_simp; try with_reducible rfl
                  simp only [Act.put, List.setIfInBounds_toArray, List.set_cons_zero, List.set_cons_succ]
                  refine take_atT 6 66 (v := ?_) rfl rfl (by kernel_rfl) (by kernel_rfl) (by kernel_rfl) (by kernel_rfl) (by kernel_rfl) (fun _ _ _ h => h) hHeld (Or.inl ⟨by kernel_rfl, ?_⟩) ?_
                  rotate_left
                  · intro w hSw; (try dsimp only at hSw); go_simp; try with_reducible rfl
                  simp only [Act.put, List.setIfInBounds_toArray, List.set_cons_zero, List.set_cons_succ]
                  refine take_atT 7 67 (v := ?_) rfl rfl (by kernel_rfl) (by kernel_rfl) (by kernel_rfl) (by kernel_rfl) (by kernel_rfl) (fun _ _ _ h => h) hHeld (Or.inl ⟨by kernel_rfl, ?_⟩) ?_
                  rotate_left
                  · intro w hSw; (try dsimp only at hSw); go_simp; try with_reducible rfl
                  simp only [Act.put, List.setIfInBounds_toArray, List.set_cons_zero, List.set_cons_succ]
                  refine take_atT 8 68 (v := ?_) rfl rfl (by kernel_rfl) (by kernel_rfl) (by kernel_rfl) (by kernel_rfl) (by kernel_rfl) (fun _ _ _ h => h) hHeld (Or.inl ⟨by kernel_rfl, ?_⟩) ?_
                  rotate_left
                  · intro w hSw; (try dsimp only at hSw); go_simp; try with_reducible rfl
                  simp only [Act.put, List.setIfInBounds_toArray, List.set_cons_zero, List.set_cons_succ]
                  refine take_atT 9 69 (v := ?_) rfl rfl (by kernel_rfl) (by kernel_rfl) (by kernel_rfl) (by kernel_rfl) (by kernel_rfl) (fun _ _ _ h => h) hHeld (Or.inl ⟨by kernel_rfl, ?_⟩) ?_
                  rotate_left
                  · intro w hSw; (try dsimp only at hSw); go_simp; try with_reducible rfl
                  simp only [Act.put, List.setIfInBounds_toArray, List.set_cons_zero, List.set_cons_succ]
                  refine take_atT 10 70 (v := ?_) rfl rfl (by kernel_rfl) (by kernel_rfl) (by kernel_rfl) (by kernel_rfl) (by kernel_rfl) (fun _ _ _ h => h) hHeld (Or.inl ⟨by kernel_rfl, ?_⟩) ?_
                  rotate_left
                  · intro w hSw; (try dsimp only at hSw); go_simp; try with_reducible rfl
                  simp only [Act.put, List.setIfInBounds_toArray, List.set_cons_zero, List.set_cons_succ]
                  refine take_atT 11 71 (v := ?_) rfl rfl (by kernel_rfl) (by kernel_rfl) (by kernel_rfl) (by kernel_rfl) (by kernel_rfl) (fun _ _ _ h => h) hHeld (Or.inl ⟨by kernel_rfl, ?_⟩) ?_
                  rotate_left
                  · intro w hSw; (try dsimp only at hSw); go_simp; try with_reducible rfl
                  simp only [Act.put, List.setIfInBounds_toArray, List.set_cons_zero, List.set_cons_succ]
                  refine stepT (i := 12) (o := _) (by kernel_rfl) rfl (fun K hK => ?_)
                  go_simp
                  refine hK.out _ _ hHeld (fun hHeld2 => ?_)
                  clear hK K hHeld
                  have hHeld := hHeld2
                  clear hHeld2
                  refine stepT (i := 13) (o := _) (by kernel_rfl) rfl (fun K hK => ?_)
                  go_simp
                  refine hK.out _ _ hHeld (fun hHeld2 => ?_)
                  clear hK K hHeld
                  have hHeld := hHeld2
                  clear hHeld2
                  obtain ⟨k8, k9, k10, k11⟩ := hHeld
                  clear hSf z1 z2 z3 z4 z5 f9
                  refine lastT (o := _) (by kernel_rfl) rfl (fun K hK => ?_)
                  go_simp
                  refine hK.out _ _ ?_
                  clear hK K
                  refine doneT (by kernel_rfl) ?_ _
                  go_wp2
                  go_roundw
                  case rel => exact ⟨m + 1, _, by omega, by go_num, by rw [HA.out], hB9.keep rfl, hN9.kp (Kp.refl _).drew, hK9.kp (Kp.refl _).drew, hz10 _, hkm10 _⟩
                  case measure => simp [intOf]; omega
            · have hmm : m = out.length := by omega
              subst hmm
              rw [List.take_length, List.drop_length, List.append_nil] at hNm
              rw [List.take_length]
              have hN2 := (qAdd_eq ⟨xs, xb⟩ hnd.out).2
              have q1m := hBm.cell (j := 1) rfl
              have zbm := block_lt_of_cell q1m
              cases hk2 : out.any (fun y => eqT y.terms xs) with
              | true =>
                have hqa : qAdd out ⟨xs, xb⟩ = out.map (fun y => if eqT y.terms xs then (⟨y.terms, min y.bound xb⟩ : Row) else y) := by unfold qAdd; rw [if_pos hk2]
                rw [hqa] at HO1 hN2
                have hle2 : (out.map (fun y => if eqT y.terms xs then (⟨y.terms, min y.bound xb⟩ : Row) else y)).length = out.length := by simp
                have HO3 := hid HO1.out.symm
                clear hqa hk2
                go_wp2
                clear q1m
                generalize out.map (fun y => if eqT y.terms xs then (⟨y.terms, min y.bound xb⟩ : Row) else y) = out2 at *
                rw [← hle2] at hBm hNm
                have hl3 := hid hle2
                clear hle2
                go_roundw
                case rel => exact ⟨k + 1, cssm, out2, AR, cR, by omega, by go_num, hBm, hNm, by rw [hl3.out]; omega, hN2, HO3, hKm⟩
                case measure => simp [intOf]; omega
              | false =>
                have hqa : qAdd out ⟨xs, xb⟩ = out ++ [⟨xs, xb⟩] := by unfold qAdd; rw [if_neg (by rw [hk2]; simp)]
                have hmap : out.map (fun y => if eqT y.terms xs then (⟨y.terms, min y.bound xb⟩ : Row) else y) = out := by
                  rw [List.any_eq_false] at hk2
                  have : ∀ y ∈ out, (if eqT y.terms xs then (⟨y.terms, min y.bound xb⟩ : Row) else y) = id y := fun y hy => if_neg (hk2 y hy)
                  rw [List.map_congr_left this, List.map_id]
                rw [hmap] at hNm
                rw [hqa] at HO1 hN2
                have HO3 := hid HO1.out.symm
                clear hqa hk2 hmap
                have hbne : (Value.slice AR out.length cR).ownBlock ≠ some bx := fun e => by have := hobl bx e; omega
                have hkx : wr.heap[bx]? = w6.heap[bx]? := hkm bx hbne (by omega) (by show bx < _; exact hg6)
                have yy0 : wr.cell? ⟨bx, 0, none⟩ = _ := (World.cell?_of_block hkx).trans y0
                have yy1 : wr.cell? ⟨bx, 1, none⟩ = _ := (World.cell?_of_block hkx).trans y1
                have hg7 := block_lt_of_cell yy0
                have hcl := hNm.len
                have hbne2 : ∀ q, (Value.slice Ax xs.length cx).ownBlock = some q → (Value.slice AR out.length cR).ownBlock ≠ some q := fun q hq e => by have := hobl q e; have := hxge q hq; omega
                have ho7 := ho6.step hzm (fun q hq hlt => hkm q (hbne2 q hq) (by have := hxge q hq; omega) hlt)
                have kD := (Kp.refl wr).alloc (.cells #[.slice Ax xs.length cx, .int .i64 xb] 30)
                have hBD := hBm.kp kD zbm
                have hND := hNm.kp kD
                have hobo : (Value.slice AR out.length cR).ownBlock ≠ some bo := fun e => by have := hNm.blk bo e; omega
                have zD : (wr.alloc (.cells #[.slice Ax xs.length cx, .int .i64 xb] 30)).heap.size = wr.heap.size + 1 := by simp
                replace hcl := hid hcl
                replace zD := hid zD
                go_wp2_with (at_builtin; refine wpl_append_flat (l := cssm) (m := [(⟨[.slice Ax xs.length cx, .int .i64 xb], rfl, by simp [Value.oneCell']⟩ : Elm 2)]) rfl (.tmp 77) (.tmp 79) rfl stRowM encC_len encC_one rfl hND.own rfl (Sl.one (R := Pl encC) wr [.slice Ax xs.length cx, .int .i64 xb] 30 2 _ rfl rfl) (by have := hcl.out; simp; omega) (by have := hcl.out; simp; omega) (Nat.zero_le _) ?_; intro v8 w8 hown8 hgrow8 hat8 hnil8; have hB8 := hBD.grown hgrow8 hobo (by have := zD.out; omega); have s1 := hB8.cell (j := 1) rfl; have s1f := hB8.free (j := 1) (by simp); obtain ⟨A8, c8, hv8, hc8, hm8⟩ := hown8.form; subst hv8)
                have hN8 := hND.snoc (S' := fun q => w3.heap.size ≤ q) (x := ⟨xs, xb⟩) hown8 hgrow8 hat8 (fun q => (Value.slice Ax xs.length cx).ownBlock = some q) (fun i hi => ⟨by have := hxge i hi; show w3.heap.size ≤ i; omega, hbne2 i hi, by have := hxlt i hi; have := zD.out; omega⟩) ((ho7.kp kD).imp fun w' ho => ⟨.slice Ax xs.length cx, rfl, ho.sl encTerm_len⟩) (fun i hi => hi) (by show w3.heap.size ≤ _; have := zD.out; omega)
                have hB9 := hB8.set (j := 1) (by simp) (.slice A8 (cssm ++ [(⟨[.slice Ax xs.length cx, .int .i64 xb], rfl, by simp [Value.oneCell']⟩ : Elm 2)]).length c8)
                have hN9 := hN8.kg (w' := w8.setCell ⟨bo, 1, none⟩ (.slice A8 (cssm ++ [(⟨[.slice Ax xs.length cx, .int .i64 xb], rfl, by simp [Value.oneCell']⟩ : Elm 2)]).length c8)) ((Kg.refl _ _).set (.inl rfl) _) (show ¬ w3.heap.size ≤ bo by omega)
                have hK9 := ((hKm.kp kD).grown hgrow8 (fun q hq => hNm.blk q hq)).set (p := ⟨bo, 1, none⟩) (.inl rfl) (.slice A8 (cssm ++ [(⟨[.slice Ax xs.length cx, .int .i64 xb], rfl, by simp [Value.oneCell']⟩ : Elm 2)]).length c8)
                simp only [List.set_cons_zero, List.set_cons_succ] at hB9
                have e9 : cssm.length + 1 = (out ++ [(⟨xs, xb⟩ : Row)]).length := by simp [hcl.out]
                have e8 : (cssm ++ [(⟨[.slice Ax xs.length cx, .int .i64 xb], rfl, by simp [Value.oneCell']⟩ : Elm 2)]).length = (out ++ [(⟨xs, xb⟩ : Row)]).length := by simp [hcl.out]
                rw [e8] at hB9 hN9 hK9
                rw [e9]
                refine ⟨⟨k + 1, _, out ++ [⟨xs, xb⟩], A8, c8, by omega, by go_num, hB9, hN9, by simp; omega, hN2, HO3, hK9⟩, ?_⟩
                simp [intOf]; omega
      · have HO2 : Hid (simpS s = ⟨s.box, out, s.graphs, s.cases⟩) := hid (by unfold simpS simpRows; rw [HO.out, List.take_of_length_le (by omega), qStep_eq s.box s.rows [] (by simp)])
        have hR9 := hR3.kg hKr (by have := B3.cells.1; have := block_lt_of_cell this; omega) (by omega)
        have hO9 := hO3.kg hKr hτ
        have hBF := hR9.set4 (.slice A1 s.box.length e1) (.slice AR out.length cR) (.slice A3 s.graphs.length e3) (.slice A4 s.cases.length e4)
        have kS := Kg.set4 wr (b + 1) (.slice A1 s.box.length e1) (.slice AR out.length cR) (.slice A3 s.graphs.length e3) (.slice A4 s.cases.length e4)
        have hO10 := (hO9.kg kS hτb).sysv
        have hN10 := (hN.kg kS (show ¬ w3.heap.size ≤ b + 1 by omega)).sl
        have kF := Kg.to_kp kwr kS (by have := hbw.out; omega)
        have p0 := hB.cell (j := 0) rfl
        have p1 := hB.cell (j := 1) rfl
        have p2 := hB.cell (j := 2) rfl
        have p3 := hB.cell (j := 3) rfl
        have hb1r : b + 1 < wr.heap.size := by omega
        have f0 := hR9.free (j := 0) (by simp)
        have f1 := hR9.free (j := 1) (by simp)
        have f2 := hR9.free (j := 2) (by simp)
        have f3 := hR9.free (j := 3) (by simp)
        have g0 := hR9.cell (j := 0) rfl
        have g1 := hR9.cell (j := 1) rfl
        have g2 := hR9.cell (j := 2) rfl
        have g3 := hR9.cell (j := 3) rfl
        clear hR3 hR9 hB hN hO3 hO9 c0 c1 c2 c3 B3
        go_wp2
        refine bodyPost_ret (results_cell_bx2 rfl _ _ (b + 1) [.slice A1 s.box.length e1, .slice AR out.length cR, .slice A3 s.graphs.length e3, .slice A4 s.cases.length e4] _ rfl hBF.range Try.underlying27 rfl (by kernel_rfl)) rfl ?_
        refine ⟨_, by rw [HN.out]; rfl, ?_, kF⟩
        rw [HN.out]
        dsimp only
        rw [HO2.out]
        obtain ⟨B1, f1, B2, f2, B3, f3, B4, f4, he, s1, s2, s3, s4⟩ := hO10
        injection he with he
        have he2 := congrArg Array.toList he
        simp only [List.cons.injEq, and_true] at he2
        obtain ⟨h1, h2, h3, h4⟩ := he2
        rw [← h1] at s1
        rw [← h3] at s3
        rw [← h4] at s4
        exact ⟨_, _, _, _, _, _, _, _, rfl, s1, hN10, s3, s4⟩
end Go.Proofs.Ytfllmnaillilhaa
