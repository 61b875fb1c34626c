/-
Whether lists of terms are equal: the walks.
Simplify: the walk.
Simplify: the walk.
-/
import Derived.Test.YtfllmnaillilhaaSD
namespace Go.Proofs.Ytfllmnaillilhaa
set_option linter.unusedSimpArgs false
set_option linter.unusedVariables false
open Go.RowKit

def termNe (a b c d : Int) : Bool := !(a == c && b == d)
set_option maxRecDepth 100000 in
theorem run_neq_term (w : World) (a b c d : Int) : (binOp .neq 49 (.agg #[.int .i64 a, .int .i64 b]) (.agg #[.int .i64 c, .int .i64 d])).run Try.prog w = .ok (.bool (termNe a b c d)) w := by
  unfold termNe
  have hu : Try.prog.underlying 49 = some (.struct (Try.prog.fieldsOf 49)) := by kernel_rfl
  have hf := run_equalIn_struct (P := Try.prog) w 9999 49 #[.int .i64 a, .int .i64 b] #[.int .i64 c, .int .i64 d] hu (by kernel_rfl)
  simp only [binOp]
  have hfs : (Try.prog.fieldsOf 49).toList = (match Try.prog.underlying 49 with | some (.struct fs) => fs.toList | _ => []) := rfl
  rw [Try.underlying49] at hfs
  simp only [Op.equal, Op.maxDepth, Sem.run_bind, hf, hfs]
  go_simp
  by_cases h1 : a = c
  · by_cases h2 : b = d <;> simp [h1, h2]
  · simp [h1]
def sameT : List Term → List Term → Bool
  | a :: l, b :: m => if termNe a.cell a.factor b.cell b.factor then false else sameT l m
  | _, _ => true
def eqT (a b : List Term) : Bool := decide (a.length = b.length) && sameT a b
theorem termNe_iff (a b : Term) : termNe a.cell a.factor b.cell b.factor = false ↔ a = b := by
  obtain ⟨x, y⟩ := a
  obtain ⟨u, v⟩ := b
  simp [termNe]
theorem eqT_iff : ∀ (a b : List Term), eqT a b = true ↔ a = b
  | [], [] => by simp [eqT, sameT]
  | [], _ :: _ => by simp [eqT]
  | _ :: _, [] => by simp [eqT]
  | x :: a, y :: b => by
    have ih := eqT_iff a b
    unfold eqT at *
    unfold sameT
    by_cases hx : termNe x.cell x.factor y.cell y.factor = true
    · rw [if_pos hx]
      have : x ≠ y := fun e => by rw [(termNe_iff x y).2 e] at hx; cases hx
      simp [this]
    · rw [if_neg hx]
      have hxy : x = y := (termNe_iff x y).1 (by simpa using hx)
      subst hxy
      simpa using ih
set_option maxRecDepth 8000 in
set_option maxHeartbeats 2000000 in
theorem EqualTerm_any (va vb : Value) (a b : List Term) (w : World) (ha : Terms w va a) (hb : Terms w vb b) :
    Calls Try.prog 34 #[va, vb] w fun e w' => e = .returned (.bool (eqT a b)) ∧ Kp w w' := by
  obtain ⟨A, c, rfl, hc, hm⟩ := ha.form
  obtain ⟨A', c', rfl, hc', hm'⟩ := hb.form
  by_cases hl : a.length = b.length
  · have HL := hid hl
    have l2 : (a.length != b.length) = false := by simp [hl]
    have l3 : ((a.length : Int) == (b.length : Int)) = true := by simp [hl]
    have l4 : a.length ≤ b.length := by omega
    clear hl
    go_enter Try.func34, Try.ntmps34
    go_wp2
    go_loopw [13] (fun i wr => ∃ k : Nat, k ≤ a.length ∧ i = .int .i64 k ∧ Hid (sameT a b = sameT (a.drop k) (b.drop k)) ∧ Kp w wr) (fun i _ => a.length - (intOf i).toNat)
    case atStart => exact ⟨0, Nat.zero_le _, rfl, rfl, Kp.refl _⟩
    case round =>
      obtain ⟨k, hk, rfl, HB, hbel⟩ := hrel
      by_cases hlt : k < a.length
      · have hlt' : k < b.length := by omega
        obtain ⟨g, o, rfl, hg, h1', h2'⟩ := ha.term hlt
        obtain ⟨g', o', rfl, hg', h3', h4'⟩ := hb.term hlt'
        have h1 := hbel.cellS h1'
        have h2 := hbel.cellS h2'
        have h3 := hbel.cellS h3'
        have h4 := hbel.cellS h4'
        have HD := hid (List.drop_eq_getElem_cons hlt)
        have HE := hid (List.drop_eq_getElem_cons hlt')
        clear ha hb h1' h2' h3' h4'
        generalize a[k] = r at *
        generalize b[k] = s at *
        obtain ⟨r1, r2⟩ := r
        obtain ⟨s1, s2⟩ := s
        dsimp only at h1 h2 h3 h4
        have q1 : (0 : Int) ≤ k := by omega
        have q2 : (k : Int) < a.length := by omega
        have q3 : (k : Int) < b.length := by omega
        have hneq := fun W a' b' c' d' => run_neq_term W a' b' c' d'
        cases hx : termNe r1 r2 s1 s2 with
        | true =>
          have HF : Hid (eqT a b = false) := hid (by unfold eqT; rw [HB.out, HD.out, HE.out, sameT, if_pos hx]; simp)
          go_wp2
          go_quiet (fail)
          go_wp2
          go_ret
          exact ⟨ret_bool HF.out.symm, hbel.drewN _⟩
        | false =>
          have HF : Hid (sameT a b = sameT (a.drop (k + 1)) (b.drop (k + 1))) := hid (by rw [HB.out, HD.out, HE.out, sameT, if_neg (by rw [hx]; simp)])
          go_wp2
          go_quiet (fail)
          go_wp2
          go_roundw
          case rel => exact ⟨k + 1, by omega, by go_num, HF, hbel.drewN _⟩
          case measure => simp [intOf]; omega
      · have HF : Hid (eqT a b = true) := hid (by unfold eqT; rw [HB.out, HL.out, decide_eq_true rfl, List.drop_of_length_le (by omega)]; simp [sameT])
        go_wp2
        go_ret
        exact ⟨ret_bool HF.out.symm, hbel⟩
  · have l1 : (a.length == b.length) = false := by simpa using hl
    have l2 : (a.length != b.length) = true := by simpa using hl
    have l3 : ((a.length : Int) == (b.length : Int)) = false := by simp; omega
    have l4 : ((a.length : Int) != (b.length : Int)) = true := by simp; omega
    have HF : Hid (eqT a b = false) := hid (by unfold eqT; rw [decide_eq_false hl]; rfl)
    clear hl
    go_enter Try.func34, Try.ntmps34
    go_wp2
    go_ret
    exact ⟨ret_bool HF.out.symm, Kp.refl _⟩
theorem sSimplify1_any (g : Nat) (vy vx : Value) (ys xs : List Term) (bd : Int) (w : World) (hy : Terms w vy ys) (hx : Terms w vx xs) (hg : w.cell? ⟨g, 0, none⟩ = some vx) :
    Calls Try.prog 44 #[.agg #[vy, .int .i64 bd], .pointer (some ⟨g, 0, none⟩)] w fun e w' => e = .returned (.bool (eqT ys xs)) ∧ Kp w w' := by
  have hgl := block_lt_of_cell hg
  obtain ⟨A, c, rfl, hc, hm⟩ := hy.form
  obtain ⟨A', c', rfl, hc', hm'⟩ := hx.form
  have k0 := (Kp.refl w).alloc (.cells #[.slice A ys.length c, .int .i64 bd] 30)
  go_enter Try.func44, Try.ntmps44
  go_wp2_with fail
  refine (EqualTerm_any _ _ ys xs _ (hy.keep (pl_stable _) k0) (hx.keep (pl_stable _) k0)).mono ?_
  rintro e w1 ⟨rfl, k1⟩
  generalize hx : eqT ys xs = x
  have Hx := hid hx
  clear hx
  go_wp2
  go_ret
  exact ⟨ret_bool (by rw [Hx.out]), k0.trans k1⟩
theorem sSimplify1_real : Real Try.prog 44 := ⟨_, Try.func44, by kernel_rfl, by kernel_rfl⟩
end Go.Proofs.Ytfllmnaillilhaa
namespace Go.Proofs.Ytfllmnaillilhaa
set_option linter.unusedSimpArgs false
set_option linter.unusedVariables false
open Go.RowKit

theorem SysO.kg {τ : Nat → Nat} {w w' : World} {vb vr vg vc : Value} {s : Sys} {g : Nat} (h : SysO τ w vb vr vg vc s) (hx : Kg w w' g) (hg : τ g = 0) : SysO τ w' vb vr vg vc s := by
  have keep : ∀ q t, t ≠ 0 → q < w.heap.size → τ q = t → w'.heap[q]? = w.heap[q]? := fun q t ht hq hτ => hx.block q hq fun e => ht (by rw [← hτ, Option.some.inj e, hg])
  obtain ⟨css, hr⟩ := h.rows
  obtain ⟨vs, c1, c2, c3, c4⟩ := h.cases
  refine ⟨h.box.owS _ hx.size fun q hq hlt => keep q 1 (by omega) hlt (h.boxT q hq), h.boxT, ⟨css, hr.step hx.size fun q hq hlt => keep q 2 (by omega) hlt hq⟩, h.graphs.step hx.size fun q hq hlt => keep q 3 (by omega) hlt hq,
    vs, c1.owS _ hx.size fun q hq hlt => keep q 4 (by omega) hlt (c3 q hq), c2, c3, fun j h1 h2 => ?_⟩
  obtain ⟨v, c, e, hn⟩ := c4 j h1 h2
  exact ⟨v, c, e, hn.step hx.size fun q hq hlt => keep q (5 + j) (by omega) hlt hq⟩
theorem SysO.kp {τ : Nat → Nat} {w w' : World} {vb vr vg vc : Value} {s : Sys} (h : SysO τ w vb vr vg vc s) (hk : Kp w w') (B : Nat) (ht : Tags B w τ) : SysO τ w' vb vr vg vc s :=
  h.kg (hk.kg w.heap.size) (by
    by_cases h0 : τ w.heap.size = 0
    · exact h0
    · have := (ht _ h0).2
      omega)
/-- a row added to the simplified ones -/
def simpAdd (out : List Row) (x : Row) : List Row :=
  if 0 ≤ idxF (fun y => eqT y.terms x.terms) 0 out then out.set (idxF (fun y => eqT y.terms x.terms) 0 out).toNat ⟨(out.getD (idxF (fun y => eqT y.terms x.terms) 0 out).toNat ⟨[], 0⟩).terms, min (out.getD (idxF (fun y => eqT y.terms x.terms) 0 out).toNat ⟨[], 0⟩).bound x.bound⟩ else out ++ [x]
def simpStep (b : List Rng) (out : List Row) (r : Row) : List Row := if (sumB (normR r) b).2 ≤ (normR r).bound then out else simpAdd out (normR r)
def simpRows (b : List Rng) (rows : List Row) : List Row := rows.foldl (simpStep b) []
def simpS (s : Sys) : Sys := ⟨s.box, simpRows s.box s.rows, s.graphs, s.cases⟩
def zSys : Sys := ⟨[], [], [], []⟩
/-- what Simplify returns -/
def SimpR (s : Sys) : Sys × Int := if validS s then (simpS s, 0) else (zSys, 1)
theorem zSys_v (w : World) : SysV w (.agg #[.slice none 0 0, .slice none 0 0, .slice none 0 0, .slice none 0 0]) zSys := ⟨none, 0, none, 0, none, 0, none, 0, rfl, Sl.nil _ _ _, Sl.nil _ _ _, Sl.nil _ _ _, Sl.nil _ _ _⟩
theorem simp_foldl (b : List Rng) (rows : List Row) (k : Nat) (h : k < rows.length) : (rows.take (k + 1)).foldl (simpStep b) [] = simpStep b ((rows.take k).foldl (simpStep b) []) rows[k] := by
  rw [List.take_succ_eq_append_getElem h, List.foldl_append]
  rfl
/-- a bound changed -/
theorem NL.bound {S : Nat → Prop} {w : World} {g n c : Nat} {css : List (Elm 2)} {xs : List Row} (h : NL rdRow 30 2 S w (.slice (some ⟨g, 0, none⟩) n c) css xs) (hn : n = xs.length) {j : Nat} (h1 : j < css.length) (h2 : j < xs.length) (m : Int) :
    NL rdRow 30 2 S (w.setCell ⟨g, j * 2 + 1, none⟩ (.int .i64 m)) (.slice (some ⟨g, 0, none⟩) n c) (css.set j (css[j].set 1 (.int .i64 m) rfl)) (xs.set j ⟨xs[j].terms, m⟩) := by
  have hl := h.len
  have own := h.own.setE (by omega) h1 (j := 1) (by omega) (u := .int .i64 m) rfl
  have hkg : Kg w (w.setCell ⟨g, j * 2 + 1, none⟩ (.int .i64 m)) g := (Kg.refl _ _).set (.inl rfl) _
  obtain ⟨T, hT, ho⟩ := h.els j h1 h2
  refine h.put rfl own hkg T (fun i hi => ⟨(hT i hi).1, (hT i hi).2.1, by rw [set_size]; exact (hT i hi).2.2⟩) ((ho.kg hkg fun hTg => (hT g hTg).2.1 rfl).imp fun w' hw' => ?_)
  obtain ⟨tv, hcs, ht⟩ := hw'
  refine ⟨tv, ?_, ht⟩
  show css[j].val.set 1 _ = _
  rw [hcs]
  rfl
end Go.Proofs.Ytfllmnaillilhaa
namespace Go.Proofs.Ytfllmnaillilhaa
set_option linter.unusedSimpArgs false
set_option linter.unusedVariables false
open Go.RowKit

theorem Bx.set4 {w : World} {b : Nat} {x0 x1 x2 x3 : Value} (h : Bx w b [x0, x1, x2, x3]) (u0 u1 u2 u3 : Value) : Bx ((((w.setCell ⟨b, 0, none⟩ u0).setCell ⟨b, 1, none⟩ u1).setCell ⟨b, 2, none⟩ u2).setCell ⟨b, 3, none⟩ u3) b [u0, u1, u2, u3] := by
  have h1 := (((h.set (j := 0) (by simp) u0).set (j := 1) (by simp) u1).set (j := 2) (by simp) u2).set (j := 3) (by simp) u3
  exact h1
theorem Kg.set4 (w : World) (b : Nat) (u0 u1 u2 u3 : Value) : Kg w ((((w.setCell ⟨b, 0, none⟩ u0).setCell ⟨b, 1, none⟩ u1).setCell ⟨b, 2, none⟩ u2).setCell ⟨b, 3, none⟩ u3) b :=
  ((((Kg.refl w b).set (p := ⟨b, 0, none⟩) (.inl rfl) _).set (p := ⟨b, 1, none⟩) (.inl rfl) _).set (p := ⟨b, 2, none⟩) (.inl rfl) _).set (p := ⟨b, 3, none⟩) (.inl rfl) _
set_option maxRecDepth 8000 in
set_option maxHeartbeats 16000000 in
theorem sSimplify_any (va : Value) (s : Sys) (w : World) (hs : SysV w va s) :
    Calls Try.prog 13 #[va] w fun e w' => ∃ v, e = .returned (.tuple #[v, .int .i64 (SimpR s).2]) ∧ SysV w' v (SimpR s).1 ∧ Kp w w' := by
  have hs' := hs
  obtain ⟨Ab, cb, Ar, cr, Ag, cg, Ac, cc, rfl, hb, hr, hg, hc⟩ := hs'
  obtain ⟨l1, m1⟩ := hb.caps
  obtain ⟨l2, m2⟩ := hr.caps
  obtain ⟨l3, m3⟩ := hg.caps
  obtain ⟨l4, m4⟩ := hc.caps
  have k0 := ((Kp.refl w).alloc (.cells #[.slice Ab s.box.length cb, .slice Ar s.rows.length cr, .slice Ag s.graphs.length cg, .slice Ac s.cases.length cc] 27)).alloc (.cells #[.slice none 0 0, .slice none 0 0, .slice none 0 0, .slice none 0 0] 27)
  have B0 := (SysB.new w #[.slice Ab s.box.length cb, .slice Ar s.rows.length cr, .slice Ag s.graphs.length cg, .slice Ac s.cases.length cc] 27).keep ((Kp.refl _).alloc (.cells #[.slice none 0 0, .slice none 0 0, .slice none 0 0, .slice none 0 0] 27))
  have hR := Bx.new (w.alloc (.cells #[.slice Ab s.box.length cb, .slice Ar s.rows.length cr, .slice Ag s.graphs.length cg, .slice Ac s.cases.length cc] 27)) #[.slice none 0 0, .slice none 0 0, .slice none 0 0, .slice none 0 0] 27
  rw [World.size_alloc] at hR
  have hzw : ((w.alloc (.cells #[.slice Ab s.box.length cb, .slice Ar s.rows.length cr, .slice Ag s.graphs.length cg, .slice Ac s.cases.length cc] 27)).alloc (.cells #[.slice none 0 0, .slice none 0 0, .slice none 0 0, .slice none 0 0] 27)).heap.size = w.heap.size + 2 := by simp
  go_enter Try.func13, Try.ntmps13
  go_wp2_with fail
  generalize (w.alloc (.cells #[.slice Ab s.box.length cb, .slice Ar s.rows.length cr, .slice Ag s.graphs.length cg, .slice Ac s.cases.length cc] 27)).alloc (.cells #[.slice none 0 0, .slice none 0 0, .slice none 0 0, .slice none 0 0] 27) = w0 at *
  generalize hbw : w.heap.size = b at *
  replace hbw := hid hbw
  replace hzw := hid hzw
  refine (sValid_any _ s _ (hs.keep k0)).mono ?_
  rintro e w1 ⟨rfl, k1⟩
  have hb1 : b + 1 < w1.heap.size := by have := k1.size; have := hzw.out; omega
  have hR1 := hR.kp k1 (by have := hzw.out; omega)
  replace B0 := B0.keep k1
  have hz1 : b + 2 ≤ w1.heap.size := by have := k1.size; have := hzw.out; omega
  replace k1 := k0.trans k1
  obtain ⟨c0, c1, c2, c3⟩ := B0.cells
  have hgl := block_lt_of_cell c0
  cases hV : validS s with
  | false =>
    have HN : Hid (SimpR s = (zSys, 1)) := hid (by unfold SimpR; rw [hV]; rfl)
    have f0 := hR1.free (j := 0) (by simp)
    have f1 := hR1.free (j := 1) (by simp)
    have f2 := hR1.free (j := 2) (by simp)
    have f3 := hR1.free (j := 3) (by simp)
    have g0 := hR1.cell (j := 0) rfl
    have g1 := hR1.cell (j := 1) rfl
    have g2 := hR1.cell (j := 2) rfl
    have g3 := hR1.cell (j := 3) rfl
    have hBF := hR1.set4 (.slice none 0 0) (.slice none 0 0) (.slice none 0 0) (.slice none 0 0)
    have kF := Kg.to_kp k1 (Kg.set4 w1 (b + 1) (.slice none 0 0) (.slice none 0 0) (.slice none 0 0) (.slice none 0 0)) (by have := hbw.out; omega)
    clear hV hR1 hR
    go_wp2
    refine bodyPost_ret (results_cell_bx2 rfl _ _ (b + 1) [.slice none 0 0, .slice none 0 0, .slice none 0 0, .slice none 0 0] _ rfl hBF.range Try.underlying27 rfl (by kernel_rfl)) rfl ?_
    exact ⟨_, by rw [HN.out]; rfl, by rw [HN.out]; exact zSys_v _, kF⟩
  | true =>
    have HN : Hid (SimpR s = (simpS s, 0)) := hid (by unfold SimpR; rw [hV]; rfl)
    have HVP := hid (validS_parts hV)
    have hsz := size_of hV
    clear hV
    go_wp2_with fail
    refine (sClone_any _ s _ (hs.keep k1) hsz).mono ?_
    rintro e w2 ⟨vb, vr, vg, vc, τ, rfl, hT, hO, k2⟩
    obtain ⟨A1, e1, rfl, _, _⟩ := hO.box.form
    obtain ⟨css0, hr0⟩ := hO.rows
    obtain ⟨A2, e2, rfl, _, _⟩ := hr0.form
    obtain ⟨A3, e3, rfl, _, _⟩ := hO.graphs.here.form
    obtain ⟨A4, e4, rfl, _, _⟩ : ∃ A c, vc = .slice A s.cases.length c ∧ s.cases.length ≤ c ∧ c ≤ 9223372036854775807 := by
      obtain ⟨vs, o4, l4, -, -⟩ := hO.cases
      rw [← l4]
      exact o4.form
    clear hr0 c0 c1 c2 c3 hgl
    have kA := (Kp.refl w2).alloc (.cells #[.slice A1 s.box.length e1, .slice none 0 0, .slice A3 s.graphs.length e3, .slice A4 s.cases.length e4] 27)
    have hB := Bx.new w2 #[.slice A1 s.box.length e1, .slice none 0 0, .slice A3 s.graphs.length e3, .slice A4 s.cases.length e4] 27
    have hO3 := hO.kp kA _ hT
    have hR3 := (hR1.kp k2 hb1).kp kA (by have := k2.size; omega)
    have B3 := (B0.keep k2).keep kA
    have hbo := alloc_lt w2 (.cells #[.slice A1 s.box.length e1, .slice none 0 0, .slice A3 s.graphs.length e3, .slice A4 s.cases.length e4] 27)
    have k3 := (k1.trans k2).trans kA
    have hτ : τ w2.heap.size = 0 := by
      by_cases h : τ w2.heap.size = 0
      · exact h
      · have := (hT _ h).2
        omega
    have hτb : τ (b + 1) = 0 := by
      by_cases h : τ (b + 1) = 0
      · exact h
      · have := (hT _ h).1
        omega
    have hlo : b + 2 ≤ w2.heap.size := by have := k2.size; omega
    obtain ⟨c0, c1, c2, c3⟩ := (B0.keep k2).cells
    have hgl := block_lt_of_cell c0
    clear hO hR hR1 B0 k2 kA hT
    go_wp2
    clear c0 c1 c2 c3 hgl
    generalize w2.alloc (.cells #[.slice A1 s.box.length e1, .slice none 0 0, .slice A3 s.graphs.length e3, .slice A4 s.cases.length e4] 27) = w3 at *
    generalize w2.heap.size = bo at *
    obtain ⟨c0, c1, c2, c3⟩ := B3.cells
    have hgb : b ≠ bo := by omega
    go_loopw [21] (fun i wr => ∃ (k : Nat) (css : List (Elm 2)) (out : List Row) (AR : Option Addr) (cR : Nat), k ≤ s.rows.length ∧ i = .int .i64 k ∧ Bx wr bo [.slice A1 s.box.length e1, .slice AR out.length cR, .slice A3 s.graphs.length e3, .slice A4 s.cases.length e4] ∧
      NL rdRow 30 2 (fun q => w3.heap.size ≤ q) wr (.slice AR out.length cR) css out ∧ out.length ≤ k ∧ Hid (out = (s.rows.take k).foldl (simpStep s.box) []) ∧ Kg w3 wr bo) (fun i _ => s.rows.length - (intOf i).toNat)
    case atStart => exact ⟨0, [], [], none, 0, Nat.zero_le _, rfl, hB, NL.nil _ _ _ _ _, Nat.le_refl _, hid (by simp), Kg.refl _ _⟩
    case round =>
      clear hB
      obtain ⟨k, css, out, AR, cR, hk, rfl, hB, hN, hol, HO, hKr⟩ := hrel
      have hsz3 := hKr.size
      have hbor : bo < wr.heap.size := by omega
      have kwr : Kp w wr := Kg.to_kp k3 hKr (by have := hbw.out; omega)
      have d0 := hKr.cellS c0 hgb
      have d1 := hKr.cellS c1 hgb
      have hgl := block_lt_of_cell d0
      by_cases hlt : k < s.rows.length
      · obtain ⟨g, o, A5, e5, rfl, hg5, h1, h2, hTm⟩ := (hr.keep rdRow_stable kwr).row hlt
        have HF := hid (simp_foldl s.box s.rows k hlt)
        have hfit := (validB_ok HVP.out.2.2.1.2).2.2 s.rows[k] (List.getElem_mem hlt)
        have hsm := normal_small hfit
        obtain ⟨-, fl, fb1, fb2⟩ := fitsB_ok hfit
        have hbx := hsz.box
        have hrl := hsz.rows
        clear hfit c0 c1 c2 c3
        generalize s.rows[k] = r at *
        obtain ⟨ts, bd⟩ := r
        dsimp only at h1 h2 hTm fl fb1 fb2 hsm
        replace hsm := hid hsm
        go_wp2_with fail
        refine (snormal_any _ ts bd _ (hTm.keep (pl_stable _) ((Kp.refl _).alloc _)) hsm.out (by omega) fb1 fb2).mono ?_
        rintro e w5 ⟨vx, rfl, ownx, k5⟩
        replace k5 := ((Kp.refl wr).alloc _).trans k5
        have hst : Hid (simpStep s.box out ⟨ts, bd⟩ = if (sumB (normR ⟨ts, bd⟩) s.box).2 ≤ (normR ⟨ts, bd⟩).bound then out else simpAdd out (normR ⟨ts, bd⟩)) := hid rfl
        generalize normR ⟨ts, bd⟩ = x at *
        obtain ⟨xs, xb⟩ := x
        dsimp only at ownx ⊢ hst
        obtain ⟨Ax, cx, rfl, hcx, hmx⟩ := ownx.form
        have kC := (Kp.refl w5).alloc (.cells #[.slice Ax xs.length cx, .int .i64 xb] 30)
        have x0 := alloc_cell w5 #[.slice Ax xs.length cx, .int .i64 xb] 30 0 rfl
        have x1 := alloc_cell w5 #[.slice Ax xs.length cx, .int .i64 xb] 30 1 rfl
        have zx := alloc_lt w5 (.cells #[.slice Ax xs.length cx, .int .i64 xb] 30)
        have e0 := k5.cellS d0
        have hxl := block_lt_of_cell e0
        go_wp2_with fail
        refine (Sum_any _ _ ⟨xs, xb⟩ s.box _ ((ownx.sl encTerm_len).keep (pl_stable _) kC) (hb.keep (pl_stable _) ((kwr.trans k5).trans kC))).mono ?_
        rintro e w6 ⟨rfl, k6⟩
        have k56 := k5.trans (kC.trans k6)
        generalize hsum : sumB ⟨xs, xb⟩ s.box = sm at *
        obtain ⟨sl, sh⟩ := sm
        dsimp only at hst ⊢
        have hB6 := hB.kp k56 hbor
        have hN6 := hN.kp k56
        have hK6 := hKr.trans (k56.kg bo)
        have y0 := k6.cellS x0
        have y1 := k6.cellS x1
        have zy := Nat.lt_of_lt_of_le zx k6.size
        have hobl := hN.own.blk_lt
        have hxge := ownx.ge
        have hxlt := ownx.blk_lt
        have ho6 := ((ownx.kp kC).kp k6).owS
        have hT6 := ((ownx.sl encTerm_len).keep (pl_stable _) kC).keep (pl_stable _) k6
        have z56 := kC.size
        have z66 := k6.size
        have zr5 := k5.size
        clear hB hN hKr x0 x1 zx ownx kC k6 k5 k56 hsum e0 hxl
        simp only [World.size_alloc] at hxge z56
        generalize w5.heap.size = bx at *
        by_cases hle : sh ≤ xb
        · have e10 : decide (sh ≤ xb) = true := decide_eq_true hle
          have HO2 : Hid (out = (s.rows.take (k + 1)).foldl (simpStep s.box) []) := hid (by rw [HF.out, ← HO.out, hst.out, if_pos hle])
          go_wp2
          go_roundw
          case rel => exact ⟨k + 1, css, out, AR, cR, by omega, by go_num, hB6, hN6, by omega, HO2, hK6⟩
          case measure => simp [intOf]; omega
        · have e10 : decide (sh ≤ xb) = false := decide_eq_false hle
          have q1 := hB6.cell (j := 1) rfl
          have hbo6 := block_lt_of_cell q1
          have HO1 : Hid ((s.rows.take (k + 1)).foldl (simpStep s.box) [] = simpAdd out ⟨xs, xb⟩) := hid (by rw [HF.out, ← HO.out, hst.out, if_neg hle])
          go_wp2_with fail
          refine (IndexFuncRow_any (fun y => eqT y.terms xs) 44 [.pointer (some ⟨bx, 0, none⟩)] _ out _ hN6.sl sSimplify1_real (fun w' A1 c1 ts bd hk hT => sSimplify1_any bx _ _ ts xs bd w' hT (hT6.keep (pl_stable _) hk) (hk.cellS y0))).mono ?_
          rintro e w7 ⟨rfl, k7⟩
          have hB7 := hB6.kp k7 hbo6
          have hN7 := hN6.kp k7
          have hK7 := hK6.trans (k7.kg bo)
          have u0 := k7.cellS y0
          have u1 := k7.cellS y1
          have zu := Nat.lt_of_lt_of_le zy k7.size
          have ho7 := ho6.kp k7
          have hbo7 := Nat.lt_of_lt_of_le hbo6 k7.size
          have z77 := k7.size
          clear hB6 hN6 hK6 y0 y1 zy ho6 hT6 q1 k7
          rcases idxF_cases (fun y : Row => eqT y.terms xs) 0 out with ⟨hi, -⟩ | ⟨j, hj, hi, -, -⟩
          · rw [hi]
            have HO2 : Hid (out ++ [⟨xs, xb⟩] = (s.rows.take (k + 1)).foldl (simpStep s.box) []) := hid (by rw [HO1.out]; unfold simpAdd; rw [hi, if_neg (by omega)])
            have hcl := hN7.len
            have q1 := hB7.cell (j := 1) rfl
            have kD := (Kp.refl w7).alloc (.cells #[.slice Ax xs.length cx, .int .i64 xb] 30)
            have hBD := hB7.kp kD hbo7
            have hND := hN7.kp kD
            have hobo : (Value.slice AR out.length cR).ownBlock ≠ some bo := fun e => by have := hN7.blk bo e; omega
            have zD : (w7.alloc (.cells #[.slice Ax xs.length cx, .int .i64 xb] 30)).heap.size = w7.heap.size + 1 := by simp
            replace hcl := hid hcl
            replace zD := hid zD
            clear hi
            go_wp2_with (at_builtin; refine wpl_append_flat (l := css) (m := [(⟨[.slice Ax xs.length cx, .int .i64 xb], rfl, by simp [Value.oneCell']⟩ : Elm 2)]) rfl (.tmp 59) (.tmp 61) rfl stRowM encC_len encC_one rfl hND.own rfl (Sl.one (R := Pl encC) w7 [.slice Ax xs.length cx, .int .i64 xb] 30 2 _ rfl rfl) (by have := hcl.out; simp; omega) (by have := hcl.out; simp; omega) (Nat.zero_le _) ?_; intro v8 w8 hown8 hgrow8 hat8 hnil8; have hB8 := hBD.grown hgrow8 hobo (by have := zD.out; omega); have s1 := hB8.cell (j := 1) rfl; have s1f := hB8.free (j := 1) (by simp); obtain ⟨A8, c8, hv8, hc8, hm8⟩ := hown8.form; subst hv8)
            have hN8 := hND.snoc (S' := fun q => w3.heap.size ≤ q) (x := ⟨xs, xb⟩) hown8 hgrow8 hat8 (fun q => (Value.slice Ax xs.length cx).ownBlock = some q) (fun i hi => ⟨by have := hxge i hi; show w3.heap.size ≤ i; omega, fun e => by have := hobl i e; have := hxge i hi; omega, by have := hxlt i hi; have := zD.out; omega⟩) ((ho7.kp kD).imp fun w' ho => ⟨.slice Ax xs.length cx, rfl, ho.sl encTerm_len⟩) (fun i hi => hi) (by show w3.heap.size ≤ _; have := zD.out; omega)
            have hB9 := hB8.set (j := 1) (by simp) (.slice A8 (css ++ [(⟨[.slice Ax xs.length cx, .int .i64 xb], rfl, by simp [Value.oneCell']⟩ : Elm 2)]).length c8)
            have hN9 := hN8.kg (w' := w8.setCell ⟨bo, 1, none⟩ (.slice A8 (css ++ [(⟨[.slice Ax xs.length cx, .int .i64 xb], rfl, by simp [Value.oneCell']⟩ : Elm 2)]).length c8)) ((Kg.refl _ _).set (.inl rfl) _) (show ¬ w3.heap.size ≤ bo by omega)
            have hK9 := ((hK7.kp kD).grown hgrow8 (fun q hq => hN7.blk q hq)).set (p := ⟨bo, 1, none⟩) (.inl rfl) (.slice A8 (css ++ [(⟨[.slice Ax xs.length cx, .int .i64 xb], rfl, by simp [Value.oneCell']⟩ : Elm 2)]).length c8)
            simp only [List.set_cons_zero, List.set_cons_succ] at hB9
            have e9 : css.length + 1 = (out ++ [(⟨xs, xb⟩ : Row)]).length := by simp [hcl.out]
            have e8 : (css ++ [(⟨[.slice Ax xs.length cx, .int .i64 xb], rfl, by simp [Value.oneCell']⟩ : Elm 2)]).length = (out ++ [(⟨xs, xb⟩ : Row)]).length := by simp [hcl.out]
            rw [e8] at hB9 hN9 hK9
            rw [e9]
            refine ⟨⟨k + 1, _, out ++ [⟨xs, xb⟩], A8, c8, by omega, by go_num, hB9, hN9, by simp; omega, HO2, hK9⟩, ?_⟩
            simp [intOf]; omega
          · rw [Nat.zero_add] at hi
            rw [hi]
            have hjc : j < css.length := by have := hN7.len; omega
            obtain ⟨yts, ybd, hyo⟩ : ∃ a b, out[j] = ⟨a, b⟩ := ⟨_, _, rfl⟩
            have HO2 : Hid (out.set j ⟨yts, min ybd xb⟩ = (s.rows.take (k + 1)).foldl (simpStep s.box) []) := hid (by
              rw [HO1.out]
              unfold simpAdd
              rw [hi, if_pos (by omega), Int.toNat_natCast]
              have : out.getD j ⟨[], 0⟩ = ⟨yts, ybd⟩ := by simp [List.getD, hj, hyo]
              rw [this])
            obtain ⟨T, hTj, hoj⟩ := hN7.els j hjc hj
            obtain ⟨tv, hcs, -⟩ := hoj.here
            obtain ⟨g2, rfl, -, hg2⟩ := hN7.own.at_ (by have := hN7.len; omega)
            have cj1 : w7.cell? ⟨g2, j * 2 + 1, none⟩ = some (.int .i64 ybd) := by
              have := hN7.own.cellAt encC_len (by have := hN7.len; omega) hjc (j := 1) (by omega)
              rw [this]
              show css[j].val[1]? = _
              rw [hcs, hyo]; rfl
            have fj1 : w7.frozen? ⟨g2, j * 2 + 1, none⟩ = false := hN7.own.frozen (by have := hN7.len; omega) _
            have q1 := hB7.cell (j := 1) rfl
            have hg2bo : g2 ≠ bo := fun e => by have := hN7.blk g2 rfl; omega
            have hge2 := hN7.blk g2 rfl
            have hB9 := hB7.kg (w' := w7.setCell ⟨g2, j * 2 + 1, none⟩ (.int .i64 (min ybd xb))) (g := g2) ((Kg.refl _ _).set (.inl rfl) _) hbo7 (fun e => hg2bo e.symm)
            have hN9 := hN7.bound rfl hjc hj (min ybd xb)
            have hK9 : Kg w3 (w7.setCell ⟨g2, j * 2 + 1, none⟩ (.int .i64 (min ybd xb))) bo := hK7.set (.inr hge2) _
            rw [hyo] at hN9
            have hln : (out.set j ⟨yts, min ybd xb⟩).length = out.length := List.length_set ..
            have j1 : (0 : Int) ≤ j := by omega
            have j2 : (j : Int) < out.length := by omega
            clear hoj hTj hcs hi
            rcases (show xb < ybd ∨ ybd ≤ xb by omega) with hmn | hmn
            · have hm : min ybd xb = xb := by omega
              rw [hm] at hN9 hB9 hK9 HO2 hln
              go_wp2
              have hSf : ∀ W : World, W.heap[bo]? = w7.heap[bo]? → W.heap[g2]? = w7.heap[g2]? → W.heap[bx]? = w7.heap[bx]? → (W.cell? ⟨bo, 1, none⟩ = some (.slice (some ⟨g2, 0, none⟩) out.length cR) ∧ W.cell? ⟨g2, j * 2 + 1, none⟩ = some (.int .i64 ybd) ∧ W.frozen? ⟨g2, j * 2 + 1, none⟩ = false ∧ W.cell? ⟨bx, 1, none⟩ = some (.int .i64 xb)) := fun W h1 h2 h3 => ⟨(World.cell?_of_block h1).trans q1, (World.cell?_of_block h2).trans cj1, (World.frozen?_of_block h2).trans fj1, (World.cell?_of_block h3).trans u1⟩
              refine beginT 14 (S := fun W => W.cell? ⟨bo, 1, none⟩ = some (.slice (some ⟨g2, 0, none⟩) out.length cR) ∧ W.cell? ⟨g2, j * 2 + 1, none⟩ = some (.int .i64 ybd) ∧ W.frozen? ⟨g2, j * 2 + 1, none⟩ = false ∧ W.cell? ⟨bx, 1, none⟩ = some (.int .i64 xb)) (by kernel_rfl) (hSf _ rfl rfl rfl) (fun hHeld => ?_)
              refine take_atT 0 44 (v := ?_) rfl rfl (by kernel_rfl) (by kernel_rfl) (by kernel_rfl) (by kernel_rfl) (by kernel_rfl) (fun _ _ _ h => h) hHeld (Or.inl ⟨by kernel_rfl, ?_⟩) ?_
              rotate_left
              · intro w hSw; (try dsimp only at hSw); go_simp; try with_reducible rfl
              simp only [Act.put, List.setIfInBounds_toArray, List.set_cons_zero, List.set_cons_succ]
              refine take_atT 1 45 (v := ?_) rfl rfl (by kernel_rfl) (by kernel_rfl) (by kernel_rfl) (by kernel_rfl) (by kernel_rfl) (fun _ _ _ h => h) hHeld (Or.inl ⟨by kernel_rfl, ?_⟩) ?_
              rotate_left
              · intro w hSw; (try dsimp only at hSw); go_simp; try with_reducible rfl
              simp only [Act.put, List.setIfInBounds_toArray, List.set_cons_zero, List.set_cons_succ]
              refine take_atT 2 46 (v := ?_) rfl rfl (by kernel_rfl) (by kernel_rfl) (by kernel_rfl) (by kernel_rfl) (by kernel_rfl) (fun _ _ _ h => h) hHeld (Or.inl ⟨by kernel_rfl, ?_⟩) ?_
              rotate_left
              · intro w hSw; (try dsimp only at hSw); go_simp; try with_reducible rfl
              simp only [Act.put, List.setIfInBounds_toArray, List.set_cons_zero, List.set_cons_succ]
              refine take_atT 3 47 (v := ?_) rfl rfl (by kernel_rfl) (by kernel_rfl) (by kernel_rfl) (by kernel_rfl) (by kernel_rfl) (fun _ _ _ h => h) hHeld (Or.inl ⟨by kernel_rfl, ?_⟩) ?_
              rotate_left
              · intro w hSw; (try dsimp only at hSw); go_simp; try with_reducible rfl
              simp only [Act.put, List.setIfInBounds_toArray, List.set_cons_zero, List.set_cons_succ]
              refine take_atT 4 48 (v := ?_) rfl rfl (by kernel_rfl) (by kernel_rfl) (by kernel_rfl) (by kernel_rfl) (by kernel_rfl) (fun _ _ _ h => h) hHeld (Or.inl ⟨by kernel_rfl, ?_⟩) ?_
              rotate_left
              · intro w hSw; (try dsimp only at hSw); go_simp; try with_reducible rfl
              simp only [Act.put, List.setIfInBounds_toArray, List.set_cons_zero, List.set_cons_succ]
              refine take_atT 5 49 (v := ?_) rfl rfl (by kernel_rfl) (by kernel_rfl) (by kernel_rfl) (by kernel_rfl) (by kernel_rfl) (fun _ _ _ h => h) hHeld (Or.inl ⟨by kernel_rfl, ?_⟩) ?_
              rotate_left
              · intro w hSw; (try dsimp only at hSw); go_simp; try with_reducible rfl
              simp only [Act.put, List.setIfInBounds_toArray, List.set_cons_zero, List.set_cons_succ]
              refine take_atT 6 50 (v := ?_) rfl rfl (by kernel_rfl) (by kernel_rfl) (by kernel_rfl) (by kernel_rfl) (by kernel_rfl) (fun _ _ _ h => h) hHeld (Or.inl ⟨by kernel_rfl, ?_⟩) ?_
              rotate_left
              · intro w hSw; (try dsimp only at hSw); go_simp; try with_reducible rfl
              simp only [Act.put, List.setIfInBounds_toArray, List.set_cons_zero, List.set_cons_succ]
              refine take_atT 7 51 (v := ?_) rfl rfl (by kernel_rfl) (by kernel_rfl) (by kernel_rfl) (by kernel_rfl) (by kernel_rfl) (fun _ _ _ h => h) hHeld (Or.inl ⟨by kernel_rfl, ?_⟩) ?_
              rotate_left
              · intro w hSw; (try dsimp only at hSw); go_simp; try with_reducible rfl
              simp only [Act.put, List.setIfInBounds_toArray, List.set_cons_zero, List.set_cons_succ]
              refine take_atT 8 52 (v := ?_) rfl rfl (by kernel_rfl) (by kernel_rfl) (by kernel_rfl) (by kernel_rfl) (by kernel_rfl) (fun _ _ _ h => h) hHeld (Or.inl ⟨by kernel_rfl, ?_⟩) ?_
              rotate_left
              · intro w hSw; (try dsimp only at hSw); go_simp; try with_reducible rfl
              simp only [Act.put, List.setIfInBounds_toArray, List.set_cons_zero, List.set_cons_succ]
              refine take_atT 9 53 (v := ?_) rfl rfl (by kernel_rfl) (by kernel_rfl) (by kernel_rfl) (by kernel_rfl) (by kernel_rfl) (fun _ _ _ h => h) hHeld (Or.inl ⟨by kernel_rfl, ?_⟩) ?_
              rotate_left
              · intro w hSw; (try dsimp only at hSw); go_simp; try with_reducible rfl
              simp only [Act.put, List.setIfInBounds_toArray, List.set_cons_zero, List.set_cons_succ]
              refine take_atT 10 54 (v := ?_) rfl rfl (by kernel_rfl) (by kernel_rfl) (by kernel_rfl) (by kernel_rfl) (by kernel_rfl) (fun _ _ _ h => h) hHeld (Or.inl ⟨by kernel_rfl, ?_⟩) ?_
              rotate_left
              · intro w hSw; (try dsimp only at hSw); go_simp; try with_reducible rfl
              simp only [Act.put, List.setIfInBounds_toArray, List.set_cons_zero, List.set_cons_succ]
              refine take_atT 11 55 (v := ?_) rfl rfl (by kernel_rfl) (by kernel_rfl) (by kernel_rfl) (by kernel_rfl) (by kernel_rfl) (fun _ _ _ h => h) hHeld (Or.inl ⟨by kernel_rfl, ?_⟩) ?_
              rotate_left
              · intro w hSw; (try dsimp only at hSw); go_simp; try with_reducible rfl
              simp only [Act.put, List.setIfInBounds_toArray, List.set_cons_zero, List.set_cons_succ]
              refine stepT (i := 12) (o := _) (by kernel_rfl) rfl (fun K hK => ?_)
              go_simp
              refine hK.out _ _ hHeld (fun hHeld2 => ?_)
              clear hK K hHeld
              have hHeld := hHeld2
              clear hHeld2
              refine stepT (i := 13) (o := _) (by kernel_rfl) rfl (fun K hK => ?_)
              go_simp
              refine hK.out _ _ hHeld (fun hHeld2 => ?_)
              clear hK K hHeld
              have hHeld := hHeld2
              clear hHeld2
              obtain ⟨k8, k9, k10, k11⟩ := hHeld
              clear hSf cj1 fj1 q1
              refine lastT (o := _) (by kernel_rfl) rfl (fun K hK => ?_)
              go_simp
              refine hK.out _ _ ?_
              clear hK K
              refine doneT (by kernel_rfl) ?_ _
              go_wp2
              go_roundw
              case rel => exact ⟨k + 1, _, out.set j ⟨yts, xb⟩, some ⟨g2, 0, none⟩, cR, by omega, by go_num, by rw [hln]; exact hB9.keep rfl, by rw [hln]; exact hN9.kp (Kp.refl _).drew, by rw [hln]; omega, HO2, hK9.kp (Kp.refl _).drew⟩
              case measure => simp [intOf]; omega
            · have hm : min ybd xb = ybd := by omega
              rw [hm] at hN9 hB9 hK9 HO2 hln
              go_wp2
              have hSf : ∀ W : World, W.heap[bo]? = w7.heap[bo]? → W.heap[g2]? = w7.heap[g2]? → W.heap[bx]? = w7.heap[bx]? → (W.cell? ⟨bo, 1, none⟩ = some (.slice (some ⟨g2, 0, none⟩) out.length cR) ∧ W.cell? ⟨g2, j * 2 + 1, none⟩ = some (.int .i64 ybd) ∧ W.frozen? ⟨g2, j * 2 + 1, none⟩ = false ∧ W.cell? ⟨bx, 1, none⟩ = some (.int .i64 xb)) := fun W h1 h2 h3 => ⟨(World.cell?_of_block h1).trans q1, (World.cell?_of_block h2).trans cj1, (World.frozen?_of_block h2).trans fj1, (World.cell?_of_block h3).trans u1⟩
              refine beginT 14 (S := fun W => W.cell? ⟨bo, 1, none⟩ = some (.slice (some ⟨g2, 0, none⟩) out.length cR) ∧ W.cell? ⟨g2, j * 2 + 1, none⟩ = some (.int .i64 ybd) ∧ W.frozen? ⟨g2, j * 2 + 1, none⟩ = false ∧ W.cell? ⟨bx, 1, none⟩ = some (.int .i64 xb)) (by kernel_rfl) (hSf _ rfl rfl rfl) (fun hHeld => ?_)
              refine take_atT 0 44 (v := ?_) rfl rfl (by kernel_rfl) (by kernel_rfl) (by kernel_rfl) (by kernel_rfl) (by kernel_rfl) (fun _ _ _ h => h) hHeld (Or.inl ⟨by kernel_rfl, ?_⟩) ?_
              rotate_left
              · intro w hSw; (try dsimp only at hSw); go_simp; try with_reducible rfl
              simp only [Act.put, List.setIfInBounds_toArray, List.set_cons_zero, List.set_cons_succ]
              refine take_atT 1 45 (v := ?_) rfl rfl (by kernel_rfl) (by kernel_rfl) (by kernel_rfl) (by kernel_rfl) (by kernel_rfl) (fun _ _ _ h => h) hHeld (Or.inl ⟨by kernel_rfl, ?_⟩) ?_
              rotate_left
              · intro w hSw; (try dsimp only at hSw); go_simp; try with_reducible rfl
              simp only [Act.put, List.setIfInBounds_toArray, List.set_cons_zero, List.set_cons_succ]
              refine take_atT 2 46 (v := ?_) rfl rfl (by kernel_rfl) (by kernel_rfl) (by kernel_rfl) (by kernel_rfl) (by kernel_rfl) (fun _ _ _ h => h) hHeld (Or.inl ⟨by kernel_rfl, ?_⟩) ?_
              rotate_left
              · intro w hSw; (try dsimp only at hSw); go_simp; try with_reducible rfl
              simp only [Act.put, List.setIfInBounds_toArray, List.set_cons_zero, List.set_cons_succ]
              refine take_atT 3 47 (v := ?_) rfl rfl (by kernel_rfl) (by kernel_rfl) (by kernel_rfl) (by kernel_rfl) (by kernel_rfl) (fun _ _ _ h => h) hHeld (Or.inl ⟨by kernel_rfl, ?_⟩) ?_
              rotate_left
              · intro w hSw; (try dsimp only at hSw); go_simp; try with_reducible rfl
              simp only [Act.put, List.setIfInBounds_toArray, List.set_cons_zero, List.set_cons_succ]
              refine take_atT 4 48 (v := ?_) rfl rfl (by kernel_rfl) (by kernel_rfl) (by kernel_rfl) (by kernel_rfl) (by kernel_rfl) (fun _ _ _ h => h) hHeld (Or.inl ⟨by kernel_rfl, ?_⟩) ?_
              rotate_left
              · intro w hSw; (try dsimp only at hSw); go_simp; try with_reducible rfl
              simp only [Act.put, List.setIfInBounds_toArray, List.set_cons_zero, List.set_cons_succ]
              refine take_atT 5 49 (v := ?_) rfl rfl (by kernel_rfl) (by kernel_rfl) (by kernel_rfl) (by kernel_rfl) (by kernel_rfl) (fun _ _ _ h => h) hHeld (Or.inl ⟨by kernel_rfl, ?_⟩) ?_
              rotate_left
              · intro w hSw; (try dsimp only at hSw); go_simp; try with_reducible rfl
              simp only [Act.put, List.setIfInBounds_toArray, List.set_cons_zero, List.set_cons_succ]
              refine take_atT 6 50 (v := ?_) rfl rfl (by kernel_rfl) (by kernel_rfl) (by kernel_rfl) (by kernel_rfl) (by kernel_rfl) (fun _ _ _ h => h) hHeld (Or.inl ⟨by kernel_rfl, ?_⟩) ?_
              rotate_left
              · intro w hSw; (try dsimp only at hSw); go_simp; try with_reducible rfl
              simp only [Act.put, List.setIfInBounds_toArray, List.set_cons_zero, List.set_cons_succ]
              refine take_atT 7 51 (v := ?_) rfl rfl (by kernel_rfl) (by kernel_rfl) (by kernel_rfl) (by kernel_rfl) (by kernel_rfl) (fun _ _ _ h => h) hHeld (Or.inl ⟨by kernel_rfl, ?_⟩) ?_
              rotate_left
              · intro w hSw; (try dsimp only at hSw); go_simp; try with_reducible rfl
              simp only [Act.put, List.setIfInBounds_toArray, List.set_cons_zero, List.set_cons_succ]
              refine take_atT 8 52 (v := ?_) rfl rfl (by kernel_rfl) (by kernel_rfl) (by kernel_rfl) (by kernel_rfl) (by kernel_rfl) (fun _ _ _ h => h) hHeld (Or.inl ⟨by kernel_rfl, ?_⟩) ?_
              rotate_left
              · intro w hSw; (try dsimp only at hSw); go_simp; try with_reducible rfl
              simp only [Act.put, List.setIfInBounds_toArray, List.set_cons_zero, List.set_cons_succ]
              refine take_atT 9 53 (v := ?_) rfl rfl (by kernel_rfl) (by kernel_rfl) (by kernel_rfl) (by kernel_rfl) (by kernel_rfl) (fun _ _ _ h => h) hHeld (Or.inl ⟨by kernel_rfl, ?_⟩) ?_
              rotate_left
              · intro w hSw; (try dsimp only at hSw); go_simp; try with_reducible rfl
              simp only [Act.put, List.setIfInBounds_toArray, List.set_cons_zero, List.set_cons_succ]
              refine take_atT 10 54 (v := ?_) rfl rfl (by kernel_rfl) (by kernel_rfl) (by kernel_rfl) (by kernel_rfl) (by kernel_rfl) (fun _ _ _ h => h) hHeld (Or.inl ⟨by kernel_rfl, ?_⟩) ?_
              rotate_left
              · intro w hSw; (try dsimp only at hSw); go_simp; try with_reducible rfl
              simp only [Act.put, List.setIfInBounds_toArray, List.set_cons_zero, List.set_cons_succ]
              refine take_atT 11 55 (v := ?_) rfl rfl (by kernel_rfl) (by kernel_rfl) (by kernel_rfl) (by kernel_rfl) (by kernel_rfl) (fun _ _ _ h => h) hHeld (Or.inl ⟨by kernel_rfl, ?_⟩) ?_
              rotate_left
              · intro w hSw; (try dsimp only at hSw); go_simp; try with_reducible rfl
              simp only [Act.put, List.setIfInBounds_toArray, List.set_cons_zero, List.set_cons_succ]
              refine stepT (i := 12) (o := _) (by kernel_rfl) rfl (fun K hK => ?_)
              go_simp
              refine hK.out _ _ hHeld (fun hHeld2 => ?_)
              clear hK K hHeld
              have hHeld := hHeld2
              clear hHeld2
              refine stepT (i := 13) (o := _) (by kernel_rfl) rfl (fun K hK => ?_)
              go_simp
              refine hK.out _ _ hHeld (fun hHeld2 => ?_)
              clear hK K hHeld
              have hHeld := hHeld2
              clear hHeld2
              obtain ⟨k8, k9, k10, k11⟩ := hHeld
              clear hSf cj1 fj1 q1
              refine lastT (o := _) (by kernel_rfl) rfl (fun K hK => ?_)
              go_simp
              refine hK.out _ _ ?_
              clear hK K
              refine doneT (by kernel_rfl) ?_ _
              go_wp2
              go_roundw
              case rel => exact ⟨k + 1, _, out.set j ⟨yts, ybd⟩, some ⟨g2, 0, none⟩, cR, by omega, by go_num, by rw [hln]; exact hB9.keep rfl, by rw [hln]; exact hN9.kp (Kp.refl _).drew, by rw [hln]; omega, HO2, hK9.kp (Kp.refl _).drew⟩
              case measure => simp [intOf]; omega
      · have HO2 : Hid (simpS s = ⟨s.box, out, s.graphs, s.cases⟩) := hid (by unfold simpS simpRows; rw [HO.out, List.take_of_length_le (by omega)])
        have hR9 := hR3.kg hKr (by have := B3.cells.1; have := block_lt_of_cell this; omega) (by omega)
        have hO9 := hO3.kg hKr hτ
        have hBF := hR9.set4 (.slice A1 s.box.length e1) (.slice AR out.length cR) (.slice A3 s.graphs.length e3) (.slice A4 s.cases.length e4)
        have kS := Kg.set4 wr (b + 1) (.slice A1 s.box.length e1) (.slice AR out.length cR) (.slice A3 s.graphs.length e3) (.slice A4 s.cases.length e4)
        have hO10 := (hO9.kg kS hτb).sysv
        have hN10 := (hN.kg kS (show ¬ w3.heap.size ≤ b + 1 by omega)).sl
        have kF := Kg.to_kp kwr kS (by have := hbw.out; omega)
        have p0 := hB.cell (j := 0) rfl
        have p1 := hB.cell (j := 1) rfl
        have p2 := hB.cell (j := 2) rfl
        have p3 := hB.cell (j := 3) rfl
        have hb1r : b + 1 < wr.heap.size := by omega
        have f0 := hR9.free (j := 0) (by simp)
        have f1 := hR9.free (j := 1) (by simp)
        have f2 := hR9.free (j := 2) (by simp)
        have f3 := hR9.free (j := 3) (by simp)
        have g0 := hR9.cell (j := 0) rfl
        have g1 := hR9.cell (j := 1) rfl
        have g2 := hR9.cell (j := 2) rfl
        have g3 := hR9.cell (j := 3) rfl
        clear hR3 hR9 hB hN hO3 hO9 c0 c1 c2 c3 B3
        go_wp2
        refine bodyPost_ret (results_cell_bx2 rfl _ _ (b + 1) [.slice A1 s.box.length e1, .slice AR out.length cR, .slice A3 s.graphs.length e3, .slice A4 s.cases.length e4] _ rfl hBF.range Try.underlying27 rfl (by kernel_rfl)) rfl ?_
        refine ⟨_, by rw [HN.out]; rfl, ?_, kF⟩
        rw [HN.out]
        dsimp only
        rw [HO2.out]
        obtain ⟨B1, f1, B2, f2, B3, f3, B4, f4, he, s1, s2, s3, s4⟩ := hO10
        injection he with he
        have he2 := congrArg Array.toList he
        simp only [List.cons.injEq, and_true] at he2
        obtain ⟨h1, h2, h3, h4⟩ := he2
        rw [← h1] at s1
        rw [← h3] at s3
        rw [← h4] at s4
        exact ⟨_, _, _, _, _, _, _, _, rfl, s1, hN10, s3, s4⟩
end Go.Proofs.Ytfllmnaillilhaa
