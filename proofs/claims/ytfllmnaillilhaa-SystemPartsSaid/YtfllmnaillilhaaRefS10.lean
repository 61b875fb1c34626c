
/-
The reference's Substitute: the walk.
-/
import Derived.Test.YtfllmnaillilhaaSys23
import Derived.Test.YtfllmnaillilhaaRefS9
import Derived.Test.YtfllmnaillilhaaTC
namespace Go.Proofs.Ytfllmnaillilhaa
set_option linter.unusedSimpArgs false
set_option linter.unusedVariables false
open Go.RowKit

/-- a row of a system under way: its cells, and what storing the row with the cell's value makes of it -/
theorem SubI.row {B : Nat} {τ : Nat → Nat} {wr : World} {vb vg vc : Value} {VV : List Value} {box : List Rng} {graphs : List Gr} {LL0 LLi : List (List Row)} {L : List Row} {A : Option Addr} {cm m j : Nat} {i x : Int}
    (hIi : SubI B τ wr vb vg vc VV box graphs LLi) (HLi : LLi = LL0.set m ((L.take j).map (subRow i x) ++ L.drop j)) (hB : B ≤ wr.heap.size) (hm : m < LL0.length) (hjl : j < L.length) (hv : VV[m]? = some (.slice A L.length cm)) :
    ∃ (gr : Nat) (At : Option Addr) (ct : Nat), A = some ⟨gr, 0, none⟩ ∧ gr < wr.heap.size ∧ B ≤ gr ∧ τ gr = tg m ∧ wr.cell? ⟨gr, j * 2, none⟩ = some (.slice At L[j].terms.length ct) ∧ wr.cell? ⟨gr, j * 2 + 1, none⟩ = some (.int .i64 L[j].bound) ∧ Terms wr (.slice At L[j].terms.length ct) L[j].terms ∧
      ∀ (w8 w9 : World) (vx : Value), Kp wr w8 → Own encTerm 49 2 wr.heap.size w8 vx (dropC i L[j].terms) → Kp w8 w9 →
        w9.frozen? ⟨gr, j * 2, none⟩ = false ∧ w9.frozen? ⟨gr, j * 2 + 1, none⟩ = false ∧
        SubI B (tagN τ wr.heap.size (tg m) w9.heap.size) ((w9.setCell ⟨gr, j * 2, none⟩ vx).setCell ⟨gr, j * 2 + 1, none⟩ (.int .i64 (subB i x L[j].bound L[j].terms))) vb vg vc VV box graphs (LL0.set m ((L.take (j + 1)).map (subRow i x) ++ L.drop (j + 1))) ∧
        Kg w9 ((w9.setCell ⟨gr, j * 2, none⟩ vx).setCell ⟨gr, j * 2 + 1, none⟩ (.int .i64 (subB i x L[j].bound L[j].terms))) gr := by
  have hmi : m < LLi.length := by rw [HLi]; simpa using hm
  have hmV : m < VV.length := by have := hIi.len; omega
  have hLi : LLi[m] = (L.take j).map (subRow i x) ++ L.drop j := by
    have h1 : LLi[m]? = some ((L.take j).map (subRow i x) ++ L.drop j) := by
      rw [HLi, List.getElem?_set_self hm]
    rw [List.getElem?_eq_getElem hmi] at h1
    exact Option.some.inj h1
  have hLil : LLi[m].length = L.length := by rw [hLi]; simp; omega
  have hji : j < LLi[m].length := by omega
  have hLij : LLi[m][j] = L[j] := by
    have h1 : LLi[m][j]? = some L[j] := by
      rw [hLi, List.getElem?_append_right (by simp; omega)]
      simp
      have : j - min j L.length = 0 := by omega
      rw [this, Nat.add_zero, List.getElem?_eq_getElem hjl]
    rw [List.getElem?_eq_getElem hji] at h1
    exact Option.some.inj h1
  obtain ⟨cssi, hNi⟩ := hIi.els m hmV hmi
  have hVi : VV[m] = .slice A L.length cm := by
    have := hv
    rw [List.getElem?_eq_getElem hmV] at this
    exact Option.some.inj this
  rw [hVi] at hNi
  have hcl := hNi.len
  obtain ⟨gr, rfl, -, hgr⟩ := hNi.own.at_ (by omega)
  have hjc : j < cssi.length := by omega
  obtain ⟨T, hTj, hoj⟩ := hNi.els j hjc hji
  obtain ⟨tv, hcs, ht⟩ := hoj.here
  rw [hLij] at hcs ht
  have cj0 : wr.cell? ⟨gr, j * 2, none⟩ = some tv := by
    have := hNi.own.cellAt encC_len (by omega) hjc (j := 0) (by omega)
    refine this.trans ?_
    show cssi[j].val[0]? = _
    rw [hcs]; rfl
  have cj1 : wr.cell? ⟨gr, j * 2 + 1, none⟩ = some (.int .i64 L[j].bound) := by
    have := hNi.own.cellAt encC_len (by omega) hjc (j := 1) (by omega)
    refine this.trans ?_
    show cssi[j].val[1]? = _
    rw [hcs]; rfl
  obtain ⟨At, ct, rfl, _, _⟩ := ht.form
  have hτg : τ gr = tg m := hNi.blk gr rfl
  refine ⟨gr, At, ct, rfl, hgr, (hIi.tags gr (by rw [hτg]; exact tg_ne.1)).1, hτg, cj0, cj1, ht, fun w8 w9 vx k8 ox k9 => ?_⟩
  obtain ⟨h1, h2, -, -⟩ := hIi.put (bd := subB i x L[j].bound L[j].terms) hB hmi hji hv hLil.symm k8 ox k9
  have hO9 := (hNi.own.kp k8).kp k9
  refine ⟨hO9.frozen (by omega) (j * 2), hO9.frozen (by omega) (j * 2 + 1), ?_, h2⟩
  have e : LLi.set m (LLi[m].set j ⟨dropC i L[j].terms, subB i x L[j].bound L[j].terms⟩) = LL0.set m ((L.take (j + 1)).map (subRow i x) ++ L.drop (j + 1)) := by
    rw [mapd_step' (subRow i x) L j hjl, hLi, HLi, List.set_set]
    rfl
  rw [e] at h1
  exact h1
/-- what the operations of the rounds' statement yield (the rows) -/
def sbPV (z bo gr j : Nat) (c x : Int) (S R : Value) (nb : Int) (ts : List Term) : Nat → Value → World → Prop
  | 0, v, _ | 3, v, _ => v = .pointer (some ⟨bo, 1, none⟩)
  | 1, v, _ | 4, v, _ => v = S
  | 2, v, _ | 5, v, _ => v = .int .i64 j
  | 6, v, _ => v = .pointer (some ⟨gr, j * 2, none⟩)
  | 7, v, _ => v = R
  | 8, v, _ => v = .int .i64 c
  | 9, v, _ => v = .int .i64 x
  | 10, v, w | 11, v, w => ∃ vx, v = .tuple #[.agg #[vx, .int .i64 nb], .bool (inBd nb)] ∧ Own encTerm 49 2 z w vx ts
  | 12, v, w => ∃ vx, v = .agg #[vx, .int .i64 nb] ∧ Own encTerm 49 2 z w vx ts
  | 13, v, _ => v = .bool (inBd nb)
  | _, _, _ => True
theorem sbPV_keep (z bo gr j : Nat) (c x : Int) (S R : Value) (nb : Int) (ts : List Term) (k : Nat) (v : Value) (w1 w2 : World) (h : sbPV z bo gr j c x S R nb ts k v w1) (hk : Kp w1 w2) : sbPV z bo gr j c x S R nb ts k v w2 := by
  match k, h with
  | 0, h | 1, h | 2, h | 3, h | 4, h | 5, h | 6, h | 7, h | 8, h | 9, h | 13, h => exact h
  | 10, h | 11, h | 12, h =>
    obtain ⟨vx, e, o⟩ := h
    exact ⟨vx, e, o.kp hk⟩
  | n + 14, _ => trivial
theorem SubI.caseCell {B : Nat} {τ : Nat → Nat} {w : World} {vb vg : Value} {VV : List Value} {box : List Rng} {graphs : List Gr} {LL : List (List Row)} {A : Option Addr} {n c m : Nat} (h : SubI B τ w vb vg (.slice A n c) VV box graphs LL) (hm : m + 1 < LL.length) (hn : n + 1 = LL.length) :
    ∃ (g4 : Nat) (Am : Option Addr) (cm : Nat), A = some ⟨g4, 0, none⟩ ∧ g4 < w.heap.size ∧ VV[m + 1]? = some (.slice Am LL[m + 1].length cm) ∧ w.cell? ⟨g4, m, none⟩ = some (.slice Am LL[m + 1].length cm) := by
  obtain ⟨vs, o4, t4, l4, n4⟩ := h.ca
  have hlen := h.len
  have hvs : n = vs.length := by omega
  obtain ⟨g4, rfl, -, hg⟩ := o4.at_ (by omega)
  obtain ⟨cssm, hNm⟩ := h.els (m + 1) (by omega) hm
  obtain ⟨Am, cm, hVm, _, _⟩ := hNm.form
  refine ⟨g4, Am, cm, rfl, hg, by rw [List.getElem?_eq_getElem (by omega), hVm], ?_⟩
  have h1 := o4.cellAt encC_len hvs (k := m) (by omega) (j := 0) (by omega)
  rw [Nat.mul_one, Nat.add_zero] at h1
  refine h1.trans ?_
  show vs[m].val[0]? = _
  rw [n4 m (by omega) (by omega), hVm]
  rfl
/-- what the operations of the rounds' statement yield (the cases) -/
def sbPV2 (z bo g4 gr m j : Nat) (c x : Int) (SV SR R : Value) (nb : Int) (ts : List Term) : Nat → Value → World → Prop
  | 0, v, _ | 6, v, _ => v = .pointer (some ⟨bo, 3, none⟩)
  | 1, v, _ | 7, v, _ => v = SV
  | 2, v, _ | 8, v, _ => v = .int .i64 m
  | 3, v, _ | 9, v, _ => v = .pointer (some ⟨g4, m, none⟩)
  | 4, v, _ | 10, v, _ => v = SR
  | 5, v, _ | 11, v, _ => v = .int .i64 j
  | 12, v, _ => v = .pointer (some ⟨gr, j * 2, none⟩)
  | 13, v, _ => v = R
  | 14, v, _ => v = .int .i64 c
  | 15, v, _ => v = .int .i64 x
  | 16, v, w | 17, v, w => ∃ vx, v = .tuple #[.agg #[vx, .int .i64 nb], .bool (inBd nb)] ∧ Own encTerm 49 2 z w vx ts
  | 18, v, w => ∃ vx, v = .agg #[vx, .int .i64 nb] ∧ Own encTerm 49 2 z w vx ts
  | 19, v, _ => v = .bool (inBd nb)
  | _, _, _ => True
theorem sbPV2_keep (z bo g4 gr m j : Nat) (c x : Int) (SV SR R : Value) (nb : Int) (ts : List Term) (k : Nat) (v : Value) (w1 w2 : World) (h : sbPV2 z bo g4 gr m j c x SV SR R nb ts k v w1) (hk : Kp w1 w2) : sbPV2 z bo g4 gr m j c x SV SR R nb ts k v w2 := by
  match k, h with
  | 0, h | 1, h | 2, h | 3, h | 4, h | 5, h | 6, h | 7, h | 8, h | 9, h | 10, h | 11, h | 12, h | 13, h | 14, h | 15, h | 19, h => exact h
  | 16, h | 17, h | 18, h =>
    obtain ⟨vx, e, o⟩ := h
    exact ⟨vx, e, o.kp hk⟩
  | n + 20, _ => trivial
set_option maxRecDepth 8000 in
set_option maxHeartbeats 16000000 in
theorem qSubstitute_any (va : Value) (s : Sys) (c x : Int) (w : World) (hs : SysV w va s) :
    Calls Try.prog 31 #[va, .int .i64 c, .int .i64 x] w fun e w' => ∃ v, e = .returned (.tuple #[v, .int .i64 (SubR s c x).2]) ∧ SysV w' v (SubR s c x).1 ∧ Kp w w' := by
  have hs' := hs
  obtain ⟨Ab, cb, Ar, cr, Ag, cg, Ac, cc, rfl, hb, hr, hg, hc⟩ := hs'
  obtain ⟨l1, m1⟩ := hb.caps
  obtain ⟨l2, m2⟩ := hr.caps
  obtain ⟨l3, m3⟩ := hg.caps
  obtain ⟨l4, m4⟩ := hc.caps
  have k0 := ((Kp.refl w).alloc (.cells #[.slice Ab s.box.length cb, .slice Ar s.rows.length cr, .slice Ag s.graphs.length cg, .slice Ac s.cases.length cc] 27)).alloc (.cells #[.slice none 0 0, .slice none 0 0, .slice none 0 0, .slice none 0 0] 27)
  have B0 := (SysB.new w #[.slice Ab s.box.length cb, .slice Ar s.rows.length cr, .slice Ag s.graphs.length cg, .slice Ac s.cases.length cc] 27).keep ((Kp.refl _).alloc (.cells #[.slice none 0 0, .slice none 0 0, .slice none 0 0, .slice none 0 0] 27))
  have hR := Bx.new (w.alloc (.cells #[.slice Ab s.box.length cb, .slice Ar s.rows.length cr, .slice Ag s.graphs.length cg, .slice Ac s.cases.length cc] 27)) #[.slice none 0 0, .slice none 0 0, .slice none 0 0, .slice none 0 0] 27
  rw [World.size_alloc] at hR
  have hzw : ((w.alloc (.cells #[.slice Ab s.box.length cb, .slice Ar s.rows.length cr, .slice Ag s.graphs.length cg, .slice Ac s.cases.length cc] 27)).alloc (.cells #[.slice none 0 0, .slice none 0 0, .slice none 0 0, .slice none 0 0] 27)).heap.size = w.heap.size + 2 := by simp
  go_enter Try.func31, Try.ntmps31
  go_wp2_with fail
  generalize (w.alloc (.cells #[.slice Ab s.box.length cb, .slice Ar s.rows.length cr, .slice Ag s.graphs.length cg, .slice Ac s.cases.length cc] 27)).alloc (.cells #[.slice none 0 0, .slice none 0 0, .slice none 0 0, .slice none 0 0] 27) = w0 at *
  generalize hbw : w.heap.size = b at *
  replace hbw := hid hbw
  replace hzw := hid hzw
  refine (qValid_any _ s _ (hs.keep k0)).mono ?_
  rintro e w1 ⟨rfl, k1⟩
  have hb1 : b + 1 < w1.heap.size := by have := k1.size; have := hzw.out; omega
  have hRx := hR.kp k1 (by have := hzw.out; omega)
  replace B0 := B0.keep k1
  have hz1 : b + 2 ≤ w1.heap.size := by have := k1.size; have := hzw.out; omega
  have kx := k0.trans k1
  clear k1
  obtain ⟨c0, c1, c2, c3⟩ := B0.cells
  have hgl := block_lt_of_cell c0
  cases hV : validS s with
  | false =>
    have HN : Hid (SubR s c x = (zSys, 1)) := hid (by unfold SubR; rw [hV]; rfl)
    clear hV
    have f0 := hRx.free (j := 0) (by simp)
    have f1 := hRx.free (j := 1) (by simp)
    have f2 := hRx.free (j := 2) (by simp)
    have f3 := hRx.free (j := 3) (by simp)
    have y0 := hRx.cell (j := 0) rfl
    have y1 := hRx.cell (j := 1) rfl
    have y2 := hRx.cell (j := 2) rfl
    have y3 := hRx.cell (j := 3) rfl
    have hBF := hRx.set4 (.slice none 0 0) (.slice none 0 0) (.slice none 0 0) (.slice none 0 0)
    have kF := Kg.to_kp kx (Kg.set4 w1 (b + 1) (.slice none 0 0) (.slice none 0 0) (.slice none 0 0) (.slice none 0 0)) (by have := hbw.out; omega)
    clear hRx hR
    go_wp2
    refine bodyPost_ret (results_cell_bx2 rfl _ _ (b + 1) [.slice none 0 0, .slice none 0 0, .slice none 0 0, .slice none 0 0] _ rfl hBF.range Try.underlying27 rfl (by kernel_rfl)) rfl ?_
    exact ⟨_, by rw [HN.out]; rfl, by rw [HN.out]; exact zSys_v _, kF⟩
  | true =>
    have HS2 : Hid (¬ (0 ≤ c ∧ c < s.box.length ∧ (pick s.box c).lo ≤ x ∧ x ≤ (pick s.box c).hi) → SubR s c x = (zSys, 2)) := hid (fun h => by unfold SubR; rw [hV, if_pos rfl, if_neg h])
    by_cases g1 : c < 0
    · have HN : Hid (SubR s c x = (zSys, 2)) := hid (HS2.out (fun h => by omega))
      have e1 : decide (c < 0) = true := decide_eq_true g1
      clear hV
      have f0 := hRx.free (j := 0) (by simp)
      have f1 := hRx.free (j := 1) (by simp)
      have f2 := hRx.free (j := 2) (by simp)
      have f3 := hRx.free (j := 3) (by simp)
      have y0 := hRx.cell (j := 0) rfl
      have y1 := hRx.cell (j := 1) rfl
      have y2 := hRx.cell (j := 2) rfl
      have y3 := hRx.cell (j := 3) rfl
      have hBF := hRx.set4 (.slice none 0 0) (.slice none 0 0) (.slice none 0 0) (.slice none 0 0)
      have kF := Kg.to_kp kx (Kg.set4 w1 (b + 1) (.slice none 0 0) (.slice none 0 0) (.slice none 0 0) (.slice none 0 0)) (by have := hbw.out; omega)
      clear hRx hR
      go_wp2
      refine bodyPost_ret (results_cell_bx2 rfl _ _ (b + 1) [.slice none 0 0, .slice none 0 0, .slice none 0 0, .slice none 0 0] _ rfl hBF.range Try.underlying27 rfl (by kernel_rfl)) rfl ?_
      exact ⟨_, by rw [HN.out]; rfl, by rw [HN.out]; exact zSys_v _, kF⟩
    have e1 : decide (c < 0) = false := decide_eq_false g1
    by_cases g2 : (s.box.length : Int) ≤ c
    · have HN : Hid (SubR s c x = (zSys, 2)) := hid (HS2.out (fun h => by omega))
      have e2 : decide ((s.box.length : Int) ≤ c) = true := decide_eq_true g2
      clear hV
      have f0 := hRx.free (j := 0) (by simp)
      have f1 := hRx.free (j := 1) (by simp)
      have f2 := hRx.free (j := 2) (by simp)
      have f3 := hRx.free (j := 3) (by simp)
      have y0 := hRx.cell (j := 0) rfl
      have y1 := hRx.cell (j := 1) rfl
      have y2 := hRx.cell (j := 2) rfl
      have y3 := hRx.cell (j := 3) rfl
      have hBF := hRx.set4 (.slice none 0 0) (.slice none 0 0) (.slice none 0 0) (.slice none 0 0)
      have kF := Kg.to_kp kx (Kg.set4 w1 (b + 1) (.slice none 0 0) (.slice none 0 0) (.slice none 0 0) (.slice none 0 0)) (by have := hbw.out; omega)
      clear hRx hR
      go_wp2
      refine bodyPost_ret (results_cell_bx2 rfl _ _ (b + 1) [.slice none 0 0, .slice none 0 0, .slice none 0 0, .slice none 0 0] _ rfl hBF.range Try.underlying27 rfl (by kernel_rfl)) rfl ?_
      exact ⟨_, by rw [HN.out]; rfl, by rw [HN.out]; exact zSys_v _, kF⟩
    have e2 : decide ((s.box.length : Int) ≤ c) = false := decide_eq_false g2
    obtain ⟨i, rfl⟩ := Int.eq_ofNat_of_zero_le (show 0 ≤ c by omega)
    have hi : i < s.box.length := by omega
    have e2n : decide (s.box.length ≤ i) = false := decide_eq_false (by omega)
    obtain ⟨q, o, rfl, hq, h1', h2'⟩ := (hb.keep (pl_stable _) kx).rng hi
    rw [pick_at s.box i hi] at HS2
    have hnb := (validB_ok (validS_parts hV).2.2.1.2).1 s.box[i] (List.getElem_mem hi)
    have hpk : Hid (pick s.box (i : Int) = s.box[i]) := hid (pick_at s.box i hi)
    have hsetB : Hid (s.box.set i ⟨x, x⟩ = s.box.set i ⟨x, x⟩) := hid rfl
    have j1 : (0 : Int) ≤ i := by omega
    have j2 : (i : Int) < s.box.length := by omega
    clear g1 g2
    generalize s.box[i] = r at *
    obtain ⟨lo, hi'⟩ := r
    dsimp only at h1' h2' HS2 hnb
    by_cases g3 : x < lo
    · have HN : Hid (SubR s (i : Int) x = (zSys, 2)) := hid (HS2.out (fun h => by omega))
      have e3 : decide (x < lo) = true := decide_eq_true g3
      clear hV
      have f0 := hRx.free (j := 0) (by simp)
      have f1 := hRx.free (j := 1) (by simp)
      have f2 := hRx.free (j := 2) (by simp)
      have f3 := hRx.free (j := 3) (by simp)
      have y0 := hRx.cell (j := 0) rfl
      have y1 := hRx.cell (j := 1) rfl
      have y2 := hRx.cell (j := 2) rfl
      have y3 := hRx.cell (j := 3) rfl
      have hBF := hRx.set4 (.slice none 0 0) (.slice none 0 0) (.slice none 0 0) (.slice none 0 0)
      have kF := Kg.to_kp kx (Kg.set4 w1 (b + 1) (.slice none 0 0) (.slice none 0 0) (.slice none 0 0) (.slice none 0 0)) (by have := hbw.out; omega)
      clear hRx hR
      go_wp2
      refine bodyPost_ret (results_cell_bx2 rfl _ _ (b + 1) [.slice none 0 0, .slice none 0 0, .slice none 0 0, .slice none 0 0] _ rfl hBF.range Try.underlying27 rfl (by kernel_rfl)) rfl ?_
      exact ⟨_, by rw [HN.out]; rfl, by rw [HN.out]; exact zSys_v _, kF⟩
    have e3 : decide (x < lo) = false := decide_eq_false g3
    by_cases g4 : hi' < x
    · have HN : Hid (SubR s (i : Int) x = (zSys, 2)) := hid (HS2.out (fun h => by omega))
      have e4 : decide (hi' < x) = true := decide_eq_true g4
      clear hV
      have f0 := hRx.free (j := 0) (by simp)
      have f1 := hRx.free (j := 1) (by simp)
      have f2 := hRx.free (j := 2) (by simp)
      have f3 := hRx.free (j := 3) (by simp)
      have y0 := hRx.cell (j := 0) rfl
      have y1 := hRx.cell (j := 1) rfl
      have y2 := hRx.cell (j := 2) rfl
      have y3 := hRx.cell (j := 3) rfl
      have hBF := hRx.set4 (.slice none 0 0) (.slice none 0 0) (.slice none 0 0) (.slice none 0 0)
      have kF := Kg.to_kp kx (Kg.set4 w1 (b + 1) (.slice none 0 0) (.slice none 0 0) (.slice none 0 0) (.slice none 0 0)) (by have := hbw.out; omega)
      clear hRx hR
      go_wp2
      refine bodyPost_ret (results_cell_bx2 rfl _ _ (b + 1) [.slice none 0 0, .slice none 0 0, .slice none 0 0, .slice none 0 0] _ rfl hBF.range Try.underlying27 rfl (by kernel_rfl)) rfl ?_
      exact ⟨_, by rw [HN.out]; rfl, by rw [HN.out]; exact zSys_v _, kF⟩
    have e4 : decide (hi' < x) = false := decide_eq_false g4
    have hxb : -1000000 ≤ x ∧ x ≤ 1000000 := by
      unfold bad at hnb
      dsimp only at hnb
      omega
    have HS : Hid (SubR s (i : Int) x = if (s.rows :: s.cases).all (fineL i x) then (subS s i x, 0) else (zSys, 8)) := hid (by
      unfold SubR
      rw [hV, if_pos rfl, hpk.out, if_pos ⟨by omega, by omega, by dsimp only; omega, by dsimp only; omega⟩])
    have HFIT := hid (show ∀ l ∈ s.rows :: s.cases, ∀ r ∈ l, fitsB s.box.length r = true from fun l hl r hr => by
      rcases List.mem_cons.1 hl with rfl | hl
      · exact (validB_ok (validS_parts hV).2.2.1.2).2.2 r hr
      · exact (validB_ok ((validS_parts hV).2.2.2.2.2.2 l hl).2).2.2 r hr)
    have hsz := size_of hV
    have HLEN := hid (show ∀ l ∈ s.rows :: s.cases, l.length ≤ 1024 from fun l hl => by
      rcases List.mem_cons.1 hl with rfl | hl
      · exact hsz.rows
      · have := (hsz.case l hl).1
        omega)
    have hlb := hsz.box
    have hlc := hsz.cases
    clear hV HS2 hnb g3 g4 hpk
    go_wp2_with fail
    refine (qCopySystem_any _ s _ (hs.keep kx) hsz).mono ?_
    rintro e w3 ⟨vb, vr, vg, vc, τ, rfl, hT, hO, k3⟩
    obtain ⟨A1, a1, rfl, _, _⟩ := hO.box.form
    obtain ⟨A2, a2, rfl, _, _⟩ : ∃ A c, vr = .slice A s.rows.length c ∧ s.rows.length ≤ c ∧ c ≤ 9223372036854775807 := by
      obtain ⟨css, hr0⟩ := hO.rows
      exact hr0.form
    obtain ⟨A3, a3, rfl, _, _⟩ := hO.graphs.here.form
    obtain ⟨A4, a4, rfl, _, _⟩ : ∃ A c, vc = .slice A s.cases.length c ∧ s.cases.length ≤ c ∧ c ≤ 9223372036854775807 := by
      obtain ⟨vs, o4, l4, -, -⟩ := hO.cases
      rw [← l4]
      exact o4.form
    have kA := (Kp.refl w3).alloc (.cells #[.slice A1 s.box.length a1, .slice A2 s.rows.length a2, .slice A3 s.graphs.length a3, .slice A4 s.cases.length a4] 27)
    have hB := Bx.new w3 #[.slice A1 s.box.length a1, .slice A2 s.rows.length a2, .slice A3 s.graphs.length a3, .slice A4 s.cases.length a4] 27
    have hbo := alloc_lt w3 (.cells #[.slice A1 s.box.length a1, .slice A2 s.rows.length a2, .slice A3 s.graphs.length a3, .slice A4 s.cases.length a4] 27)
    obtain ⟨VV, hVl, hV0, hI⟩ := SubI.of (hT.grow kA.size) (hO.kp kA _ hT)
    have hR4 := (hRx.kp k3 (by omega)).kp kA (by have := k3.size; omega)
    have k4 := (kx.trans k3).trans kA
    have hτ : τ w3.heap.size = 0 := by
      by_cases h : τ w3.heap.size = 0
      · exact h
      · have := (hT _ h).2
        omega
    have hτb : τ (b + 1) = 0 := by
      by_cases h : τ (b + 1) = 0
      · exact h
      · have := (hT _ h).1
        omega
    have h14 := (k3.trans kA).size
    have hlo : b + 2 ≤ w3.heap.size := by have := k3.size; omega
    have hlo1 : b + 2 ≤ w1.heap.size := hz1
    obtain ⟨gb, rfl, -, hgb⟩ := hI.box.at_ (by omega)
    have hgbt := hI.boxT gb rfl
    have hbc0 := hI.box.cellAt encRng_len rfl hi (j := 0) (by omega)
    have hbc1 := hI.box.cellAt encRng_len rfl hi (j := 1) (by omega)
    have hbf0 := hI.box.frozen rfl (i * 2)
    have hbf1 := hI.box.frozen rfl (i * 2 + 1)
    rw [Nat.add_zero] at hbc0
    replace hbc0 := hbc0.trans (show (encRng s.box[i])[0]? = some (Value.int .i64 s.box[i].lo) from rfl)
    replace hbc1 := hbc1.trans (show (encRng s.box[i])[1]? = some (Value.int .i64 s.box[i].hi) from rfl)
    replace B0 := B0.keep k3
    clear c0 c1 c2 c3 hgl hO hRx hR k3 kA hT kx hz1 h1' h2' hq
    obtain ⟨c0, c1, c2, c3⟩ := B0.cells
    have hgl := block_lt_of_cell c0
    replace hVl := hid hVl
    replace hV0 := hid hV0
    go_upto_region 6 with (fail)
    clear c0 c1 c2 c3 hgl B0
    generalize w3.alloc (.cells #[.slice (some ⟨gb, 0, none⟩) s.box.length a1, .slice A2 s.rows.length a2, .slice A3 s.graphs.length a3, .slice A4 s.cases.length a4] 27) = w4 at *
    generalize w3.heap.size = bo at *
    have hgbo : gb ≠ bo := fun e => by rw [e] at hgbt; omega
    have hgbb : gb ≠ b + 1 := fun e => by rw [e] at hgbt; omega
    have hglo := (hI.tags gb (by omega)).1
    have p0 := hB.cell (j := 0) rfl
    have hI5 := hI.setBox (lo := x) (hi := x) rfl hi
    have hKg : Kg w4 ((w4.setCell ⟨gb, i * 2, none⟩ (.int .i64 x)).setCell ⟨gb, i * 2 + 1, none⟩ (.int .i64 x)) gb := ((Kg.refl w4 gb).set (p := ⟨gb, i * 2, none⟩) (.inl rfl) _).set (p := ⟨gb, i * 2 + 1, none⟩) (.inl rfl) _
    have hB5 := hB.kg hKg hbo (fun e => hgbo e.symm)
    have hR5 := hR4.kg hKg (by omega) (fun e => hgbb e.symm)
    have k5 := Kg.to_kp k4 hKg (by have := hbw.out; omega)
    have hz5 : ((w4.setCell ⟨gb, i * 2, none⟩ (.int .i64 x)).setCell ⟨gb, i * 2 + 1, none⟩ (.int .i64 x)).heap.size = w4.heap.size := by simp only [set_size]
    clear hI hB hR4 k4 hKg
    go_upto_region 7 with (fail)
    generalize (w4.setCell ⟨gb, i * 2, none⟩ (.int .i64 x)).setCell ⟨gb, i * 2 + 1, none⟩ (.int .i64 x) = w5 at *
    clear hbc0 hbc1 hbf0 hbf1 p0 hgbt hgb
    have hbo5 : bo < w5.heap.size := by omega
    replace hz5 := hid hz5
    have h15 : w1.heap.size ≤ w5.heap.size := by have := hz5.out; omega
    generalize hL0 : s.rows :: s.cases = LL0 at *
    have hVLL := hid hI5.len
    replace hL0 := hid hL0
    have HF1 := hid (HFIT.out s.rows (by rw [← hL0.out]; simp))
    have hlmax := HLEN.out s.rows (by rw [← hL0.out]; simp)
    go_wp2
    go_loopw [9, 10, 11] (fun fv ov iv wr => ∃ (j : Nat) (τi : Nat → Nat) (LLi : List (List Row)) (bv : Bool), j ≤ s.rows.length ∧ iv = .int .i64 j ∧ ov = .bool bv ∧ fv = .bool ((s.rows.take j).all (fun r => inBd (subB i x r.bound r.terms))) ∧ SubI w1.heap.size τi wr (.slice (some ⟨gb, 0, none⟩) s.box.length a1) (.slice A3 s.graphs.length a3) (.slice A4 s.cases.length a4) VV (s.box.set i ⟨x, x⟩) s.graphs LLi ∧
      Hid (LLi = LL0.set 0 ((s.rows.take j).map (subRow i x) ++ s.rows.drop j)) ∧ Kp w wr ∧ w5.heap.size ≤ wr.heap.size ∧ (∀ q, q < w5.heap.size → τ q = 0 → wr.heap[q]? = w5.heap[q]? ∧ τi q = 0)) (fun _ _ iv _ => s.rows.length - (intOf iv).toNat)
    case atStart => exact ⟨0, τ, LL0, false, Nat.zero_le _, rfl, rfl, by simp, hI5, hid (by rw [← hL0.out]; simp), k5, Nat.le_refl _, fun q _ h => ⟨rfl, h⟩⟩
    case round =>
      clear hI5
      obtain ⟨j, τi, LLi, bv, hj, rfl, rfl, rfl, hIi, HLi, hki, hzi, hU⟩ := hrel
      have y1 : wr.cell? ⟨bo, 1, none⟩ = some (.slice A2 s.rows.length a2) := (World.cell?_of_block (hU bo hbo5 hτ).1).trans (hB5.cell (j := 1) rfl)
      have hbr : bo < wr.heap.size := by omega
      by_cases hjl : j < s.rows.length
      · obtain ⟨gr, At, ct, rfl, hgl, hgB, hgt, cj0, cj1, ht, HPUT⟩ := hIi.row HLi.out (by omega) (by rw [← hL0.out]; simp) hjl hV0.out
        have hfit := HF1.out s.rows[j] (List.getElem_mem hjl)
        have HA1 : Hid ((s.rows.take (j + 1)).all (fun r => inBd (subB i x r.bound r.terms)) = ((s.rows.take j).all (fun r => inBd (subB i x r.bound r.terms)) && inBd (subB i x s.rows[j].bound s.rows[j].terms))) := hid (by rw [List.take_succ_eq_append_getElem hjl, List.all_append]; simp)
        have hfa := fitsn_all hfit
        obtain ⟨-, hf2, hf3, hf4⟩ := fitsB_ok hfit
        have hj1 : (0 : Int) ≤ j := by omega
        have hj2 : (j : Int) < s.rows.length := by omega
        replace HPUT := hid HPUT
        clear hfit
        generalize s.rows[j] = r at *
        obtain ⟨ts, bd⟩ := r
        dsimp only at *
        generalize hga : (s.rows.take j).all (fun r => inBd (subB i x r.bound r.terms)) = ga at *
        clear hga
        have g0 : decide ((j : Int) < (s.rows.length : Int)) = true := decide_eq_true hj2
        go_wp2
        refine G2.wp_region_growG Kp [13] 14 129 (sbPV wr.heap.size bo gr j i x (.slice (some ⟨gr, 0, none⟩) s.rows.length a2) (.agg #[.slice At ts.length ct, .int .i64 bd]) (subB i x bd ts) (dropC i ts)) (by kernel_rfl) (by kernel_rfl) rfl (fun x => Kp.refl x) (fun _ _ _ h k => h.trans k) (Kp.refl _).drew (fun _ _ _ _ _ h => h) (sbPV_keep _ _ _ _ _ _ _ _ _ _) ?_ ?_ ?_
        · intro i0 hi0
          have hi' : i0 = 0 ∨ i0 = 1 ∨ i0 = 2 ∨ i0 = 3 ∨ i0 = 4 ∨ i0 = 5 ∨ i0 = 6 ∨ i0 = 7 ∨ i0 = 8 ∨ i0 = 9 ∨ i0 = 10 ∨ i0 = 11 ∨ i0 = 12 ∨ i0 = 13 := by omega
          rcases hi' with rfl | rfl | rfl | rfl | rfl | rfl | rfl | rfl | rfl | rfl | rfl | rfl | rfl | rfl
          · intro a w' hk hF hD K hK
            simp only [List.getElem?_toArray, List.getElem?_cons_zero, List.getElem?_cons_succ, Option.map_some, Option.getD_some]
            have h8 : a.tmps[8]?.getD undef = .pointer (some ⟨bo, 0, none⟩) := hF 8 (by kernel_rfl)
            clear hF hD
            go_simp
            exact hK.out _ _ (Kp.refl _) rfl
          · intro a w' hk hF hD K hK
            simp only [List.getElem?_toArray, List.getElem?_cons_zero, List.getElem?_cons_succ, Option.map_some, Option.getD_some]
            have h65 : a.tmps[65]?.getD undef = .pointer (some ⟨bo, 1, none⟩) := hD 0 (by kernel_rfl)
            have z1 := hk.cellS y1
            clear hF hD
            go_simp
            exact hK.out _ _ (Kp.refl _) rfl
          · intro a w' hk hF hD K hK
            simp only [List.getElem?_toArray, List.getElem?_cons_zero, List.getElem?_cons_succ, Option.map_some, Option.getD_some]
            have h11 : a.tmps[11]?.getD undef = .int .i64 j := hF 11 (by kernel_rfl)
            clear hF hD
            go_simp
            exact hK.out _ _ (Kp.refl _) rfl
          · intro a w' hk hF hD K hK
            simp only [List.getElem?_toArray, List.getElem?_cons_zero, List.getElem?_cons_succ, Option.map_some, Option.getD_some]
            have h8 : a.tmps[8]?.getD undef = .pointer (some ⟨bo, 0, none⟩) := hF 8 (by kernel_rfl)
            clear hF hD
            go_simp
            exact hK.out _ _ (Kp.refl _) rfl
          · intro a w' hk hF hD K hK
            simp only [List.getElem?_toArray, List.getElem?_cons_zero, List.getElem?_cons_succ, Option.map_some, Option.getD_some]
            have h68 : a.tmps[68]?.getD undef = .pointer (some ⟨bo, 1, none⟩) := hD 3 (by kernel_rfl)
            have z1 := hk.cellS y1
            clear hF hD
            go_simp
            exact hK.out _ _ (Kp.refl _) rfl
          · intro a w' hk hF hD K hK
            simp only [List.getElem?_toArray, List.getElem?_cons_zero, List.getElem?_cons_succ, Option.map_some, Option.getD_some]
            have h11 : a.tmps[11]?.getD undef = .int .i64 j := hF 11 (by kernel_rfl)
            clear hF hD
            go_simp
            exact hK.out _ _ (Kp.refl _) rfl
          · intro a w' hk hF hD K hK
            simp only [List.getElem?_toArray, List.getElem?_cons_zero, List.getElem?_cons_succ, Option.map_some, Option.getD_some]
            have h69 : a.tmps[69]?.getD undef = .slice (some ⟨gr, 0, none⟩) s.rows.length a2 := hD 4 (by kernel_rfl)
            have h70 : a.tmps[70]?.getD undef = .int .i64 j := hD 5 (by kernel_rfl)
            clear hF hD
            go_simp
            exact hK.out _ _ (Kp.refl _) rfl
          · intro a w' hk hF hD K hK
            simp only [List.getElem?_toArray, List.getElem?_cons_zero, List.getElem?_cons_succ, Option.map_some, Option.getD_some]
            have h71 : a.tmps[71]?.getD undef = .pointer (some ⟨gr, j * 2, none⟩) := hD 6 (by kernel_rfl)
            have z0 := hk.cellS cj0
            have z1 := hk.cellS cj1
            clear hF hD
            go_simp
            exact hK.out _ _ (Kp.refl _) rfl
          · intro a w' hk hF hD K hK
            simp only [List.getElem?_toArray, List.getElem?_cons_zero, List.getElem?_cons_succ, Option.map_some, Option.getD_some]
            have h1 : a.tmps[1]?.getD undef = .int .i64 i := hF 1 (by kernel_rfl)
            clear hF hD
            go_simp
            exact hK.out _ _ (Kp.refl _) rfl
          · intro a w' hk hF hD K hK
            simp only [List.getElem?_toArray, List.getElem?_cons_zero, List.getElem?_cons_succ, Option.map_some, Option.getD_some]
            have h2 : a.tmps[2]?.getD undef = .int .i64 x := hF 2 (by kernel_rfl)
            clear hF hD
            go_simp
            exact hK.out _ _ (Kp.refl _) rfl
          · intro a w' hk hF hD K hK
            simp only [List.getElem?_toArray, List.getElem?_cons_zero, List.getElem?_cons_succ, Option.map_some, Option.getD_some]
            have h72 : a.tmps[72]?.getD undef = .agg #[.slice At ts.length ct, .int .i64 bd] := hD 7 (by kernel_rfl)
            have h73 : a.tmps[73]?.getD undef = .int .i64 i := hD 8 (by kernel_rfl)
            have h74 : a.tmps[74]?.getD undef = .int .i64 x := hD 9 (by kernel_rfl)
            clear hF hD
            go_simp
            refine (qReplace_any _ ts bd i x _ (ht.keep (pl_stable _) hk) (by omega) (fun t ht => by have := (hfa t ht).1; unfold okT at this; omega) hf3 hf4 hxb.1 hxb.2).mono ?_
            rintro e w9 ⟨v, rfl, hv, hk9⟩
            exact hK.out _ _ hk9 ⟨v, rfl, hv.less hk.size⟩
          · intro a w' hk hF hD K hK
            simp only [List.getElem?_toArray, List.getElem?_cons_zero, List.getElem?_cons_succ, Option.map_some, Option.getD_some]
            obtain ⟨vx, h75, ho⟩ : ∃ vx, a.tmps[75]?.getD undef = .tuple #[.agg #[vx, .int .i64 (subB i x bd ts)], .bool (inBd (subB i x bd ts))] ∧ Own encTerm 49 2 wr.heap.size w' vx (dropC i ts) := hD 10 (by kernel_rfl)
            clear hF hD
            go_simp
            exact hK.out _ _ (Kp.refl _) ⟨vx, rfl, ho⟩
          · intro a w' hk hF hD K hK
            simp only [List.getElem?_toArray, List.getElem?_cons_zero, List.getElem?_cons_succ, Option.map_some, Option.getD_some]
            obtain ⟨vx, h64, ho⟩ : ∃ vx, a.tmps[64]?.getD undef = .tuple #[.agg #[vx, .int .i64 (subB i x bd ts)], .bool (inBd (subB i x bd ts))] ∧ Own encTerm 49 2 wr.heap.size w' vx (dropC i ts) := hD 11 (by kernel_rfl)
            clear hF hD
            go_simp
            exact hK.out _ _ (Kp.refl _) ⟨vx, rfl, ho⟩
          · intro a w' hk hF hD K hK
            simp only [List.getElem?_toArray, List.getElem?_cons_zero, List.getElem?_cons_succ, Option.map_some, Option.getD_some]
            obtain ⟨vx, h64, ho⟩ : ∃ vx, a.tmps[64]?.getD undef = .tuple #[.agg #[vx, .int .i64 (subB i x bd ts)], .bool (inBd (subB i x bd ts))] ∧ Own encTerm 49 2 wr.heap.size w' vx (dropC i ts) := hD 11 (by kernel_rfl)
            clear hF hD
            go_simp
            exact hK.out _ _ (Kp.refl _) rfl
        · intro i0 hi0
          obtain rfl : i0 = 13 := by simpa using hi0
          refine ⟨by omega, fun a w' hk hF hD => ?_⟩
          simp only [List.getElem?_toArray, List.getElem?_cons_zero, List.getElem?_cons_succ, Option.map_some, Option.getD_some]
          obtain ⟨vx, h64, ho⟩ : ∃ vx, a.tmps[64]?.getD undef = .tuple #[.agg #[vx, .int .i64 (subB i x bd ts)], .bool (inBd (subB i x bd ts))] ∧ Own encTerm 49 2 wr.heap.size w' vx (dropC i ts) := hD 11 (by kernel_rfl)
          clear hF hD
          exact ⟨.bool (inBd (subB i x bd ts)), rfl, Or.inl ⟨by simp [Region.wanted], fun w => by go_simp⟩⟩
        · intro v w9 k9 hv
          have v1 : v 1 = .slice (some ⟨gr, 0, none⟩) s.rows.length a2 := hv 1 (by omega)
          have v2 : v 2 = .int .i64 j := hv 2 (by omega)
          have v13 : v 13 = .bool (inBd (subB i x bd ts)) := hv 13 (by omega)
          obtain ⟨vx, v12, ho⟩ : ∃ vx, v 12 = .agg #[vx, .int .i64 (subB i x bd ts)] ∧ Own encTerm 49 2 wr.heap.size w9 vx (dropC i ts) := hv 12 (by omega)
          clear hv
          obtain ⟨Ax, cx, rfl, _, _⟩ := ho.form
          obtain ⟨f0, f1, hI9, hg9⟩ := HPUT.out w9 w9 (.slice Ax (dropC i ts).length cx) k9 ho (Kp.refl _)
          have d0 := k9.cellS cj0
          have d1 := k9.cellS cj1
          simp only [G2.growPut, G2.gSlot, List.getElem?_toArray, List.getElem?_cons_zero, List.getElem?_cons_succ, Option.bind_some, List.setIfInBounds_toArray, List.set_cons_zero, List.set_cons_succ, List.drop_succ_cons, List.drop_zero, v1, v2, v12, v13]
          have hs9 := k9.size
          have hgs := hg9.size
          have hkF := Kg.to_kp (hki.trans k9) hg9 (by have := hbw.out; omega)
          have hUF := hid (fun (q : Nat) (h1 : q < w5.heap.size) (h2 : τ q = 0) => show ((w9.setCell ⟨gr, j * 2, none⟩ (.slice Ax (dropC i ts).length cx)).setCell ⟨gr, j * 2 + 1, none⟩ (.int .i64 (subB i x bd ts))).heap[q]? = w5.heap[q]? ∧ tagN τi wr.heap.size (tg 0) w9.heap.size q = 0 from by
            obtain ⟨u1, u2⟩ := hU q h1 h2
            refine ⟨?_, ?_⟩
            · rw [hg9.block q (by omega) (fun e => by rw [Option.some.inj e, hgt] at u2; exact tg_ne.1 u2), k9.block (by omega)]
              exact u1
            · unfold tagN
              rw [if_neg (by omega)]
              exact u2)
          generalize subB i x bd ts = nb at *
          have hsz2 : w5.heap.size ≤ ((w9.setCell ⟨gr, j * 2, none⟩ (.slice Ax (dropC i ts).length cx)).setCell ⟨gr, j * 2 + 1, none⟩ (.int .i64 nb)).heap.size := by omega
          have hFIN := hid (fun (bv : Bool) (hb : bv = (ga && inBd nb)) => show ∃ (j' : Nat) (τi : Nat → Nat) (LLi : List (List Row)) (bv' : Bool), j' ≤ s.rows.length ∧ Value.int .i64 ((j : Int) + 1) = .int .i64 j' ∧ Value.bool (inBd nb) = .bool bv' ∧ Value.bool bv = .bool ((s.rows.take j').all (fun r => inBd (subB i x r.bound r.terms))) ∧ SubI w1.heap.size τi ((w9.setCell ⟨gr, j * 2, none⟩ (.slice Ax (dropC i ts).length cx)).setCell ⟨gr, j * 2 + 1, none⟩ (.int .i64 nb)) (.slice (some ⟨gb, 0, none⟩) s.box.length a1) (.slice A3 s.graphs.length a3) (.slice A4 s.cases.length a4) VV (s.box.set i ⟨x, x⟩) s.graphs LLi ∧
            Hid (LLi = LL0.set 0 ((s.rows.take j').map (subRow i x) ++ s.rows.drop j')) ∧ Kp w ((w9.setCell ⟨gr, j * 2, none⟩ (.slice Ax (dropC i ts).length cx)).setCell ⟨gr, j * 2 + 1, none⟩ (.int .i64 nb)) ∧ w5.heap.size ≤ ((w9.setCell ⟨gr, j * 2, none⟩ (.slice Ax (dropC i ts).length cx)).setCell ⟨gr, j * 2 + 1, none⟩ (.int .i64 nb)).heap.size ∧ (∀ q, q < w5.heap.size → τ q = 0 → ((w9.setCell ⟨gr, j * 2, none⟩ (.slice Ax (dropC i ts).length cx)).setCell ⟨gr, j * 2 + 1, none⟩ (.int .i64 nb)).heap[q]? = w5.heap[q]? ∧ τi q = 0) from
            ⟨j + 1, _, _, inBd nb, by omega, by go_num, rfl, by rw [hb, HA1.out], hI9, hid rfl, hkF, hsz2, hUF.out⟩)
          clear HPUT hU hIi hfa ht ho hI9 hkF hUF HA1 k9 hg9
          cases ga with
          | true =>
            go_wp2
            all_goals (refine ⟨hFIN.out _ ?_, ?_⟩)
            all_goals (first | (simp [intOf]; omega) | (cases inBd nb <;> first | rfl | contradiction))
          | false =>
            go_wp2
            refine ⟨hFIN.out _ ?_, ?_⟩
            · rfl
            · simp [intOf]; omega
      · have hLi1 : Hid (LLi = (LL0.take 1).map (fun l => l.map (subRow i x)) ++ LL0.drop 1) := hid (by rw [HLi.out, ← hL0.out, List.take_of_length_le (by omega), List.drop_of_length_le (by omega)]; simp)
        have hA : (s.rows.take j).all (fun r => inBd (subB i x r.bound r.terms)) = (LL0.take 1).all (fineL i x) := by
          rw [List.take_of_length_le (by omega), ← hL0.out]
          simp [fineL]
        rw [hA]
        generalize hfr : (LL0.take 1).all (fineL i x) = fr at *
        replace hfr := hid hfr
        have g0 : decide ((j : Int) < (s.rows.length : Int)) = false := decide_eq_false (by omega)
        have hLc : LL0.length = s.cases.length + 1 := by rw [← hL0.out]; rfl
        have hLLe := hid hLc
        clear hA HF1 hlmax hLc HLi
        obtain ⟨wx, hwx⟩ : ∃ wx : World, wx = wr := ⟨_, rfl⟩
        subst hwx
        go_wp2
        clear y1 hbr g0
        go_loopw [9, 10, 12] (fun fv ov iv wr => ∃ (m : Nat) (τm : Nat → Nat) (LLm : List (List Row)) (bv : Bool), m ≤ s.cases.length ∧ iv = .int .i64 m ∧ ov = .bool bv ∧ fv = .bool ((LL0.take (m + 1)).all (fineL i x)) ∧ SubI w1.heap.size τm wr (.slice (some ⟨gb, 0, none⟩) s.box.length a1) (.slice A3 s.graphs.length a3) (.slice A4 s.cases.length a4) VV (s.box.set i ⟨x, x⟩) s.graphs LLm ∧
          Hid (LLm = (LL0.take (m + 1)).map (fun l => l.map (subRow i x)) ++ LL0.drop (m + 1)) ∧ Kp w wr ∧ w5.heap.size ≤ wr.heap.size ∧ (∀ q, q < w5.heap.size → τ q = 0 → wr.heap[q]? = w5.heap[q]? ∧ τm q = 0)) (fun _ _ iv _ => s.cases.length - (intOf iv).toNat)
        case atStart => exact ⟨0, τi, LLi, bv, Nat.zero_le _, rfl, rfl, by rw [Nat.zero_add, hfr.out], hIi, hLi1, hki, hzi, hU⟩
        case round =>
          clear hIi hU hki hzi hLi1 hfr
          obtain ⟨m, τm, LLm, bm, hm, rfl, rfl, rfl, hIm, HLm, hkm, hzm, hU⟩ := hrel
          have y3 : wr.cell? ⟨bo, 3, none⟩ = some (.slice A4 s.cases.length a4) := (World.cell?_of_block (hU bo hbo5 hτ).1).trans (hB5.cell (j := 3) rfl)
          have hbr : bo < wr.heap.size := by omega
          by_cases hlt : m < s.cases.length
          · have hm0 : m + 1 < LL0.length := by have := hLLe.out; omega
            have hLmlen : LLm.length = LL0.length := by rw [HLm.out]; simp; omega
            have hLm0 : LLm[m + 1]'(by omega) = LL0[m + 1] := by
              have : LLm[m + 1]? = some LL0[m + 1] := by
                rw [HLm.out, List.getElem?_append_right (by simp; omega), List.getElem?_drop]
                have e : m + 1 + (m + 1 - ((LL0.take (m + 1)).map (fun l => l.map (subRow i x))).length) = m + 1 := by simp; omega
                rw [e, List.getElem?_eq_getElem hm0]
              rw [List.getElem?_eq_getElem (by omega)] at this
              exact Option.some.inj this
            obtain ⟨g4, Am, cm, hA4, hg4, hVm, c4⟩ := hIm.caseCell (m := m) (by omega) (by have := hLLe.out; omega)
            subst hA4
            rw [hLm0] at hVm c4
            have HT1 : Hid ((LL0.take (m + 1 + 1)).all (fineL i x) = ((LL0.take (m + 1)).all (fineL i x) && fineL i x LL0[m + 1])) := hid (by rw [List.take_succ_eq_append_getElem hm0, List.all_append]; simp)
            have HF1 := hid (HFIT.out LL0[m + 1] (List.getElem_mem hm0))
            have HLs : Hid ((LL0.take (m + 1 + 1)).map (fun l => l.map (subRow i x)) ++ LL0.drop (m + 1 + 1) = LLm.set (m + 1) (LL0[m + 1].map (subRow i x))) := hid (by rw [HLm.out]; exact mapd_step' (fun l : List Row => l.map (subRow i x)) LL0 (m + 1) hm0)
            have hlmax := HLEN.out LL0[m + 1] (List.getElem_mem hm0)
            replace HVm := hid hVm
            replace hLm0 := hid hLm0
            replace hLmlen := hid hLmlen
            replace hm0 := hid hm0
            clear hVm
            generalize hfm : (LL0.take (m + 1)).all (fineL i x) = fm at *
            clear hfm
            obtain ⟨L, hL⟩ : ∃ L, L = LL0[m + 1]'hm0.out := ⟨_, rfl⟩
            rw [← hL] at HT1 HF1 HLs HVm c4 hlmax hLm0
            clear hL
            have g0 : decide ((m : Int) < (s.cases.length : Int)) = true := decide_eq_true (by omega)
            obtain ⟨wo, hwo⟩ : ∃ wo : World, wo = wr := ⟨_, rfl⟩
            subst hwo
            go_wp2
            clear y3 hbr c4 hg4 g0
            go_loopw [9, 10, 13] (fun fv ov iv wr => ∃ (j : Nat) (τi : Nat → Nat) (LLi : List (List Row)) (bv : Bool), j ≤ L.length ∧ iv = .int .i64 j ∧ ov = .bool bv ∧ fv = .bool (fm && (L.take j).all (fun r => inBd (subB i x r.bound r.terms))) ∧ SubI w1.heap.size τi wr (.slice (some ⟨gb, 0, none⟩) s.box.length a1) (.slice A3 s.graphs.length a3) (.slice (some ⟨g4, 0, none⟩) s.cases.length a4) VV (s.box.set i ⟨x, x⟩) s.graphs LLi ∧
              Hid (LLi = LLm.set (m + 1) ((L.take j).map (subRow i x) ++ L.drop j)) ∧ Kp w wr ∧ w5.heap.size ≤ wr.heap.size ∧ (∀ q, q < w5.heap.size → τ q = 0 → wr.heap[q]? = w5.heap[q]? ∧ τi q = 0)) (fun _ _ iv _ => L.length - (intOf iv).toNat)
            case atStart => exact ⟨0, τm, LLm, bm, Nat.zero_le _, rfl, rfl, by simp, hIm, hid (by simp only [List.take_zero, List.map_nil, List.nil_append, List.drop_zero]; rw [← hLm0.out, List.set_getElem_self]), hkm, hzm, hU⟩
            case round =>
              clear hIm hkm hzm hU
              obtain ⟨j, τi, LLi, bv, hj, rfl, rfl, rfl, hIi, HLi, hki, hzi, hUi⟩ := hrel
              have hLil : LLi.length = LL0.length := by rw [HLi.out, List.length_set]; exact hLmlen.out
              have hm0' := hm0.out
              obtain ⟨g4', Am', cm', hA4', hg4, hVm', c4⟩ := hIi.caseCell (m := m) (by omega) (by have := hLLe.out; omega)
              rw [HVm.out] at hVm'
              rw [← Option.some.inj hVm'] at c4
              obtain rfl : g4 = g4' := by
                injection hA4' with e
                injection e
              have y3 : wr.cell? ⟨bo, 3, none⟩ = some (.slice (some ⟨g4, 0, none⟩) s.cases.length a4) := (World.cell?_of_block (hUi bo hbo5 hτ).1).trans (hB5.cell (j := 3) rfl)
              have hbr : bo < wr.heap.size := by omega
              clear hVm' hA4'
              by_cases hjl : j < L.length
              · obtain ⟨gr, At, ct, rfl, hgl, hgB, hgt, cj0, cj1, ht, HPUT⟩ := hIi.row HLi.out (by omega) (by have := hLmlen.out; omega) hjl HVm.out
                have hfit := HF1.out L[j] (List.getElem_mem hjl)
                have HA1 : Hid ((L.take (j + 1)).all (fun r => inBd (subB i x r.bound r.terms)) = ((L.take j).all (fun r => inBd (subB i x r.bound r.terms)) && inBd (subB i x L[j].bound L[j].terms))) := hid (by rw [List.take_succ_eq_append_getElem hjl, List.all_append]; simp)
                have hfa := fitsn_all hfit
                obtain ⟨-, hf2, hf3, hf4⟩ := fitsB_ok hfit
                have hj1 : (0 : Int) ≤ j := by omega
                have hj2 : (j : Int) < L.length := by omega
                have hm2 : (m : Int) < s.cases.length := by omega
                replace HPUT := hid HPUT
                replace hLil := hid hLil
                clear hfit hm0'
                generalize L[j] = r at *
                obtain ⟨ts, bd⟩ := r
                dsimp only at *
                generalize hga : (L.take j).all (fun r => inBd (subB i x r.bound r.terms)) = ga at *
                clear hga
                have g0 : decide ((j : Int) < (L.length : Int)) = true := decide_eq_true hj2
                go_wp2
                refine G2.wp_region_growG Kp [19] 20 129 (sbPV2 wr.heap.size bo g4 gr m j i x (.slice (some ⟨g4, 0, none⟩) s.cases.length a4) (.slice (some ⟨gr, 0, none⟩) L.length cm) (.agg #[.slice At ts.length ct, .int .i64 bd]) (subB i x bd ts) (dropC i ts)) (by kernel_rfl) (by kernel_rfl) rfl (fun x => Kp.refl x) (fun _ _ _ h k => h.trans k) (Kp.refl _).drew (fun _ _ _ _ _ h => h) (sbPV2_keep _ _ _ _ _ _ _ _ _ _ _ _ _) ?_ ?_ ?_
                · intro i0 hi0
                  have hi' : i0 = 0 ∨ i0 = 1 ∨ i0 = 2 ∨ i0 = 3 ∨ i0 = 4 ∨ i0 = 5 ∨ i0 = 6 ∨ i0 = 7 ∨ i0 = 8 ∨ i0 = 9 ∨ i0 = 10 ∨ i0 = 11 ∨ i0 = 12 ∨ i0 = 13 ∨ i0 = 14 ∨ i0 = 15 ∨ i0 = 16 ∨ i0 = 17 ∨ i0 = 18 ∨ i0 = 19 := by omega
                  rcases hi' with rfl | rfl | rfl | rfl | rfl | rfl | rfl | rfl | rfl | rfl | rfl | rfl | rfl | rfl | rfl | rfl | rfl | rfl | rfl | rfl
                  · intro a w' hk hF hD K hK
                    simp only [List.getElem?_toArray, List.getElem?_cons_zero, List.getElem?_cons_succ, Option.map_some, Option.getD_some]
                    have h8 : a.tmps[8]?.getD undef = .pointer (some ⟨bo, 0, none⟩) := hF 8 (by kernel_rfl)
                    clear hF hD
                    go_simp
                    exact hK.out _ _ (Kp.refl _) rfl
                  · intro a w' hk hF hD K hK
                    simp only [List.getElem?_toArray, List.getElem?_cons_zero, List.getElem?_cons_succ, Option.map_some, Option.getD_some]
                    have h101 : a.tmps[101]?.getD undef = .pointer (some ⟨bo, 3, none⟩) := hD 0 (by kernel_rfl)
                    have z1 := hk.cellS y3
                    clear hF hD
                    go_simp
                    exact hK.out _ _ (Kp.refl _) rfl
                  · intro a w' hk hF hD K hK
                    simp only [List.getElem?_toArray, List.getElem?_cons_zero, List.getElem?_cons_succ, Option.map_some, Option.getD_some]
                    have h12 : a.tmps[12]?.getD undef = .int .i64 m := hF 12 (by kernel_rfl)
                    clear hF hD
                    go_simp
                    exact hK.out _ _ (Kp.refl _) rfl
                  · intro a w' hk hF hD K hK
                    simp only [List.getElem?_toArray, List.getElem?_cons_zero, List.getElem?_cons_succ, Option.map_some, Option.getD_some]
                    have h102 : a.tmps[102]?.getD undef = .slice (some ⟨g4, 0, none⟩) s.cases.length a4 := hD 1 (by kernel_rfl)
                    have h103 : a.tmps[103]?.getD undef = .int .i64 m := hD 2 (by kernel_rfl)
                    clear hF hD
                    go_simp
                    exact hK.out _ _ (Kp.refl _) rfl
                  · intro a w' hk hF hD K hK
                    simp only [List.getElem?_toArray, List.getElem?_cons_zero, List.getElem?_cons_succ, Option.map_some, Option.getD_some]
                    have h104 : a.tmps[104]?.getD undef = .pointer (some ⟨g4, m, none⟩) := hD 3 (by kernel_rfl)
                    have z1 := hk.cellS c4
                    clear hF hD
                    go_simp
                    exact hK.out _ _ (Kp.refl _) rfl
                  · intro a w' hk hF hD K hK
                    simp only [List.getElem?_toArray, List.getElem?_cons_zero, List.getElem?_cons_succ, Option.map_some, Option.getD_some]
                    have h13 : a.tmps[13]?.getD undef = .int .i64 j := hF 13 (by kernel_rfl)
                    clear hF hD
                    go_simp
                    exact hK.out _ _ (Kp.refl _) rfl
                  · intro a w' hk hF hD K hK
                    simp only [List.getElem?_toArray, List.getElem?_cons_zero, List.getElem?_cons_succ, Option.map_some, Option.getD_some]
                    have h8 : a.tmps[8]?.getD undef = .pointer (some ⟨bo, 0, none⟩) := hF 8 (by kernel_rfl)
                    clear hF hD
                    go_simp
                    exact hK.out _ _ (Kp.refl _) rfl
                  · intro a w' hk hF hD K hK
                    simp only [List.getElem?_toArray, List.getElem?_cons_zero, List.getElem?_cons_succ, Option.map_some, Option.getD_some]
                    have h107 : a.tmps[107]?.getD undef = .pointer (some ⟨bo, 3, none⟩) := hD 6 (by kernel_rfl)
                    have z1 := hk.cellS y3
                    clear hF hD
                    go_simp
                    exact hK.out _ _ (Kp.refl _) rfl
                  · intro a w' hk hF hD K hK
                    simp only [List.getElem?_toArray, List.getElem?_cons_zero, List.getElem?_cons_succ, Option.map_some, Option.getD_some]
                    have h12 : a.tmps[12]?.getD undef = .int .i64 m := hF 12 (by kernel_rfl)
                    clear hF hD
                    go_simp
                    exact hK.out _ _ (Kp.refl _) rfl
                  · intro a w' hk hF hD K hK
                    simp only [List.getElem?_toArray, List.getElem?_cons_zero, List.getElem?_cons_succ, Option.map_some, Option.getD_some]
                    have h108 : a.tmps[108]?.getD undef = .slice (some ⟨g4, 0, none⟩) s.cases.length a4 := hD 7 (by kernel_rfl)
                    have h109 : a.tmps[109]?.getD undef = .int .i64 m := hD 8 (by kernel_rfl)
                    clear hF hD
                    go_simp
                    exact hK.out _ _ (Kp.refl _) rfl
                  · intro a w' hk hF hD K hK
                    simp only [List.getElem?_toArray, List.getElem?_cons_zero, List.getElem?_cons_succ, Option.map_some, Option.getD_some]
                    have h110 : a.tmps[110]?.getD undef = .pointer (some ⟨g4, m, none⟩) := hD 9 (by kernel_rfl)
                    have z1 := hk.cellS c4
                    clear hF hD
                    go_simp
                    exact hK.out _ _ (Kp.refl _) rfl
                  · intro a w' hk hF hD K hK
                    simp only [List.getElem?_toArray, List.getElem?_cons_zero, List.getElem?_cons_succ, Option.map_some, Option.getD_some]
                    have h13 : a.tmps[13]?.getD undef = .int .i64 j := hF 13 (by kernel_rfl)
                    clear hF hD
                    go_simp
                    exact hK.out _ _ (Kp.refl _) rfl
                  · intro a w' hk hF hD K hK
                    simp only [List.getElem?_toArray, List.getElem?_cons_zero, List.getElem?_cons_succ, Option.map_some, Option.getD_some]
                    have h111 : a.tmps[111]?.getD undef = .slice (some ⟨gr, 0, none⟩) L.length cm := hD 10 (by kernel_rfl)
                    have h112 : a.tmps[112]?.getD undef = .int .i64 j := hD 11 (by kernel_rfl)
                    clear hF hD
                    go_simp
                    exact hK.out _ _ (Kp.refl _) rfl
                  · intro a w' hk hF hD K hK
                    simp only [List.getElem?_toArray, List.getElem?_cons_zero, List.getElem?_cons_succ, Option.map_some, Option.getD_some]
                    have h113 : a.tmps[113]?.getD undef = .pointer (some ⟨gr, j * 2, none⟩) := hD 12 (by kernel_rfl)
                    have z0 := hk.cellS cj0
                    have z1 := hk.cellS cj1
                    clear hF hD
                    go_simp
                    exact hK.out _ _ (Kp.refl _) rfl
                  · intro a w' hk hF hD K hK
                    simp only [List.getElem?_toArray, List.getElem?_cons_zero, List.getElem?_cons_succ, Option.map_some, Option.getD_some]
                    have h1 : a.tmps[1]?.getD undef = .int .i64 i := hF 1 (by kernel_rfl)
                    clear hF hD
                    go_simp
                    exact hK.out _ _ (Kp.refl _) rfl
                  · intro a w' hk hF hD K hK
                    simp only [List.getElem?_toArray, List.getElem?_cons_zero, List.getElem?_cons_succ, Option.map_some, Option.getD_some]
                    have h2 : a.tmps[2]?.getD undef = .int .i64 x := hF 2 (by kernel_rfl)
                    clear hF hD
                    go_simp
                    exact hK.out _ _ (Kp.refl _) rfl
                  · intro a w' hk hF hD K hK
                    simp only [List.getElem?_toArray, List.getElem?_cons_zero, List.getElem?_cons_succ, Option.map_some, Option.getD_some]
                    have h114 : a.tmps[114]?.getD undef = .agg #[.slice At ts.length ct, .int .i64 bd] := hD 13 (by kernel_rfl)
                    have h115 : a.tmps[115]?.getD undef = .int .i64 i := hD 14 (by kernel_rfl)
                    have h116 : a.tmps[116]?.getD undef = .int .i64 x := hD 15 (by kernel_rfl)
                    clear hF hD
                    go_simp
                    refine (qReplace_any _ ts bd i x _ (ht.keep (pl_stable _) hk) (by omega) (fun t ht => by have := (hfa t ht).1; unfold okT at this; omega) hf3 hf4 hxb.1 hxb.2).mono ?_
                    rintro e w9 ⟨v, rfl, hv, hk9⟩
                    exact hK.out _ _ hk9 ⟨v, rfl, hv.less hk.size⟩
                  · intro a w' hk hF hD K hK
                    simp only [List.getElem?_toArray, List.getElem?_cons_zero, List.getElem?_cons_succ, Option.map_some, Option.getD_some]
                    obtain ⟨vx, h117, ho⟩ : ∃ vx, a.tmps[117]?.getD undef = .tuple #[.agg #[vx, .int .i64 (subB i x bd ts)], .bool (inBd (subB i x bd ts))] ∧ Own encTerm 49 2 wr.heap.size w' vx (dropC i ts) := hD 16 (by kernel_rfl)
                    clear hF hD
                    go_simp
                    exact hK.out _ _ (Kp.refl _) ⟨vx, rfl, ho⟩
                  · intro a w' hk hF hD K hK
                    simp only [List.getElem?_toArray, List.getElem?_cons_zero, List.getElem?_cons_succ, Option.map_some, Option.getD_some]
                    obtain ⟨vx, h100, ho⟩ : ∃ vx, a.tmps[100]?.getD undef = .tuple #[.agg #[vx, .int .i64 (subB i x bd ts)], .bool (inBd (subB i x bd ts))] ∧ Own encTerm 49 2 wr.heap.size w' vx (dropC i ts) := hD 17 (by kernel_rfl)
                    clear hF hD
                    go_simp
                    exact hK.out _ _ (Kp.refl _) ⟨vx, rfl, ho⟩
                  · intro a w' hk hF hD K hK
                    simp only [List.getElem?_toArray, List.getElem?_cons_zero, List.getElem?_cons_succ, Option.map_some, Option.getD_some]
                    obtain ⟨vx, h100, ho⟩ : ∃ vx, a.tmps[100]?.getD undef = .tuple #[.agg #[vx, .int .i64 (subB i x bd ts)], .bool (inBd (subB i x bd ts))] ∧ Own encTerm 49 2 wr.heap.size w' vx (dropC i ts) := hD 17 (by kernel_rfl)
                    clear hF hD
                    go_simp
                    exact hK.out _ _ (Kp.refl _) rfl
                · intro i0 hi0
                  obtain rfl : i0 = 19 := by simpa using hi0
                  refine ⟨by omega, fun a w' hk hF hD => ?_⟩
                  simp only [List.getElem?_toArray, List.getElem?_cons_zero, List.getElem?_cons_succ, Option.map_some, Option.getD_some]
                  obtain ⟨vx, h100, ho⟩ : ∃ vx, a.tmps[100]?.getD undef = .tuple #[.agg #[vx, .int .i64 (subB i x bd ts)], .bool (inBd (subB i x bd ts))] ∧ Own encTerm 49 2 wr.heap.size w' vx (dropC i ts) := hD 17 (by kernel_rfl)
                  clear hF hD
                  exact ⟨.bool (inBd (subB i x bd ts)), rfl, Or.inl ⟨by simp [Region.wanted], fun w => by go_simp⟩⟩
                · intro v w9 k9 hv
                  have v4 : v 4 = .slice (some ⟨gr, 0, none⟩) L.length cm := hv 4 (by omega)
                  have v5 : v 5 = .int .i64 j := hv 5 (by omega)
                  have v19 : v 19 = .bool (inBd (subB i x bd ts)) := hv 19 (by omega)
                  obtain ⟨vx, v18, ho⟩ : ∃ vx, v 18 = .agg #[vx, .int .i64 (subB i x bd ts)] ∧ Own encTerm 49 2 wr.heap.size w9 vx (dropC i ts) := hv 18 (by omega)
                  clear hv
                  obtain ⟨Ax, cx, rfl, _, _⟩ := ho.form
                  obtain ⟨f0, f1, hI9, hg9⟩ := HPUT.out w9 w9 (.slice Ax (dropC i ts).length cx) k9 ho (Kp.refl _)
                  have d0 := k9.cellS cj0
                  have d1 := k9.cellS cj1
                  simp only [G2.growPut, G2.gSlot, List.getElem?_toArray, List.getElem?_cons_zero, List.getElem?_cons_succ, Option.bind_some, List.setIfInBounds_toArray, List.set_cons_zero, List.set_cons_succ, List.drop_succ_cons, List.drop_zero, v4, v5, v18, v19]
                  have hs9 := k9.size
                  have hgs := hg9.size
                  have hkF := Kg.to_kp (hki.trans k9) hg9 (by have := hbw.out; omega)
                  have hUF := hid (fun (q : Nat) (h1 : q < w5.heap.size) (h2 : τ q = 0) => show ((w9.setCell ⟨gr, j * 2, none⟩ (.slice Ax (dropC i ts).length cx)).setCell ⟨gr, j * 2 + 1, none⟩ (.int .i64 (subB i x bd ts))).heap[q]? = w5.heap[q]? ∧ tagN τi wr.heap.size (tg (m + 1)) w9.heap.size q = 0 from by
                    obtain ⟨u1, u2⟩ := hUi q h1 h2
                    refine ⟨?_, ?_⟩
                    · rw [hg9.block q (by omega) (fun e => by rw [Option.some.inj e, hgt] at u2; exact tg_ne.1 u2), k9.block (by omega)]
                      exact u1
                    · unfold tagN
                      rw [if_neg (by omega)]
                      exact u2)
                  generalize subB i x bd ts = nb at *
                  have hsz2 : w5.heap.size ≤ ((w9.setCell ⟨gr, j * 2, none⟩ (.slice Ax (dropC i ts).length cx)).setCell ⟨gr, j * 2 + 1, none⟩ (.int .i64 nb)).heap.size := by omega
                  generalize hfl : (fm && ga) = fl at *
                  have HFL : Hid ((fm && (L.take (j + 1)).all (fun r => inBd (subB i x r.bound r.terms))) = (fl && inBd nb)) := hid (by rw [HA1.out, ← Bool.and_assoc, hfl])
                  clear hfl
                  have hFIN := hid (fun (bv : Bool) (hb : bv = (fl && inBd nb)) => show ∃ (j' : Nat) (τi : Nat → Nat) (LLi : List (List Row)) (bv' : Bool), j' ≤ L.length ∧ Value.int .i64 ((j : Int) + 1) = .int .i64 j' ∧ Value.bool (inBd nb) = .bool bv' ∧ Value.bool bv = .bool (fm && (L.take j').all (fun r => inBd (subB i x r.bound r.terms))) ∧ SubI w1.heap.size τi ((w9.setCell ⟨gr, j * 2, none⟩ (.slice Ax (dropC i ts).length cx)).setCell ⟨gr, j * 2 + 1, none⟩ (.int .i64 nb)) (.slice (some ⟨gb, 0, none⟩) s.box.length a1) (.slice A3 s.graphs.length a3) (.slice (some ⟨g4, 0, none⟩) s.cases.length a4) VV (s.box.set i ⟨x, x⟩) s.graphs LLi ∧
                    Hid (LLi = LLm.set (m + 1) ((L.take j').map (subRow i x) ++ L.drop j')) ∧ Kp w ((w9.setCell ⟨gr, j * 2, none⟩ (.slice Ax (dropC i ts).length cx)).setCell ⟨gr, j * 2 + 1, none⟩ (.int .i64 nb)) ∧ w5.heap.size ≤ ((w9.setCell ⟨gr, j * 2, none⟩ (.slice Ax (dropC i ts).length cx)).setCell ⟨gr, j * 2 + 1, none⟩ (.int .i64 nb)).heap.size ∧ (∀ q, q < w5.heap.size → τ q = 0 → ((w9.setCell ⟨gr, j * 2, none⟩ (.slice Ax (dropC i ts).length cx)).setCell ⟨gr, j * 2 + 1, none⟩ (.int .i64 nb)).heap[q]? = w5.heap[q]? ∧ τi q = 0) from
                    ⟨j + 1, _, _, inBd nb, by omega, by go_num, rfl, by rw [hb, HFL.out], hI9, hid rfl, hkF, hsz2, hUF.out⟩)
                  clear HPUT hUi hIi hfa ht ho hI9 hkF hUF HA1 k9 hg9 HFL
                  cases fl with
                  | true =>
                    go_wp2
                    all_goals (refine ⟨hFIN.out _ ?_, ?_⟩)
                    all_goals (first | (simp [intOf]; omega) | (cases inBd nb <;> first | rfl | contradiction))
                  | false =>
                    go_wp2
                    refine ⟨hFIN.out _ ?_, ?_⟩
                    · rfl
                    · simp [intOf]; omega
              · have HLf : Hid (LLi = (LL0.take (m + 1 + 1)).map (fun l => l.map (subRow i x)) ++ LL0.drop (m + 1 + 1)) := hid (by rw [HLi.out, HLs.out, List.take_of_length_le (by omega), List.drop_of_length_le (by omega), List.append_nil])
                have htk : L.take j = L := List.take_of_length_le (by omega)
                simp only [htk]
                have HFL : Hid ((fm && L.all (fun r => inBd (subB i x r.bound r.terms))) = (LL0.take (m + 1 + 1)).all (fineL i x)) := hid HT1.out.symm
                generalize (fm && L.all (fun r => inBd (subB i x r.bound r.terms))) = ff at *
                have g0 : decide ((j : Int) < (L.length : Int)) = false := decide_eq_false (by omega)
                have hm2 : (m : Int) < s.cases.length := by omega
                clear htk hj
                replace hLil := hid hLil
                clear hm0'
                go_wp2
                go_roundw
                case rel => exact ⟨m + 1, τi, LLi, bv, by omega, by go_num, rfl, by rw [HFL.out], hIi, HLf, hki, hzi, hUi⟩
                case measure => simp [intOf]; omega
          · have hme : LL0.length ≤ m + 1 := by have := hLLe.out; omega
            have HLf : LLm = s.rows.map (subRow i x) :: s.cases.map (fun l => l.map (subRow i x)) := by rw [HLm.out, List.take_of_length_le hme, List.drop_of_length_le hme, List.append_nil, ← hL0.out]; rfl
            have htk : LL0.take (m + 1) = LL0 := List.take_of_length_le hme
            obtain ⟨uR, uT⟩ := hU (b + 1) (by omega) hτb
            have hRx := hR5.keep uR
            have hBz := hB5.keep (hU bo (by omega) hτ).1
            have hVz := hV0
            rw [HLf] at hIm
            have kx := hkm
            simp only [htk]
            have g0 : decide ((m : Int) < (s.cases.length : Int)) = false := decide_eq_false (by omega)
            clear htk HLf hme hU HLm
            cases hff : LL0.all (fineL i x) with
            | false =>
              have HN : Hid (SubR s (i : Int) x = (zSys, 8)) := hid (by rw [HS.out, hff]; rfl)
              clear hff
              have hR := True.intro
              have f0 := hRx.free (j := 0) (by simp)
              have f1 := hRx.free (j := 1) (by simp)
              have f2 := hRx.free (j := 2) (by simp)
              have f3 := hRx.free (j := 3) (by simp)
              have y0 := hRx.cell (j := 0) rfl
              have y1 := hRx.cell (j := 1) rfl
              have y2 := hRx.cell (j := 2) rfl
              have y3 := hRx.cell (j := 3) rfl
              have hBF := hRx.set4 (.slice none 0 0) (.slice none 0 0) (.slice none 0 0) (.slice none 0 0)
              have kF := Kg.to_kp kx (Kg.set4 wr (b + 1) (.slice none 0 0) (.slice none 0 0) (.slice none 0 0) (.slice none 0 0)) (by have := hbw.out; omega)
              clear hRx hR
              go_wp2
              refine bodyPost_ret (results_cell_bx2 rfl _ _ (b + 1) [.slice none 0 0, .slice none 0 0, .slice none 0 0, .slice none 0 0] _ rfl hBF.range Try.underlying27 rfl (by kernel_rfl)) rfl ?_
              exact ⟨_, by rw [HN.out]; rfl, by rw [HN.out]; exact zSys_v _, kF⟩
            | true =>
              have HN : Hid (SubR s (i : Int) x = (subS s i x, 0)) := hid (by rw [HS.out, hff]; rfl)
              clear hff
              have f0 := hRx.free (j := 0) (by simp)
              have f1 := hRx.free (j := 1) (by simp)
              have f2 := hRx.free (j := 2) (by simp)
              have f3 := hRx.free (j := 3) (by simp)
              have y0 := hRx.cell (j := 0) rfl
              have y1 := hRx.cell (j := 1) rfl
              have y2 := hRx.cell (j := 2) rfl
              have y3 := hRx.cell (j := 3) rfl
              have p0 := hBz.cell (j := 0) rfl
              have p1 := hBz.cell (j := 1) rfl
              have p2 := hBz.cell (j := 2) rfl
              have p3 := hBz.cell (j := 3) rfl
              have hBF := hRx.set4 (.slice (some ⟨gb, 0, none⟩) s.box.length a1) (.slice A2 s.rows.length a2) (.slice A3 s.graphs.length a3) (.slice A4 s.cases.length a4)
              have hKF := Kg.set4 wr (b + 1) (.slice (some ⟨gb, 0, none⟩) s.box.length a1) (.slice A2 s.rows.length a2) (.slice A3 s.graphs.length a3) (.slice A4 s.cases.length a4)
              have kF := Kg.to_kp kx hKF (by have := hbw.out; omega)
              have hSV := (hIm.kg hKF uT).sysv hVz.out
              clear hRx hIm hBz hKF
              go_wp2
              refine bodyPost_ret (results_cell_bx2 rfl _ _ (b + 1) [.slice (some ⟨gb, 0, none⟩) s.box.length a1, .slice A2 s.rows.length a2, .slice A3 s.graphs.length a3, .slice A4 s.cases.length a4] _ rfl hBF.range Try.underlying27 rfl (by kernel_rfl)) rfl ?_
              refine ⟨_, by rw [HN.out]; rfl, ?_, kF⟩
              rw [HN.out]
              exact hSV
end Go.Proofs.Ytfllmnaillilhaa
