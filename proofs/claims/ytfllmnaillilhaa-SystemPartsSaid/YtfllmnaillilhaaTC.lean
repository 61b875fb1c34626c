/-
A system that is built by appends: what is known of it.
The reference's copy of a system: the walk.
-/
import Derived.Test.YtfllmnaillilhaaTB
namespace Go.Proofs.Ytfllmnaillilhaa
set_option linter.unusedSimpArgs false
set_option linter.unusedVariables false
open Go.RowKit

section
variable {α : Type} {R : Rd α} {e size : Nat} {S S' : Nat → Prop} {w w' : World} {v v' : Value} {css : List (Elm size)} {xs : List α}
theorem NL.snoc2 (h : NL R e size S w v css xs) {c : Elm size} {x : α} (own' : Own encC e size 0 w' v' (css ++ [c])) (hg : w.grownBy w' v.ownBlock) (hat : v'.ownBlock = v.ownBlock ∨ v'.ownBlock = some w.heap.size) (T : Nat → Prop)
    (hT : ∀ i, T i → S' i ∧ v.ownBlock ≠ some i ∧ i < w.heap.size) (ho : OwS T w fun w2 => R w2 c.val x) (hS : ∀ i, S i → S' i) (hn : w.heap.size < w'.heap.size → S' w.heap.size) : NL R e size S' w' v' (css ++ [c]) (xs ++ [x]) := by
  have hlen := h.len
  have hgb : ∀ i, v.ownBlock ≠ some i → i < w.heap.size → w'.heap[i]? = w.heap[i]? := fun i hi hlt => hg.block i hlt (fun e => hi e.symm)
  have hne : ∀ i, v.ownBlock ≠ some i → i < w.heap.size → v'.ownBlock ≠ some i := fun i hi hlt e => by
    rcases hat with h1 | h1
    · exact hi (h1 ▸ e)
    · rw [h1] at e
      injection e with e
      omega
  refine ⟨own', by simp [h.len], fun q hq => ?_, fun k h1 h2 => ?_⟩
  · rcases hat with h1 | h1
    · exact hS q (h.blk q (h1 ▸ hq))
    · have h2 := own'.blk_lt q hq
      rw [h1] at hq
      injection hq with hq
      exact hq ▸ hn (by omega)
  · by_cases hk : k < css.length
    · rw [List.getElem_append_left hk, List.getElem_append_left (by omega)]
      obtain ⟨T', hT', ho'⟩ := h.els k hk (by omega)
      exact ⟨T', fun i hi => ⟨hS i (hT' i hi).1, hne i (hT' i hi).2.1 (hT' i hi).2.2, Nat.lt_of_lt_of_le (hT' i hi).2.2 hg.size⟩, ho'.step hg.size fun i hi hlt => hgb i (hT' i hi).2.1 hlt⟩
    · have e1 : k = css.length := by simp at h1; omega
      subst e1
      have e2 : (css ++ [c])[css.length] = c := by simp
      have e3 : (xs ++ [x])[css.length]'h2 = x := by simp [hlen]
      rw [e2, e3]
      exact ⟨T, fun i hi => ⟨(hT i hi).1, hne i (hT i hi).2.1 (hT i hi).2.2, Nat.lt_of_lt_of_le (hT i hi).2.2 hg.size⟩, ho.step hg.size fun i hi hlt => hgb i (hT i hi).2.1 hlt⟩
end
/-- the blocks with tag t are as they were, and keep the tag -/
def Kt (τ τ' : Nat → Nat) (w w' : World) (t : Nat) : Prop := ∀ q, τ q = t → w'.heap[q]? = w.heap[q]? ∧ τ' q = t
theorem NL.kt {α : Type} {R : Rd α} {e size t : Nat} {τ τ' : Nat → Nat} {w w' : World} {v : Value} {css : List (Elm size)} {xs : List α} (h : NL R e size (fun q => τ q = t) w v css xs) (hk : Kt τ τ' w w' t) (hs : w.heap.size ≤ w'.heap.size) : NL R e size (fun q => τ' q = t) w' v css xs :=
  (h.step hs fun q hq _ => (hk q hq).1).mono fun q hq => (hk q hq).2
structure P1 (τ : Nat → Nat) (w : World) (v : Value) (box : List Rng) : Prop where
  o : Own encRng 59 2 0 w v box
  t : ∀ q, v.ownBlock = some q → τ q = 1
theorem P1.kt {τ τ' : Nat → Nat} {w w' : World} {v : Value} {l : List Rng} (h : P1 τ w v l) (hk : Kt τ τ' w w' 1) (hs : w.heap.size ≤ w'.heap.size) : P1 τ' w' v l :=
  ⟨h.o.owS _ hs fun q hq _ => (hk q (h.t q hq)).1, fun q hq => (hk q (h.t q hq)).2⟩
structure P4 (τ : Nat → Nat) (w : World) (v : Value) (vs : List (Elm 1)) (l : List (List Row)) : Prop where
  o : Own encC 23 1 0 w v vs
  t : ∀ q, v.ownBlock = some q → τ q = 4
  len : vs.length = l.length
  n : ∀ j (h1 : j < vs.length) (h2 : j < l.length), ∃ u css, vs[j].val = [u] ∧ NL rdRow 30 2 (fun q => τ q = 5 + j) w u css l[j]
theorem P4.kt {τ τ' : Nat → Nat} {w w' : World} {v : Value} {vs : List (Elm 1)} {l : List (List Row)} (h : P4 τ w v vs l) (hk : ∀ t, 4 ≤ t → Kt τ τ' w w' t) (hs : w.heap.size ≤ w'.heap.size) : P4 τ' w' v vs l :=
  ⟨h.o.owS _ hs fun q hq _ => (hk 4 (by omega) q (h.t q hq)).1, fun q hq => (hk 4 (by omega) q (h.t q hq)).2, h.len, fun j h1 h2 => by
    obtain ⟨u, c, e, hn⟩ := h.n j h1 h2
    exact ⟨u, c, e, hn.kt (hk (5 + j) (by omega)) hs⟩⟩
/-- a system under way in the block bo -/
structure QC (w0 w : World) (bo : Nat) (τ : Nat → Nat) (vb vr vg vc : Value) (s : Sys) (css : List (Elm 2)) (gcs : List (Elm 3)) (vs : List (Elm 1)) : Prop where
  tags : Tags w0.heap.size w τ
  bo0 : τ bo = 0
  lo : w0.heap.size ≤ bo
  lt : bo < w.heap.size
  kp : Kp w0 w
  box : Bx w bo [vb, vr, vg, vc]
  p1 : P1 τ w vb s.box
  p2 : NL rdRow 30 2 (fun q => τ q = 2) w vr css s.rows
  p3 : NL rdGr 65 3 (fun q => τ q = 3) w vg gcs s.graphs
  p4 : P4 τ w vc vs s.cases
section
variable {w0 wx wy w4 : World} {bo : Nat} {τ : Nat → Nat} {s : Sys} {vb vr vg vc v4 : Value} {css : List (Elm 2)} {gcs : List (Elm 3)} {vs : List (Elm 1)}
theorem QC.next (h : QC w0 wx bo τ vb vr vg vc s css gcs vs) (hk : Kp wx wy) (t : Nat) : QC w0 wy bo (tagN τ wx.heap.size t wy.heap.size) vb vr vg vc s css gcs vs := by
  have hK : ∀ u, u ≠ 0 → Kt τ (tagN τ wx.heap.size t wy.heap.size) wx wy u := fun u hu q hq => ⟨hk.block (h.tags q (by omega)).2, tagN_old h.tags t _ hu hq⟩
  have hl := h.lt
  refine ⟨h.tags.ext t hk.size h.kp.size, ?_, h.lo, Nat.lt_of_lt_of_le h.lt hk.size, h.kp.trans hk, h.box.kp hk h.lt, h.p1.kt (hK 1 (by omega)) hk.size, h.p2.kt (hK 2 (by omega)) hk.size, h.p3.kt (hK 3 (by omega)) hk.size, h.p4.kt (fun u hu => hK u (by omega)) hk.size⟩
  unfold tagN
  rw [if_neg (by omega)]
  exact h.bo0
/-- what an append to the part with tag t, and its store, keep -/
theorem QC.app (h : QC w0 wx bo τ vb vr vg vc s css gcs vs) {v : Value} {t j : Nat} (hv : ∀ q, v.ownBlock = some q → τ q = t) (ht : t ≠ 0) (hg : wx.grownBy w4 v.ownBlock) (u : Value) :
    (∀ x, x ≠ 0 → x ≠ t → Kt τ (tagN τ wx.heap.size t w4.heap.size) wx (w4.setCell ⟨bo, j, none⟩ u) x) ∧ wx.heap.size ≤ (w4.setCell ⟨bo, j, none⟩ u).heap.size ∧ Tags w0.heap.size (w4.setCell ⟨bo, j, none⟩ u) (tagN τ wx.heap.size t w4.heap.size) ∧
      tagN τ wx.heap.size t w4.heap.size bo = 0 ∧ bo < (w4.setCell ⟨bo, j, none⟩ u).heap.size ∧ Kp w0 (w4.setCell ⟨bo, j, none⟩ u) ∧ Bx w4 bo [vb, vr, vg, vc] ∧ Kg w4 (w4.setCell ⟨bo, j, none⟩ u) bo := by
  have hb0 := h.bo0
  have hlt := h.lt
  have hgs := hg.size
  have hsz : (w4.setCell ⟨bo, j, none⟩ u).heap.size = w4.heap.size := set_size _ _ _
  have hkg : Kg w4 (w4.setCell ⟨bo, j, none⟩ u) bo := (Kg.refl _ _).set (.inl rfl) _
  refine ⟨fun x hx hxt q hq => ⟨?_, tagN_old h.tags t _ hx hq⟩, by omega, (h.tags.ext t hgs h.kp.size).grow (Nat.le_of_eq hsz.symm), ?_, by omega, ?_, h.box.grown hg (fun e => ht (by rw [← hv bo e, hb0])) hlt, hkg⟩
  · exact (set_block w4 ⟨bo, j, none⟩ u q (fun e => hx (by rw [← hq, e, hb0]))).trans (hg.block q (h.tags q (by omega)).2 (fun e => hxt (by rw [← hq, hv q e.symm])))
  · unfold tagN
    rw [if_neg (by omega)]
    exact hb0
  · exact Kg.to_kp (h.kp.grown hg fun q hq => (h.tags q (by rw [hv q hq]; exact ht)).1) hkg h.lo
theorem tag_new {z z' t : Nat} (h : z < z') : tagN τ z t z' z = t := tagN_new (Nat.le_refl _) h
/-- a row is appended -/
theorem QC.row (h : QC w0 wx bo τ vb vr vg vc s css gcs vs) {c : Elm 2} {r : Row} (T : Nat → Prop) (hT : ∀ i, T i → τ i = 2 ∧ vr.ownBlock ≠ some i) (ho : OwS T wx fun w2 => rdRow w2 c.val r)
    (own' : Own encC 30 2 0 w4 v4 (css ++ [c])) (hg : wx.grownBy w4 vr.ownBlock) (hat : v4.ownBlock = vr.ownBlock ∨ v4.ownBlock = some wx.heap.size) :
    QC w0 (w4.setCell ⟨bo, 1, none⟩ v4) bo (tagN τ wx.heap.size 2 w4.heap.size) vb v4 vg vc { s with rows := s.rows ++ [r] } (css ++ [c]) gcs vs := by
  obtain ⟨hK, a1, a2, a3, a4, a5, a6, a7⟩ := h.app (j := 1) h.p2.blk (by omega) hg v4
  have hbs := a6.set (j := 1) (by simp) v4
  simp only [List.set_cons_zero, List.set_cons_succ] at hbs
  have n2 := h.p2.snoc2 (S' := fun q => tagN τ wx.heap.size 2 w4.heap.size q = 2) own' hg hat T (fun i hi => ⟨tagN_old h.tags 2 _ (by omega) (hT i hi).1, (hT i hi).2, (h.tags i (by rw [(hT i hi).1]; omega)).2⟩) ho (fun i hi => tagN_old h.tags 2 _ (by omega) hi) tag_new
  exact ⟨a2, a3, h.lo, a4, a5, hbs, h.p1.kt (hK 1 (by omega) (by omega)) a1, n2.kg a7 (by omega), h.p3.kt (hK 3 (by omega) (by omega)) a1, h.p4.kt (fun u hu => hK u (by omega) (by omega)) a1⟩
/-- a graph is appended -/
theorem QC.graph (h : QC w0 wx bo τ vb vr vg vc s css gcs vs) {c : Elm 3} {g : Gr} (T : Nat → Prop) (hT : ∀ i, T i → τ i = 3 ∧ vg.ownBlock ≠ some i) (ho : OwS T wx fun w2 => rdGr w2 c.val g)
    (own' : Own encC 65 3 0 w4 v4 (gcs ++ [c])) (hg : wx.grownBy w4 vg.ownBlock) (hat : v4.ownBlock = vg.ownBlock ∨ v4.ownBlock = some wx.heap.size) :
    QC w0 (w4.setCell ⟨bo, 2, none⟩ v4) bo (tagN τ wx.heap.size 3 w4.heap.size) vb vr v4 vc { s with graphs := s.graphs ++ [g] } css (gcs ++ [c]) vs := by
  obtain ⟨hK, a1, a2, a3, a4, a5, a6, a7⟩ := h.app (j := 2) h.p3.blk (by omega) hg v4
  have hbs := a6.set (j := 2) (by simp) v4
  simp only [List.set_cons_zero, List.set_cons_succ] at hbs
  have n2 := h.p3.snoc2 (S' := fun q => tagN τ wx.heap.size 3 w4.heap.size q = 3) own' hg hat T (fun i hi => ⟨tagN_old h.tags 3 _ (by omega) (hT i hi).1, (hT i hi).2, (h.tags i (by rw [(hT i hi).1]; omega)).2⟩) ho (fun i hi => tagN_old h.tags 3 _ (by omega) hi) tag_new
  exact ⟨a2, a3, h.lo, a4, a5, hbs, h.p1.kt (hK 1 (by omega) (by omega)) a1, h.p2.kt (hK 2 (by omega) (by omega)) a1, n2.kg a7 (by omega), h.p4.kt (fun u hu => hK u (by omega) (by omega)) a1⟩
/-- a case is appended -/
theorem QC.case (h : QC w0 wx bo τ vb vr vg vc s css gcs vs) {c : Elm 1} {l : List Row} {u : Value} {cssx : List (Elm 2)} (hc : c.val = [u]) (nl : NL rdRow 30 2 (fun q => τ q = 5 + s.cases.length) wx u cssx l)
    (own' : Own encC 23 1 0 w4 v4 (vs ++ [c])) (hg : wx.grownBy w4 vc.ownBlock) (hat : v4.ownBlock = vc.ownBlock ∨ v4.ownBlock = some wx.heap.size) :
    QC w0 (w4.setCell ⟨bo, 3, none⟩ v4) bo (tagN τ wx.heap.size 4 w4.heap.size) vb vr vg v4 { s with cases := s.cases ++ [l] } css gcs (vs ++ [c]) := by
  obtain ⟨hK, a1, a2, a3, a4, a5, a6, a7⟩ := h.app (j := 3) h.p4.t (by omega) hg v4
  have hbs := a6.set (j := 3) (by simp) v4
  simp only [List.set_cons_zero, List.set_cons_succ] at hbs
  have hl := h.p4.len
  have ht : ∀ q, v4.ownBlock = some q → tagN τ wx.heap.size 4 w4.heap.size q = 4 := fun q hq => by
    rcases hat with e | e
    · exact tagN_old h.tags 4 _ (by omega) (h.p4.t q (e ▸ hq))
    · have h2 := own'.blk_lt q hq
      rw [e] at hq
      injection hq with hq
      exact hq ▸ tag_new (by omega)
  refine ⟨a2, a3, h.lo, a4, a5, hbs, h.p1.kt (hK 1 (by omega) (by omega)) a1, h.p2.kt (hK 2 (by omega) (by omega)) a1, h.p3.kt (hK 3 (by omega) (by omega)) a1, ⟨?_, ht, by simp [hl], fun j h1 h2 => ?_⟩⟩
  · exact own'.owS _ a7.size fun q hq hlt => a7.block q hlt fun e => by
      have e' := Option.some.inj e
      have := ht q hq
      rw [e', a3] at this
      omega
  · by_cases hj : j < vs.length
    · rw [List.getElem_append_left hj, List.getElem_append_left (by omega)]
      obtain ⟨x, cx, e, hn⟩ := h.p4.n j hj (by omega)
      exact ⟨x, cx, e, hn.kt (hK (5 + j) (by omega) (by omega)) a1⟩
    · have e1 : j = vs.length := by simp at h1; omega
      have e2 : (vs ++ [c])[j]'h1 = c := by subst e1; simp
      have e3 : (s.cases ++ [l])[j]'h2 = l := by rw [hl] at e1; subst e1; simp
      rw [e2, e3]
      have e4 : s.cases.length = j := by omega
      rw [e4] at nl
      exact ⟨u, cssx, hc, nl.kt (hK (5 + j) (by omega) (by omega)) a1⟩
/-- the system is done; a block without a tag may change -/
theorem QC.fin {g : Nat} (h : QC w0 wx bo τ vb vr vg vc s css gcs vs) (hx : Kg wx wy g) (hg : τ g = 0) : SysO τ wy vb vr vg vc s := by
  have hK : ∀ u, u ≠ 0 → Kt τ τ wx wy u := fun u hu q hq => ⟨hx.block q (h.tags q (by omega)).2 fun e => hu (by rw [← hq, Option.some.inj e, hg]), hq⟩
  have q1 := h.p1.kt (hK 1 (by omega)) hx.size
  have q4 := h.p4.kt (fun u hu => hK u (by omega)) hx.size
  exact ⟨q1.o, q1.t, ⟨css, h.p2.kt (hK 2 (by omega)) hx.size⟩, ((h.p3.kt (hK 3 (by omega)) hx.size).owS).imp fun w' hw => hw.sl, vs, q4.o, q4.len, q4.t, q4.n⟩
end
end Go.Proofs.Ytfllmnaillilhaa
namespace Go.Proofs.Ytfllmnaillilhaa
set_option linter.unusedSimpArgs false
set_option linter.unusedVariables false
open Go.RowKit

theorem withL_none (b : List Rng) (r : Rng) : withL b (-1) r = b := by unfold withL; rw [if_neg (by omega)]
/-- the graphs are copied up to kg -/
def qcG (s : Sys) (k : Nat) : Sys := ⟨s.box, [], s.graphs.take k, []⟩
def qcR (s : Sys) (k : Nat) : Sys := ⟨s.box, s.rows.take k, s.graphs, []⟩
def qcC (s : Sys) (k : Nat) : Sys := ⟨s.box, s.rows, s.graphs, s.cases.take k⟩
set_option maxRecDepth 8000 in
set_option maxHeartbeats 16000000 in
theorem qCopySystem_any (va : Value) (s : Sys) (w : World) (hs : SysV w va s) (hz : SizeS s) :
    Calls Try.prog 45 #[va] w fun e w' => ∃ vb vr vg vc τ, e = .returned (.agg #[vb, vr, vg, vc]) ∧ Tags w.heap.size w' τ ∧ SysO τ w' vb vr vg vc s ∧ Kp w w' := by
  have hz1 := hz.box
  have hz2 := hz.rows
  have hz3 := hz.graphs
  have hz4 := hz.cases
  have HL := hid hz.least
  have HT := hid hz.terms
  have HC := hid hz.case
  clear hz
  have hs' := hs
  obtain ⟨Ab, cb, Ar, cr, Ag, cg, Ac, cc, rfl, hb, hr, hg, hc⟩ := hs'
  obtain ⟨l1, m1⟩ := hb.caps
  obtain ⟨l2, m2⟩ := hr.caps
  obtain ⟨l3, m3⟩ := hg.caps
  obtain ⟨l4, m4⟩ := hc.caps
  have k0 := ((Kp.refl w).alloc (.cells #[.slice Ab s.box.length cb, .slice Ar s.rows.length cr, .slice Ag s.graphs.length cg, .slice Ac s.cases.length cc] 27)).alloc (.cells #[.slice none 0 0, .slice none 0 0, .slice none 0 0, .slice none 0 0] 27)
  have B0 := (SysB.new w #[.slice Ab s.box.length cb, .slice Ar s.rows.length cr, .slice Ag s.graphs.length cg, .slice Ac s.cases.length cc] 27).keep ((Kp.refl _).alloc (.cells #[.slice none 0 0, .slice none 0 0, .slice none 0 0, .slice none 0 0] 27))
  have hR := Bx.new (w.alloc (.cells #[.slice Ab s.box.length cb, .slice Ar s.rows.length cr, .slice Ag s.graphs.length cg, .slice Ac s.cases.length cc] 27)) #[.slice none 0 0, .slice none 0 0, .slice none 0 0, .slice none 0 0] 27
  rw [World.size_alloc] at hR
  have hzw : ((w.alloc (.cells #[.slice Ab s.box.length cb, .slice Ar s.rows.length cr, .slice Ag s.graphs.length cg, .slice Ac s.cases.length cc] 27)).alloc (.cells #[.slice none 0 0, .slice none 0 0, .slice none 0 0, .slice none 0 0] 27)).heap.size = w.heap.size + 2 := by simp
  go_enter Try.func45, Try.ntmps45
  go_wp2_with fail
  generalize (w.alloc (.cells #[.slice Ab s.box.length cb, .slice Ar s.rows.length cr, .slice Ag s.graphs.length cg, .slice Ac s.cases.length cc] 27)).alloc (.cells #[.slice none 0 0, .slice none 0 0, .slice none 0 0, .slice none 0 0] 27) = w0 at *
  generalize hbw : w.heap.size = b at *
  replace hbw := hid hbw
  refine (rWith_any _ s.box (-1) 0 0 _ (hb.keep (pl_stable _) k0) (by omega)).mono ?_
  rintro e w1 ⟨v1, rfl, own1, k1⟩
  rw [withL_none] at own1
  obtain ⟨AB, dB, rfl, hd1, hd2⟩ := own1.form
  have zlo := own1.ge
  have zhi := own1.blk_lt
  have hBs := Bx.new w1 #[.slice AB s.box.length dB, .slice none 0 0, .slice none 0 0, .slice none 0 0] 27
  have kz := (Kp.refl w1).alloc (.cells #[.slice AB s.box.length dB, .slice none 0 0, .slice none 0 0, .slice none 0 0] 27)
  have zz := alloc_lt w1 (.cells #[.slice AB s.box.length dB, .slice none 0 0, .slice none 0 0, .slice none 0 0] 27)
  have z1 := k1.size
  have hQ0 : QC w0 (w1.alloc (.cells #[.slice AB s.box.length dB, .slice none 0 0, .slice none 0 0, .slice none 0 0] 27)) w1.heap.size (fun q => if (Value.slice AB s.box.length dB).ownBlock = some q then 1 else 0) (.slice AB s.box.length dB) (.slice none 0 0) (.slice none 0 0) (.slice none 0 0) (qcG s 0) [] [] [] := by
    refine ⟨fun q hq => ?_, ?_, by omega, zz, k1.trans kz, hBs, ⟨(own1.kp kz).less (Nat.zero_le _), fun q hq => if_pos hq⟩, NL.nil _ _ _ _ _, NL.nil _ _ _ _ _, ⟨Own.nil _ _ _ _ _, fun q hq => by simp [Value.ownBlock] at hq, rfl, fun j h1 _ => absurd h1 (by simp)⟩⟩
    · split at hq
      · rename_i h
        have := zlo q h
        have := zhi q h
        exact ⟨by omega, by omega⟩
      · exact absurd rfl hq
    · rw [if_neg (fun h => by have := zhi _ h; omega)]
  replace hQ0 := hid hQ0
  clear own1 zlo zhi hBs kz k1
  go_wp2
  generalize w1.alloc (.cells #[.slice AB s.box.length dB, .slice none 0 0, .slice none 0 0, .slice none 0 0] 27) = w2 at *
  generalize w1.heap.size = bs at *
  go_loopw [4] (fun i wr => ∃ (k : Nat) (τ : Nat → Nat) (A : Option Addr) (c : Nat) (gcs : List (Elm 3)), k ≤ s.graphs.length ∧ i = .int .i64 k ∧ QC w0 wr bs τ (.slice AB s.box.length dB) (.slice none 0 0) (.slice A k c) (.slice none 0 0) (qcG s k) [] gcs []) (fun i _ => s.graphs.length - (intOf i).toNat)
  case atStart => exact ⟨0, _, none, 0, [], Nat.zero_le _, rfl, hQ0.out⟩
  case round =>
    clear hQ0
    obtain ⟨k, τ, A3, c3, gcs, hk, rfl, hQ⟩ := hrel
    have kk := k0.trans hQ.kp
    have B1 := B0.keep hQ.kp
    obtain ⟨c0, c1, c2, c3'⟩ := B1.cells
    have hgl := block_lt_of_cell c0
    clear B1
    by_cases hlt : k < s.graphs.length
    · obtain ⟨q, o, A', c', rfl, hq, h1, h2, h3, h4⟩ := (hg.keep rdGr_stable kk).gr hlt
      have hle := HL.out _ (List.getElem_mem hlt)
      have HTk := hid (List.take_succ_eq_append_getElem hlt)
      generalize s.graphs[k] = g at *
      obtain ⟨fi, sz, le⟩ := g
      dsimp only at h1 h2 h3 h4 hle
      obtain ⟨y1, y2⟩ := h4.caps
      have q1 : (0 : Int) ≤ k := by omega
      have q2 : (k : Int) < s.graphs.length := by omega
      have hqs := hQ.kp.size
      obtain ⟨wx, rfl⟩ : ∃ x : World, x = wr := ⟨_, rfl⟩
      clear c1 c3'
      go_wp2
      have hSf : ∀ W, Kp wx W → (W.cell? ⟨b, 2, none⟩ = some (.slice (some ⟨q, o, none⟩) s.graphs.length cg) ∧ W.cell? ⟨q, o + k * 3, none⟩ = some (.int .i64 fi) ∧ W.cell? ⟨q, o + k * 3 + 1, none⟩ = some (.int .i64 sz) ∧ Kp wx W) := fun W hk => ⟨hk.cellS c2, hk.cellS h1, hk.cellS h2, hk⟩
      refine wp_region_held_drew (S := fun W => W.cell? ⟨b, 2, none⟩ = some (.slice (some ⟨q, o, none⟩) s.graphs.length cg) ∧ W.cell? ⟨q, o + k * 3, none⟩ = some (.int .i64 fi) ∧ W.cell? ⟨q, o + k * 3 + 1, none⟩ = some (.int .i64 sz) ∧ Kp wx W) (by kernel_rfl) (hSf _ (Kp.refl _).drew) (fun hHeld => ?_)
      have kd := (Kp.refl wx).drew
      generalize wx.drew = wd at *
      refine take_at 0 23 (v := ?_) rfl rfl (by kernel_rfl) (by kernel_rfl) (by kernel_rfl) (fun _ _ _ h => h) hHeld (Or.inl ⟨by kernel_rfl, ?_⟩) ?_
      rotate_left
      · intro w hSw; (try dsimp only at hSw); go_simp; try with_reducible rfl
      simp only [Act.put, List.setIfInBounds_toArray, List.set_cons_zero, List.set_cons_succ]
      refine take_at 1 24 (v := ?_) rfl rfl (by kernel_rfl) (by kernel_rfl) (by kernel_rfl) (fun _ _ _ h => h) hHeld (Or.inl ⟨by kernel_rfl, ?_⟩) ?_
      rotate_left
      · intro w hSw; (try dsimp only at hSw); go_simp; try with_reducible rfl
      simp only [Act.put, List.setIfInBounds_toArray, List.set_cons_zero, List.set_cons_succ]
      refine take_at 2 25 (v := ?_) rfl rfl (by kernel_rfl) (by kernel_rfl) (by kernel_rfl) (fun _ _ _ h => h) hHeld (Or.inl ⟨by kernel_rfl, ?_⟩) ?_
      rotate_left
      · intro w hSw; (try dsimp only at hSw); go_simp; try with_reducible rfl
      simp only [Act.put, List.setIfInBounds_toArray, List.set_cons_zero, List.set_cons_succ]
      refine take_at 3 26 (v := ?_) rfl rfl (by kernel_rfl) (by kernel_rfl) (by kernel_rfl) (fun _ _ _ h => h) hHeld (Or.inl ⟨by kernel_rfl, ?_⟩) ?_
      rotate_left
      · intro w hSw; (try dsimp only at hSw); go_simp; try with_reducible rfl
      simp only [Act.put, List.setIfInBounds_toArray, List.set_cons_zero, List.set_cons_succ]
      refine take_at 4 27 (v := ?_) rfl rfl (by kernel_rfl) (by kernel_rfl) (by kernel_rfl) (fun _ _ _ h => h) hHeld (Or.inl ⟨by kernel_rfl, ?_⟩) ?_
      rotate_left
      · intro w hSw; (try dsimp only at hSw); go_simp; try with_reducible rfl
      simp only [Act.put, List.setIfInBounds_toArray, List.set_cons_zero, List.set_cons_succ]
      refine take_at 5 28 (v := ?_) rfl rfl (by kernel_rfl) (by kernel_rfl) (by kernel_rfl) (fun _ _ _ h => h) hHeld (Or.inl ⟨by kernel_rfl, ?_⟩) ?_
      rotate_left
      · intro w hSw; (try dsimp only at hSw); go_simp; try with_reducible rfl
      simp only [Act.put, List.setIfInBounds_toArray, List.set_cons_zero, List.set_cons_succ]
      refine take_at 6 29 (v := ?_) rfl rfl (by kernel_rfl) (by kernel_rfl) (by kernel_rfl) (fun _ _ _ h => h) hHeld (Or.inl ⟨by kernel_rfl, ?_⟩) ?_
      rotate_left
      · intro w hSw; (try dsimp only at hSw); go_simp; try with_reducible rfl
      simp only [Act.put, List.setIfInBounds_toArray, List.set_cons_zero, List.set_cons_succ]
      refine take_at 7 30 (v := ?_) rfl rfl (by kernel_rfl) (by kernel_rfl) (by kernel_rfl) (fun _ _ _ h => h) hHeld (Or.inl ⟨by kernel_rfl, ?_⟩) ?_
      rotate_left
      · intro w hSw; (try dsimp only at hSw); go_simp; try with_reducible rfl
      simp only [Act.put, List.setIfInBounds_toArray, List.set_cons_zero, List.set_cons_succ]
      refine take_at 8 31 (v := ?_) rfl rfl (by kernel_rfl) (by kernel_rfl) (by kernel_rfl) (fun _ _ _ h => h) hHeld (Or.inl ⟨by kernel_rfl, ?_⟩) ?_
      rotate_left
      · intro w hSw; (try dsimp only at hSw); go_simp; try with_reducible rfl
      simp only [Act.put, List.setIfInBounds_toArray, List.set_cons_zero, List.set_cons_succ]
      refine take_at 9 32 (v := ?_) rfl rfl (by kernel_rfl) (by kernel_rfl) (by kernel_rfl) (fun _ _ _ h => h) hHeld (Or.inl ⟨by kernel_rfl, ?_⟩) ?_
      rotate_left
      · intro w hSw; (try dsimp only at hSw); go_simp; try with_reducible rfl
      simp only [Act.put, List.setIfInBounds_toArray, List.set_cons_zero, List.set_cons_succ]
      refine take_at 10 33 (v := ?_) rfl rfl (by kernel_rfl) (by kernel_rfl) (by kernel_rfl) (fun _ _ _ h => h) hHeld (Or.inl ⟨by kernel_rfl, ?_⟩) ?_
      rotate_left
      · intro w hSw; (try dsimp only at hSw); go_simp; try with_reducible rfl
      simp only [Act.put, List.setIfInBounds_toArray, List.set_cons_zero, List.set_cons_succ]
      refine take_at 11 34 (v := ?_) rfl rfl (by kernel_rfl) (by kernel_rfl) (by kernel_rfl) (fun _ _ _ h => h) hHeld (Or.inl ⟨by kernel_rfl, ?_⟩) ?_
      rotate_left
      · intro w hSw; (try dsimp only at hSw); go_simp; try with_reducible rfl
      simp only [Act.put, List.setIfInBounds_toArray, List.set_cons_zero, List.set_cons_succ]
      refine take_at 12 35 (v := ?_) rfl rfl (by kernel_rfl) (by kernel_rfl) (by kernel_rfl) (fun _ _ _ h => h) hHeld (Or.inl ⟨by kernel_rfl, ?_⟩) ?_
      rotate_left
      · intro w hSw; (try dsimp only at hSw); go_simp; try with_reducible rfl
      simp only [Act.put, List.setIfInBounds_toArray, List.set_cons_zero, List.set_cons_succ]
      refine wpAnyH_ready (rs := [13]) (by kernel_rfl) (by simp) ?_
      refine AllReadyH.cons (o := _) rfl (fun K hK => ?_) AllReadyH.nil
      go_simp
      have kA := (Kp.refl wd).alloc (.cells #[.int .i64 0, .int .i64 0, .slice none 0 0] 65)
      have hBg := Bx.new wd #[.int .i64 0, .int .i64 0, .slice none 0 0] 65
      have hbg := alloc_lt wd (.cells #[.int .i64 0, .int .i64 0, .slice none 0 0] 65)
      have zA := kd.size
      have kA2 := kd.trans kA
      clear kA
      generalize wd.alloc (.cells #[.int .i64 0, .int .i64 0, .slice none 0 0] 65) = we at *
      generalize wd.heap.size = bo at *
      refine hK.out _ _ (hSf _ kA2) (fun hHeld2 => ?_)
      clear hK K hHeld
      have hHeld := hHeld2
      clear hHeld2
      refine wpAnyH_ready (rs := [14]) (by kernel_rfl) (by simp) ?_
      refine AllReadyH.cons (o := _) rfl (fun K hK => ?_) AllReadyH.nil
      have r0 := hBg.cell (j := 0) rfl
      have r1 := hBg.cell (j := 1) rfl
      have r2 := hBg.cell (j := 2) rfl
      have f0 := hBg.free (j := 0) (by simp)
      have f1 := hBg.free (j := 1) (by simp)
      have f2 := hBg.free (j := 2) (by simp)
      go_simp
      have hBz := ((hBg.set (j := 0) (by simp) (.int .i64 fi)).set (j := 1) (by simp) (.int .i64 sz)).set (j := 2) (by simp) (.slice none 0 0)
      simp only [List.set_cons_zero, List.set_cons_succ] at hBz
      have kS := ((kA2.set (p := ⟨bo, 0, none⟩) zA (.int .i64 fi)).set (p := ⟨bo, 1, none⟩) zA (.int .i64 sz)).set (p := ⟨bo, 2, none⟩) zA (.slice none 0 0)
      have hz2 : bo < (((we.setCell ⟨bo, 0, none⟩ (.int .i64 fi)).setCell ⟨bo, 1, none⟩ (.int .i64 sz)).setCell ⟨bo, 2, none⟩ (.slice none 0 0)).heap.size := by rw [set_size, set_size, set_size]; exact hbg
      refine hK.out _ _ (hSf _ kS) (fun hHeld2 => ?_)
      clear hK K hHeld
      have hHeld := hHeld2
      clear hHeld2
      refine wpAnyH_done (by kernel_rfl) ?_ _
      clear hHeld hSf r0 r1 r2 f0 f1 f2 hBg hbg kA2
      generalize ((we.setCell ⟨bo, 0, none⟩ (.int .i64 fi)).setCell ⟨bo, 1, none⟩ (.int .i64 sz)).setCell ⟨bo, 2, none⟩ (.slice none 0 0) = wz at *
      have x2 := kS.cellS c2
      have x3 := kS.cellS h3
      clear h1 h2 h3
      go_wp2
      go_loopw [6] (fun i wr => ∃ (j : Nat) (L : List Int) (v : Value), j ≤ le.length ∧ i = .int .i64 j ∧ L.length ≤ j ∧ Bx wr bo [.int .i64 fi, .int .i64 sz, v] ∧ Own encInt 3 1 wz.heap.size wr v L ∧ Hid (L = le.take j) ∧ Kg wz wr bo) (fun i _ => le.length - (intOf i).toNat)
      case atStart => exact ⟨0, [], _, Nat.zero_le _, rfl, Nat.le_refl _, hBz, Own.nil _ _ _ _ _, hid (by simp), Kg.refl _ _⟩
      case round =>
        clear hBz
        obtain ⟨j, L, v, hj, rfl, hLk, hBA, ownA, HLi, hKA⟩ := hrel
        obtain ⟨A1, c1', rfl, hc1, hm1⟩ := ownA.form
        have kxr : Kp wx wr := Kg.to_kp kS hKA zA
        have hsz := hKA.size
        have hbolA : bo < wr.heap.size := by omega
        have d2 := kxr.cellS c2
        have d3 := hKA.cellS x3 (by show q ≠ bo; omega)
        have hgl0 := block_lt_of_cell d2
        have hgl3 := block_lt_of_cell d3
        by_cases hjl : j < le.length
        · obtain ⟨p, o2, rfl, hp, hx⟩ := (h4.keep (pl_stable _) kxr).ints hjl
          have hpb := block_lt_of_cell hx
          have HTi := hid (List.take_succ_eq_append_getElem hjl)
          have hqp : p ≠ bo ∧ (Value.slice A1 L.length c1').ownBlock ≠ some p ∧ q ≠ bo ∧ (Value.slice A1 L.length c1').ownBlock ≠ some q ∧ (Value.slice A1 L.length c1').ownBlock ≠ some b := by
            obtain ⟨p2, o3, hA, hp2, hp3⟩ := h4.ints hjl
            injection hA with hA
            injection hA with e1 e2 _
            subst e1
            exact ⟨by omega, fun e => by have := ownA.ge p e; omega, by omega, fun e => by have := ownA.ge q e; omega, fun e => by have := ownA.ge b e; omega⟩
          have HN2 : Hid (L ++ [le[j]] = le.take (j + 1)) := hid (by rw [HTi.out, HLi.out])
          generalize le[j] = x at *
          have q3 : (0 : Int) ≤ j := by omega
          have q4 : (j : Int) < le.length := by omega
          clear c2 x2 x3
          go_wp2
          obtain ⟨wA, rfl⟩ : ∃ x : World, x = wr := ⟨_, rfl⟩
          have hSf : ∀ W : World, Bx W bo [.int .i64 fi, .int .i64 sz, .slice A1 L.length c1'] → wA.grownBy W (Value.slice A1 L.length c1').ownBlock → (W.cell? ⟨bo, 2, none⟩ = some (.slice A1 L.length c1') ∧ W.frozen? ⟨bo, 2, none⟩ = false ∧ W.cell? ⟨b, 2, none⟩ = some (.slice (some ⟨q, o, none⟩) s.graphs.length cg) ∧ W.cell? ⟨q, o + k * 3 + 2, none⟩ = some (.slice (some ⟨p, o2, none⟩) le.length c') ∧ W.cell? ⟨p, o2 + j, none⟩ = some (.int .i64 x)) := fun W h g => ⟨h.cell (j := 2) rfl, h.free (j := 2) (by simp), (World.cell?_of_block (g.block b hgl0 (fun e => hqp.2.2.2.2 e.symm))).trans d2, (World.cell?_of_block (g.block q hgl3 (fun e => hqp.2.2.2.1 e.symm))).trans d3, (World.cell?_of_block (g.block p hpb (fun e => hqp.2.1 e.symm))).trans hx⟩
          refine beginT 14 (S := fun W => W.cell? ⟨bo, 2, none⟩ = some (.slice A1 L.length c1') ∧ W.frozen? ⟨bo, 2, none⟩ = false ∧ W.cell? ⟨b, 2, none⟩ = some (.slice (some ⟨q, o, none⟩) s.graphs.length cg) ∧ W.cell? ⟨q, o + k * 3 + 2, none⟩ = some (.slice (some ⟨p, o2, none⟩) le.length c') ∧ W.cell? ⟨p, o2 + j, none⟩ = some (.int .i64 x)) (by kernel_rfl) (hSf _ (hBA.keep rfl) ((Kp.refl _).drew.gb _)) (fun hHeld => ?_)
          refine take_atT 0 47 (v := ?_) rfl rfl (by kernel_rfl) (by kernel_rfl) (by kernel_rfl) (by kernel_rfl) (by kernel_rfl) (fun _ _ _ h => h) hHeld (Or.inl ⟨by kernel_rfl, ?_⟩) ?_
          rotate_left
          · intro w hSw; (try dsimp only at hSw); go_simp; try with_reducible rfl
          simp only [Act.put, List.setIfInBounds_toArray, List.set_cons_zero, List.set_cons_succ]
          refine take_atT 1 48 (v := ?_) rfl rfl (by kernel_rfl) (by kernel_rfl) (by kernel_rfl) (by kernel_rfl) (by kernel_rfl) (fun _ _ _ h => h) hHeld (Or.inl ⟨by kernel_rfl, ?_⟩) ?_
          rotate_left
          · intro w hSw; (try dsimp only at hSw); go_simp; try with_reducible rfl
          simp only [Act.put, List.setIfInBounds_toArray, List.set_cons_zero, List.set_cons_succ]
          refine take_atT 2 49 (v := ?_) rfl rfl (by kernel_rfl) (by kernel_rfl) (by kernel_rfl) (by kernel_rfl) (by kernel_rfl) (fun _ _ _ h => h) hHeld (Or.inl ⟨by kernel_rfl, ?_⟩) ?_
          rotate_left
          · intro w hSw; (try dsimp only at hSw); go_simp; try with_reducible rfl
          simp only [Act.put, List.setIfInBounds_toArray, List.set_cons_zero, List.set_cons_succ]
          refine take_atT 3 50 (v := ?_) rfl rfl (by kernel_rfl) (by kernel_rfl) (by kernel_rfl) (by kernel_rfl) (by kernel_rfl) (fun _ _ _ h => h) hHeld (Or.inl ⟨by kernel_rfl, ?_⟩) ?_
          rotate_left
          · intro w hSw; (try dsimp only at hSw); go_simp; try with_reducible rfl
          simp only [Act.put, List.setIfInBounds_toArray, List.set_cons_zero, List.set_cons_succ]
          refine take_atT 4 51 (v := ?_) rfl rfl (by kernel_rfl) (by kernel_rfl) (by kernel_rfl) (by kernel_rfl) (by kernel_rfl) (fun _ _ _ h => h) hHeld (Or.inl ⟨by kernel_rfl, ?_⟩) ?_
          rotate_left
          · intro w hSw; (try dsimp only at hSw); go_simp; try with_reducible rfl
          simp only [Act.put, List.setIfInBounds_toArray, List.set_cons_zero, List.set_cons_succ]
          refine take_atT 5 52 (v := ?_) rfl rfl (by kernel_rfl) (by kernel_rfl) (by kernel_rfl) (by kernel_rfl) (by kernel_rfl) (fun _ _ _ h => h) hHeld (Or.inl ⟨by kernel_rfl, ?_⟩) ?_
          rotate_left
          · intro w hSw; (try dsimp only at hSw); go_simp; try with_reducible rfl
          simp only [Act.put, List.setIfInBounds_toArray, List.set_cons_zero, List.set_cons_succ]
          refine take_atT 6 53 (v := ?_) rfl rfl (by kernel_rfl) (by kernel_rfl) (by kernel_rfl) (by kernel_rfl) (by kernel_rfl) (fun _ _ _ h => h) hHeld (Or.inl ⟨by kernel_rfl, ?_⟩) ?_
          rotate_left
          · intro w hSw; (try dsimp only at hSw); go_simp; try with_reducible rfl
          simp only [Act.put, List.setIfInBounds_toArray, List.set_cons_zero, List.set_cons_succ]
          refine take_atT 7 54 (v := ?_) rfl rfl (by kernel_rfl) (by kernel_rfl) (by kernel_rfl) (by kernel_rfl) (by kernel_rfl) (fun _ _ _ h => h) hHeld (Or.inl ⟨by kernel_rfl, ?_⟩) ?_
          rotate_left
          · intro w hSw; (try dsimp only at hSw); go_simp; try with_reducible rfl
          simp only [Act.put, List.setIfInBounds_toArray, List.set_cons_zero, List.set_cons_succ]
          refine take_atT 8 55 (v := ?_) rfl rfl (by kernel_rfl) (by kernel_rfl) (by kernel_rfl) (by kernel_rfl) (by kernel_rfl) (fun _ _ _ h => h) hHeld (Or.inl ⟨by kernel_rfl, ?_⟩) ?_
          rotate_left
          · intro w hSw; (try dsimp only at hSw); go_simp; try with_reducible rfl
          simp only [Act.put, List.setIfInBounds_toArray, List.set_cons_zero, List.set_cons_succ]
          refine take_atT 9 56 (v := ?_) rfl rfl (by kernel_rfl) (by kernel_rfl) (by kernel_rfl) (by kernel_rfl) (by kernel_rfl) (fun _ _ _ h => h) hHeld (Or.inl ⟨by kernel_rfl, ?_⟩) ?_
          rotate_left
          · intro w hSw; (try dsimp only at hSw); go_simp; try with_reducible rfl
          simp only [Act.put, List.setIfInBounds_toArray, List.set_cons_zero, List.set_cons_succ]
          refine take_atT 10 57 (v := ?_) rfl rfl (by kernel_rfl) (by kernel_rfl) (by kernel_rfl) (by kernel_rfl) (by kernel_rfl) (fun _ _ _ h => h) hHeld (Or.inl ⟨by kernel_rfl, ?_⟩) ?_
          rotate_left
          · intro w hSw; (try dsimp only at hSw); go_simp; try with_reducible rfl
          simp only [Act.put, List.setIfInBounds_toArray, List.set_cons_zero, List.set_cons_succ]
          refine stepT (i := 11) (o := _) (by kernel_rfl) rfl (fun K hK => ?_)
          go_simp
          have kC := ((Kp.refl wA).alloc (.cells #[.int .i64 x] 3)).drew
          have hBC := hBA.kp kC hbolA
          have ownC := ownA.kp kC
          have sC := (srcInt wA x).keep (pl_stable _) ((Kp.refl (wA.alloc (.cells #[.int .i64 x] 3))).drew)
          have hKC := hKA.trans (kC.kg bo)
          have hgC := kC.gb (Value.slice A1 L.length c1').ownBlock
          have zC := kC.size
          have zK := hKC.size
          refine hK.out _ _ (hSf _ hBC hgC) (fun hHeld2 => ?_)
          clear hK K hHeld
          have hHeld := hHeld2
          clear hHeld2
          clear hBA ownA hKA kC
          generalize (wA.alloc (.cells #[.int .i64 x] 3)).drew = wC at *
          refine stepT (i := 12) (o := _) (by kernel_rfl) rfl (fun K hK => ?_)
          refine step_append4 rfl (.tmp 48) (.tmp 58) rfl stIntM encInt_len encInt_one rfl ownC rfl sC (by simp; omega) (by simp; omega) (by omega) ?_
          intro v4 w4 hown4 hgrow4 hat4
          have hob := ownC.ge
          have hBD := hBC.grown hgrow4 (fun e => by have := hob bo e; omega) (by omega)
          have hKD := hKC.grown hgrow4 hob
          have hgD := World.grownBy.trans hgC hgrow4
          refine hK.out _ _ (hSf _ hBD hgD) (fun hHeld2 => ?_)
          clear hK K hHeld
          have hHeld := hHeld2
          clear hHeld2
          refine stepT (i := 13) (o := _) (by kernel_rfl) rfl (fun K hK => ?_)
          go_simp
          refine hK.out _ _ hHeld (fun hHeld2 => ?_)
          clear hK K hHeld
          have hHeld := hHeld2
          clear hHeld2
          have hBE := hBD.set (j := 2) (by simp) v4
          simp only [List.set_cons_zero, List.set_cons_succ] at hBE
          have hKE := hKD.set (p := ⟨bo, 2, none⟩) (.inl rfl) v4
          have hown5 := hown4.kg ((Kg.refl w4 bo).set (p := ⟨bo, 2, none⟩) (.inl rfl) v4) hz2
          obtain ⟨A4, c4, hv4, hc4, hm4⟩ := hown5.form
          clear hBC hBD hown4 hgrow4 hat4 ownC sC hKC hKD hSf hgC hgD hob
          obtain ⟨hc8, hf8, -⟩ := hHeld
          have hlen4 : (L ++ [x]).length ≤ j + 1 := by simp; omega
          generalize L ++ [x] = L4 at *
          subst hv4
          refine lastT (o := _) (by kernel_rfl) rfl (fun K hK => ?_)
          go_simp
          refine hK.out _ _ ?_
          clear hK K
          refine doneT (by kernel_rfl) ?_ _
          go_wp2
          go_roundw
          case rel => exact ⟨j + 1, L4, _, by omega, by go_num, hlen4, hBE, hown5, HN2, hKE⟩
          case measure => simp [intOf]; omega
        · have HE : Hid (L = le) := hid (by rw [HLi.out, List.take_of_length_le (by omega)])
          have hle := HE.out
          subst hle
          have hgk : gcs.length = k := by
            have := hQ.p3.len
            simp [qcG] at this
            omega
          have hgc := hid hgk
          have kD := kxr.trans ((Kp.refl wr).alloc (.cells #[.int .i64 fi, .int .i64 sz, .slice A1 L.length c1'] 65))
          have kD1 := (Kp.refl wr).alloc (.cells #[.int .i64 fi, .int .i64 sz, .slice A1 L.length c1'] 65)
          have hQD := hQ.next kD 3
          have e0 := hBA.cell (j := 0) rfl
          have e1 := hBA.cell (j := 1) rfl
          have e2 := hBA.cell (j := 2) rfl
          have s2 := (hQ.box.kp kxr hQ.lt).cell (j := 2) rfl
          have zbs := block_lt_of_cell s2
          have hvb := hQD.bo0
          have hvt := hQD.p3.blk
          have hbx := hQD.box
          go_wp2_with (at_builtin; refine wpl_append_flat (l := gcs) (m := [(⟨[.int .i64 fi, .int .i64 sz, .slice A1 L.length c1'], rfl, by simp [Value.oneCell']⟩ : Elm 3)]) rfl (.tmp 62) (.tmp 64) rfl stGraphM encC_len encC_one rfl hQD.p3.own rfl (Sl.one (R := Pl encC) wr [.int .i64 fi, .int .i64 sz, .slice A1 L.length c1'] 65 3 _ rfl rfl) (by have := hgc.out; simp; omega) (by have := hgc.out; simp; omega) (Nat.zero_le _) ?_; intro v8 w8 hown8 hgrow8 hat8 hnil8; have hB8 := hbx.grown hgrow8 (fun e => by have := hvt bs e; omega) hQD.lt; have s8 := hB8.cell (j := 2) rfl; have s8f := hB8.free (j := 2) (by simp); obtain ⟨A8, c8, hv8, hc8, hm8⟩ := hown8.form; subst hv8)
          have hG := hQD.graph (g := ⟨fi, sz, L⟩) (fun i => (Value.slice A1 L.length c1').ownBlock = some i) (fun i hi => ⟨?_, ?_⟩) ((ownA.kp kD1).owS.imp fun w' ho => ⟨.slice A1 L.length c1', rfl, ho.sl encInt_len⟩) hown8 hgrow8 hat8
          · have e8 : (gcs ++ [(⟨[.int .i64 fi, .int .i64 sz, .slice A1 L.length c1'], rfl, by simp [Value.oneCell']⟩ : Elm 3)]).length = k + 1 := by simp [hgc.out]
            have eG : ({ qcG s k with graphs := (qcG s k).graphs ++ [⟨fi, sz, L⟩] } : Sys) = qcG s (k + 1) := by
              unfold qcG
              dsimp only
              rw [HTk.out]
            rw [eG, e8] at hG
            exact ⟨⟨k + 1, _, A8, c8, _, by omega, by go_num, hG⟩, by simp [intOf]; omega⟩
          · have := ownA.ge i hi
            have := ownA.blk_lt i hi
            have := kS.size
            have := kD1.size
            exact tagN_new (by omega) (by omega)
          · intro e
            have := (hQ.tags i (by rw [hQ.p3.blk i e]; omega)).2
            have := ownA.ge i hi
            have := kS.size
            omega
    · obtain ⟨w3, rfl⟩ : ∃ x : World, x = wr := ⟨_, rfl⟩
      have hQr : QC w0 w3 bs τ (.slice AB s.box.length dB) (.slice none 0 0) (.slice A3 k c3) (.slice none 0 0) (qcR s 0) [] gcs [] := by
        have e : qcG s k = qcR s 0 := by unfold qcG qcR; rw [List.take_of_length_le (by omega)]; rfl
        rw [← e]; exact hQ
      clear hQ HL kk
      replace hQr := hid hQr
      go_wp2
      clear c0 c1 c2 c3' hgl
      obtain ⟨c0, c1, c2, c3'⟩ := B0.cells
      generalize k = kg at *
      go_loopw [7] (fun i wr => ∃ (k : Nat) (τ : Nat → Nat) (A : Option Addr) (c : Nat) (css : List (Elm 2)), k ≤ s.rows.length ∧ i = .int .i64 k ∧ QC w0 wr bs τ (.slice AB s.box.length dB) (.slice A k c) (.slice A3 kg c3) (.slice none 0 0) (qcR s k) css gcs []) (fun i _ => s.rows.length - (intOf i).toNat)
      case atStart => exact ⟨0, _, none, 0, [], Nat.zero_le _, rfl, hQr.out⟩
      case round =>
        clear hQr
        obtain ⟨k, τ, A2, c2', css, hk, rfl, hQ⟩ := hrel
        have x1 := hQ.kp.cellS c1
        have hgl := block_lt_of_cell x1
        by_cases hlt : k < s.rows.length
        · obtain ⟨q, o, A', c', rfl, hq, h1, h2, h3⟩ := (hr.keep rdRow_stable k0).row hlt
          have hts := HT.out _ (List.getElem_mem hlt)
          have HTk := hid (List.take_succ_eq_append_getElem hlt)
          generalize s.rows[k] = r at *
          obtain ⟨ts, bd⟩ := r
          dsimp only at h1 h2 h3 hts
          have q1 : (0 : Int) ≤ k := by omega
          have q2 : (k : Int) < s.rows.length := by omega
          have hcl : css.length = k := by
            have := hQ.p2.len
            simp [qcR] at this
            omega
          replace hcl := hid hcl
          go_wp2
          have hSf : ∀ W : World, Bx W bs [.slice AB s.box.length dB, .slice A2 k c2', .slice A3 kg c3, .slice none 0 0] → Kp w0 W → (W.cell? ⟨bs, 1, none⟩ = some (.slice A2 k c2') ∧ W.frozen? ⟨bs, 1, none⟩ = false ∧ W.cell? ⟨b, 1, none⟩ = some (.slice (some ⟨q, o, none⟩) s.rows.length cr) ∧ W.cell? ⟨q, o + k * 2, none⟩ = some (.slice A' ts.length c') ∧ W.cell? ⟨q, o + k * 2 + 1, none⟩ = some (.int .i64 bd) ∧ Kp w0 W) := fun W h hk => ⟨h.cell (j := 1) rfl, h.free (j := 1) (by simp), hk.cellS c1, hk.cellS h1, hk.cellS h2, hk⟩
          refine beginT 11 (S := fun W => W.cell? ⟨bs, 1, none⟩ = some (.slice A2 k c2') ∧ W.frozen? ⟨bs, 1, none⟩ = false ∧ W.cell? ⟨b, 1, none⟩ = some (.slice (some ⟨q, o, none⟩) s.rows.length cr) ∧ W.cell? ⟨q, o + k * 2, none⟩ = some (.slice A' ts.length c') ∧ W.cell? ⟨q, o + k * 2 + 1, none⟩ = some (.int .i64 bd) ∧ Kp w0 W) (by kernel_rfl) (hSf _ (hQ.box.keep rfl) hQ.kp.drew) (fun hHeld => ?_)
          refine take_atT 0 74 (v := ?_) rfl rfl (by kernel_rfl) (by kernel_rfl) (by kernel_rfl) (by kernel_rfl) (by kernel_rfl) (fun _ _ _ h => h) hHeld (Or.inl ⟨by kernel_rfl, ?_⟩) ?_
          rotate_left
          · intro w hSw; (try dsimp only at hSw); go_simp; try with_reducible rfl
          simp only [Act.put, List.setIfInBounds_toArray, List.set_cons_zero, List.set_cons_succ]
          refine take_atT 1 75 (v := ?_) rfl rfl (by kernel_rfl) (by kernel_rfl) (by kernel_rfl) (by kernel_rfl) (by kernel_rfl) (fun _ _ _ h => h) hHeld (Or.inl ⟨by kernel_rfl, ?_⟩) ?_
          rotate_left
          · intro w hSw; (try dsimp only at hSw); go_simp; try with_reducible rfl
          simp only [Act.put, List.setIfInBounds_toArray, List.set_cons_zero, List.set_cons_succ]
          refine take_atT 2 76 (v := ?_) rfl rfl (by kernel_rfl) (by kernel_rfl) (by kernel_rfl) (by kernel_rfl) (by kernel_rfl) (fun _ _ _ h => h) hHeld (Or.inl ⟨by kernel_rfl, ?_⟩) ?_
          rotate_left
          · intro w hSw; (try dsimp only at hSw); go_simp; try with_reducible rfl
          simp only [Act.put, List.setIfInBounds_toArray, List.set_cons_zero, List.set_cons_succ]
          refine take_atT 3 77 (v := ?_) rfl rfl (by kernel_rfl) (by kernel_rfl) (by kernel_rfl) (by kernel_rfl) (by kernel_rfl) (fun _ _ _ h => h) hHeld (Or.inl ⟨by kernel_rfl, ?_⟩) ?_
          rotate_left
          · intro w hSw; (try dsimp only at hSw); go_simp; try with_reducible rfl
          simp only [Act.put, List.setIfInBounds_toArray, List.set_cons_zero, List.set_cons_succ]
          refine take_atT 4 78 (v := ?_) rfl rfl (by kernel_rfl) (by kernel_rfl) (by kernel_rfl) (by kernel_rfl) (by kernel_rfl) (fun _ _ _ h => h) hHeld (Or.inl ⟨by kernel_rfl, ?_⟩) ?_
          rotate_left
          · intro w hSw; (try dsimp only at hSw); go_simp; try with_reducible rfl
          simp only [Act.put, List.setIfInBounds_toArray, List.set_cons_zero, List.set_cons_succ]
          refine take_atT 5 79 (v := ?_) rfl rfl (by kernel_rfl) (by kernel_rfl) (by kernel_rfl) (by kernel_rfl) (by kernel_rfl) (fun _ _ _ h => h) hHeld (Or.inl ⟨by kernel_rfl, ?_⟩) ?_
          rotate_left
          · intro w hSw; (try dsimp only at hSw); go_simp; try with_reducible rfl
          simp only [Act.put, List.setIfInBounds_toArray, List.set_cons_zero, List.set_cons_succ]
          refine take_atT 6 80 (v := ?_) rfl rfl (by kernel_rfl) (by kernel_rfl) (by kernel_rfl) (by kernel_rfl) (by kernel_rfl) (fun _ _ _ h => h) hHeld (Or.inl ⟨by kernel_rfl, ?_⟩) ?_
          rotate_left
          · intro w hSw; (try dsimp only at hSw); go_simp; try with_reducible rfl
          simp only [Act.put, List.setIfInBounds_toArray, List.set_cons_zero, List.set_cons_succ]
          refine stepT (i := 7) (o := _) (by kernel_rfl) rfl (fun K hK => ?_)
          go_simp
          refine (qCopy_any _ ts bd _ (h3.keep (pl_stable _) hHeld.2.2.2.2.2) (by omega)).mono ?_
          rintro e w5 ⟨v5, rfl, own5, k5⟩
          obtain ⟨A5, c5, rfl, _, _⟩ := own5.form
          have kd := (Kp.refl wr).drew
          have zd := kd.size
          have k5' := kd.trans k5
          refine hK.out _ _ (hSf _ (hQ.box.kp k5' hQ.lt) (hQ.kp.trans k5')) (fun hHeld2 => ?_)
          clear hK K hHeld
          have hHeld := hHeld2
          clear hHeld2
          refine stepT (i := 8) (o := _) (by kernel_rfl) rfl (fun K hK => ?_)
          go_simp
          have kC := (Kp.refl w5).alloc (.cells #[.slice A5 ts.length c5, .int .i64 bd] 30)
          have hQD := hQ.next (k5'.trans kC) 2
          refine hK.out _ _ (hSf _ hQD.box hQD.kp) (fun hHeld2 => ?_)
          clear hK K hHeld
          have hHeld := hHeld2
          clear hHeld2
          refine stepT (i := 9) (o := _) (by kernel_rfl) rfl (fun K hK => ?_)
          refine step_append4 (l := css) (m := [(⟨[.slice A5 ts.length c5, .int .i64 bd], rfl, by simp [Value.oneCell']⟩ : Elm 2)]) rfl (.tmp 75) (.tmp 82) rfl stRowM encC_len encC_one rfl hQD.p2.own rfl (Sl.one (R := Pl encC) w5 [.slice A5 ts.length c5, .int .i64 bd] 30 2 _ rfl rfl) (by have := hcl.out; simp; omega) (by have := hcl.out; simp; omega) (Nat.zero_le _) ?_
          intro v8 w8 hown8 hgrow8 hat8
          have hB8 := hQD.box.grown hgrow8 (fun e => by have := hQD.p2.blk bs e; have := hQD.bo0; omega) hQD.lt
          have hk8 : Kp w0 w8 := hQD.kp.grown hgrow8 (fun q hq => (hQD.tags q (by rw [hQD.p2.blk q hq]; omega)).1)
          refine hK.out _ _ (hSf _ hB8 hk8) (fun hHeld2 => ?_)
          clear hK K hHeld
          have hHeld := hHeld2
          clear hHeld2
          refine stepT (i := 10) (o := _) (by kernel_rfl) rfl (fun K hK => ?_)
          go_simp
          refine hK.out _ _ hHeld (fun hHeld2 => ?_)
          clear hK K hHeld
          have hHeld := hHeld2
          clear hHeld2
          obtain ⟨A8, c8, hv8, hc8, hm8⟩ := hown8.form
          subst hv8
          have e8 : (css ++ [(⟨[.slice A5 ts.length c5, .int .i64 bd], rfl, by simp [Value.oneCell']⟩ : Elm 2)]).length = k + 1 := by simp [hcl.out]
          have eG : ({ qcR s k with rows := (qcR s k).rows ++ [⟨ts, bd⟩] } : Sys) = qcR s (k + 1) := by
            unfold qcR
            dsimp only
            rw [HTk.out]
          have hG := hQD.row (r := ⟨ts, bd⟩) (fun i => (Value.slice A5 ts.length c5).ownBlock = some i) (fun i hi => ⟨by
              have := own5.ge i hi
              have := own5.blk_lt i hi
              have := kC.size
              exact tagN_new (by omega) (by omega), fun e => by
              have := (hQ.tags i (by rw [hQ.p2.blk i e]; omega)).2
              have := own5.ge i hi
              omega⟩) ((own5.kp kC).owS.imp fun w' ho => ⟨.slice A5 ts.length c5, rfl, ho.sl encTerm_len⟩) hown8 hgrow8 hat8
          rw [eG, e8] at hG
          rw [e8]
          obtain ⟨p1, p2, -⟩ := hHeld
          refine lastT (o := _) (by kernel_rfl) rfl (fun K hK => ?_)
          go_simp
          refine hK.out _ _ ?_
          clear hK K
          refine doneT (by kernel_rfl) ?_ _
          go_wp2
          go_roundw
          case rel => exact ⟨k + 1, _, A8, c8, _, by omega, by go_num, hG⟩
          case measure => simp [intOf]; omega
        · obtain ⟨w4, rfl⟩ : ∃ x : World, x = wr := ⟨_, rfl⟩
          have hQr : QC w0 w4 bs τ (.slice AB s.box.length dB) (.slice A2 k c2') (.slice A3 kg c3) (.slice none 0 0) (qcC s 0) css gcs [] := by
            have e : qcR s k = qcC s 0 := by unfold qcR qcC; rw [List.take_of_length_le (by omega)]; rfl
            rw [← e]; exact hQ
          have x3 := hQ.kp.cellS c3'
          clear hQ HT
          replace hQr := hid hQr
          go_wp2
          clear x1 x3 hgl
          generalize k = kr at *
          go_loopw [8] (fun i wr => ∃ (k : Nat) (τ : Nat → Nat) (A : Option Addr) (c : Nat) (vs : List (Elm 1)), k ≤ s.cases.length ∧ i = .int .i64 k ∧ QC w0 wr bs τ (.slice AB s.box.length dB) (.slice A2 kr c2') (.slice A3 kg c3) (.slice A k c) (qcC s k) css gcs vs) (fun i _ => s.cases.length - (intOf i).toNat)
          case atStart => exact ⟨0, _, none, 0, [], Nat.zero_le _, rfl, hQr.out⟩
          case round =>
            clear hQr
            obtain ⟨k, τ, A4, c4', vs, hk, rfl, hQ⟩ := hrel
            have x3 := hQ.kp.cellS c3'
            have hgl := block_lt_of_cell x3
            by_cases hlt : k < s.cases.length
            · obtain ⟨q, o, A', c', rfl, hq, h1, h2⟩ := (hc.keep rdRows_stable k0).rowsAt hlt
              have hcs := hid (HC.out _ (List.getElem_mem hlt))
              have HTk := hid (List.take_succ_eq_append_getElem hlt)
              generalize s.cases[k] = l at *
              obtain ⟨y1, y2⟩ := h2.caps
              have hl64 := hcs.out.1
              have q1 : (0 : Int) ≤ k := by omega
              have q2 : (k : Int) < s.cases.length := by omega
              have hcl : vs.length = k := by
                have := hQ.p4.len
                simp [qcC] at this
                omega
              replace hcl := hid hcl
              obtain ⟨wx, rfl⟩ : ∃ x : World, x = wr := ⟨_, rfl⟩
              go_wp2
              go_loopw [9, 10] (fun v i wr => ∃ (j : Nat) (A : Option Addr) (c : Nat) (cssx : List (Elm 2)), j ≤ l.length ∧ i = .int .i64 j ∧ v = .slice A j c ∧ NL rdRow 30 2 (fun q => wx.heap.size ≤ q) wr (.slice A j c) cssx (l.take j) ∧ Kp wx wr) (fun _ i _ => l.length - (intOf i).toNat)
              case atStart => exact ⟨0, _, _, [], Nat.zero_le _, rfl, rfl, ⟨Own.lit (base := 0) encC wx #[] [] (Nat.zero_le _) (by simp) rfl rfl, rfl, fun q hq => by injection hq with hq; exact Nat.le_of_eq hq, fun k h1 _ => absurd h1 (by simp)⟩, (Kp.refl _).alloc _⟩
              case round =>
                obtain ⟨j, A6, c6, cssx, hj, rfl, rfl, hN, hKr⟩ := hrel
                have kx0 := hQ.kp.trans hKr
                have z3 := kx0.cellS c3'
                have z1' := kx0.cellS h1
                have zg := block_lt_of_cell z3
                have zg2 := block_lt_of_cell z1'
                have hcx : cssx.length = j := by
                  have := hN.len
                  simp at this
                  omega
                replace hcx := hid hcx
                by_cases hjl : j < l.length
                · obtain ⟨p, o2, A7, c7, rfl, hp, g1, g2, g3⟩ := (h2.keep rdRow_stable kx0).row hjl
                  have hts := hcs.out.2 _ (List.getElem_mem hjl)
                  have HTj := hid (List.take_succ_eq_append_getElem hjl)
                  generalize l[j] = r at *
                  obtain ⟨ts, bd⟩ := r
                  dsimp only at g1 g2 g3 hts
                  have q3 : (0 : Int) ≤ j := by omega
                  have q4 : (j : Int) < l.length := by omega
                  clear x3 hgl h1
                  go_wp2_with fail
                  refine (qCopy_any _ ts bd _ g3 (by omega)).mono ?_
                  rintro e w5 ⟨v5, rfl, own5, k5⟩
                  obtain ⟨A5, c5, rfl, _, _⟩ := own5.form
                  have kC := (Kp.refl w5).alloc (.cells #[.slice A5 ts.length c5, .int .i64 bd] 30)
                  have hND := hN.kp (k5.trans kC)
                  go_wp2_with (at_builtin; refine wpl_append_flat (l := cssx) (m := [(⟨[.slice A5 ts.length c5, .int .i64 bd], rfl, by simp [Value.oneCell']⟩ : Elm 2)]) rfl (.tmp 103) (.tmp 113) rfl stRowM encC_len encC_one rfl hND.own rfl (Sl.one (R := Pl encC) w5 [.slice A5 ts.length c5, .int .i64 bd] 30 2 _ rfl rfl) (by have := hcx.out; simp; omega) (by have := hcx.out; simp; omega) (Nat.zero_le _) ?_; intro v8 w8 hown8 hgrow8 hat8 hnil8)
                  obtain ⟨A8, c8, rfl, hc8, hm8⟩ := hown8.form
                  have hks := hKr.size
                  have hk5s := (k5.trans kC).size
                  have hN8 := hND.snoc (S' := fun q => wx.heap.size ≤ q) (x := ⟨ts, bd⟩) hown8 hgrow8 hat8 (fun i => (Value.slice A5 ts.length c5).ownBlock = some i) (fun i hi => ⟨by
                    have := own5.ge i hi
                    show wx.heap.size ≤ i
                    omega, fun e => by
                    have := own5.ge i hi
                    have := hN.own.blk_lt i e
                    omega, by
                    have := own5.blk_lt i hi
                    have := kC.size
                    omega⟩) ((own5.kp kC).owS.imp fun w' ho => ⟨.slice A5 ts.length c5, rfl, ho.sl encTerm_len⟩) (fun i hi => hi) (by show wx.heap.size ≤ _; omega)
                  have e8 : (cssx ++ [(⟨[.slice A5 ts.length c5, .int .i64 bd], rfl, by simp [Value.oneCell']⟩ : Elm 2)]).length = j + 1 := by simp [hcx.out]
                  have hk8 := (hKr.trans (k5.trans kC)).grown hgrow8 (fun q hq => hN.blk q hq)
                  rw [← HTj.out, e8] at hN8
                  rw [e8]
                  go_roundw
                  case rel => exact ⟨j + 1, A8, c8, _, by omega, by go_num, rfl, hN8, hk8⟩
                  case measure => simp [intOf]; omega
                · have hjn : j = l.length := by omega
                  subst hjn
                  rw [List.take_length] at hN
                  have kD1 := (Kp.refl wr).alloc (.cells #[.slice A6 l.length c6] 23)
                  have hQ1 := hQ.next hKr (5 + k)
                  have hQD := hQ1.next kD1 4
                  have hkl : (qcC s k).cases.length = k := by simp [qcC]; omega
                  have hNl : NL rdRow 30 2 (fun q => tagN (tagN τ wx.heap.size (5 + k) wr.heap.size) wr.heap.size 4 (wr.alloc (.cells #[.slice A6 l.length c6] 23)).heap.size q = 5 + (qcC s k).cases.length) (wr.alloc (.cells #[.slice A6 l.length c6] 23)) (.slice A6 l.length c6) cssx l := by
                    have h := hN.kp kD1
                    refine ⟨h.own, h.len, fun q hq => ?_, fun m m1 m2 => ?_⟩
                    · rw [hkl]
                      exact tagN_old hQ1.tags 4 _ (by omega) (tagN_new (hN.blk q hq) (hN.own.blk_lt q hq))
                    · obtain ⟨T, hT, ho⟩ := hN.els m m1 m2
                      refine ⟨T, fun i hi => ⟨?_, (hT i hi).2.1, Nat.lt_of_lt_of_le (hT i hi).2.2 kD1.size⟩, ho.kp kD1⟩
                      rw [hkl]
                      exact tagN_old hQ1.tags 4 _ (by omega) (tagN_new (hT i hi).1 (hT i hi).2.2)
                  have s3 := hQ1.box.cell (j := 3) rfl
                  have zbs := block_lt_of_cell s3
                  have hvb := hQD.bo0
                  have hvt := hQD.p4.t
                  have hbx := hQD.box
                  clear x3 hgl h1
                  go_wp2_with (at_builtin; refine wpl_append_flat (l := vs) (m := [(⟨[.slice A6 l.length c6], rfl, by simp [Value.oneCell']⟩ : Elm 1)]) rfl (.tmp 116) (.tmp 118) rfl stRowsM encC_len encC_one rfl hQD.p4.o rfl (Sl.one (R := Pl encC) wr [.slice A6 l.length c6] 23 1 _ rfl rfl) (by have := hcl.out; simp; omega) (by have := hcl.out; simp; omega) (Nat.zero_le _) ?_; intro v8 w8 hown8 hgrow8 hat8 hnil8; have hB8 := hbx.grown hgrow8 (fun e => by have := hvt bs e; omega) hQD.lt; have s8 := hB8.cell (j := 3) rfl; have s8f := hB8.free (j := 3) (by simp); obtain ⟨A8, c8, hv8, hc8, hm8⟩ := hown8.form; subst hv8)
                  have hG := hQD.case (l := l) (u := .slice A6 l.length c6) (c := (⟨[.slice A6 l.length c6], rfl, by simp [Value.oneCell']⟩ : Elm 1)) rfl hNl hown8 hgrow8 hat8
                  have e8 : (vs ++ [(⟨[.slice A6 l.length c6], rfl, by simp [Value.oneCell']⟩ : Elm 1)]).length = k + 1 := by simp [hcl.out]
                  have eG : ({ qcC s k with cases := (qcC s k).cases ++ [l] } : Sys) = qcC s (k + 1) := by
                    unfold qcC
                    dsimp only
                    rw [HTk.out]
                  rw [eG, e8] at hG
                  rw [hcl.out]
                  exact ⟨⟨k + 1, _, A8, c8, _, by omega, by go_num, hG⟩, by simp [intOf]; omega⟩
            · have hme : k = s.cases.length := by omega
              have hqc : qcC s k = s := by unfold qcC; rw [List.take_of_length_le (by omega)]
              rw [hqc] at hQ
              clear hme hqc
              have g0 := hQ.box.cell (j := 0) rfl
              have g1 := hQ.box.cell (j := 1) rfl
              have g2 := hQ.box.cell (j := 2) rfl
              have g3 := hQ.box.cell (j := 3) rfl
              have hbw' := hbw.out
              have hRr := hR.kp hQ.kp (by omega)
              have hblr : b + 1 < wr.heap.size := by have := hQ.kp.size; omega
              have f0 := hRr.free (j := 0) (by simp)
              have f1 := hRr.free (j := 1) (by simp)
              have f2 := hRr.free (j := 2) (by simp)
              have f3 := hRr.free (j := 3) (by simp)
              have r0 := hRr.cell (j := 0) rfl
              have r1 := hRr.cell (j := 1) rfl
              have r2 := hRr.cell (j := 2) rfl
              have r3 := hRr.cell (j := 3) rfl
              have zbs := block_lt_of_cell g0
              have hBF := (((hRr.set (j := 0) (by simp) (.slice AB s.box.length dB)).set (j := 1) (by simp) (.slice A2 kr c2')).set (j := 2) (by simp) (.slice A3 kg c3)).set (j := 3) (by simp) (.slice A4 k c4')
              simp only [List.set_cons_zero, List.set_cons_succ] at hBF
              have kS : Kg wr ((((wr.setCell ⟨b + 1, 0, none⟩ (.slice AB s.box.length dB)).setCell ⟨b + 1, 1, none⟩ (.slice A2 kr c2')).setCell ⟨b + 1, 2, none⟩ (.slice A3 kg c3)).setCell ⟨b + 1, 3, none⟩ (.slice A4 k c4')) (b + 1) := ((((Kg.refl wr (b + 1)).set (p := ⟨b + 1, 0, none⟩) (.inl rfl) _).set (p := ⟨b + 1, 1, none⟩) (.inl rfl) _).set (p := ⟨b + 1, 2, none⟩) (.inl rfl) _).set (p := ⟨b + 1, 3, none⟩) (.inl rfl) _
              have hτ : τ (b + 1) = 0 := by
                by_cases h : τ (b + 1) = 0
                · exact h
                · have := (hQ.tags _ h).1
                  omega
              have hsys := hQ.fin kS hτ
              have htags : Tags w.heap.size ((((wr.setCell ⟨b + 1, 0, none⟩ (.slice AB s.box.length dB)).setCell ⟨b + 1, 1, none⟩ (.slice A2 kr c2')).setCell ⟨b + 1, 2, none⟩ (.slice A3 kg c3)).setCell ⟨b + 1, 3, none⟩ (.slice A4 k c4')) τ := fun q hq => by
                have h1 := hQ.tags q hq
                have h2 := kS.size
                have h3 := k0.size
                exact ⟨by omega, by omega⟩
              have hkF := Kg.to_kp (k0.trans hQ.kp) kS (by omega)
              go_wp2
              refine bodyPost_ret (results_cell_bx rfl _ _ (b + 1) [.slice AB s.box.length dB, .slice A2 kr c2', .slice A3 kg c3, .slice A4 k c4'] _ rfl hBF.range Try.underlying27 rfl (by kernel_rfl)) rfl ?_
              first
                | exact ⟨_, _, _, _, τ, rfl, htags, hsys, hkF⟩
                | exact ⟨_, _, _, _, rfl, τ, (by rw [hbw'] at htags; exact htags), hsys, hkF⟩
end Go.Proofs.Ytfllmnaillilhaa
