
/-
Graphs: a range over the simple cycles: what the caller owes.
-/
import Derived.Test.YtlkabhjkncklnaaDgG
import Derived.RangeFuncLeaves
import Derived.RangeFuncKeeps
import Derived.OwnWalkIn
import Derived.TacticsInMore
namespace Go.Proofs.Ytlkabhjkncklnaa
set_option linter.unusedSimpArgs false
set_option linter.unusedVariables false
open Go.RowKit

theorem Kg.putObj (W : World) (l : Nat) (o : Obj) : Kg W (W.putObj l o) l := grownBy_putObj' W l o
theorem KX.lp {bn l : Nat} {w w' : World} (h : KX bn bn w w') : KX bn l w w' := ⟨h.os, h.tape, h.output, h.size, fun k hk h1 _ h3 => h.block k hk h1 h1 h3, h.x⟩
theorem KX.putObj {bn lp : Nat} {w w' : World} (h : KX bn lp w w') (hne : bn ≠ lp) (hlt : lp < w'.heap.size) (o : Obj) : KX bn lp w (w'.putObj lp o) := by
  have hz := (Kg.putObj w' lp o).size
  have hx : ∀ q, Xof bn (w'.putObj lp o) q → Xof bn w' q := fun q ⟨v, h1, h2⟩ => ⟨v, (World.cell?_of_block (World.putObj_heap_other hne)).symm.trans h1, h2⟩
  refine ⟨h.os, h.tape, h.output, Nat.le_trans h.size hz, fun k hk h1 h2 h3 => (World.putObj_heap_other h2).trans (h.block k hk h1 h2 h3), fun q hq => ?_⟩
  rcases h.x q (hx q hq) with h4 | h4
  · exact .inl h4
  · exact .inr ⟨h4.1, by omega⟩
theorem own_putObj {W : World} {l base e size : Nat} {α : Type} {enc : α → List Value} {r : Loop} (o : Obj) {v : Value} {x : List α} (h : Own enc e size base W v x) (hl : W.heap[l]? = some (.loop r)) : Own enc e size base (W.putObj l o) v x := by
  refine h.owS _ (Kg.putObj W l o).size fun q hq hlt => World.putObj_heap_other ?_
  rintro rfl
  rcases h.2 with ⟨rfl, _⟩ | ⟨g, cap, cur, rfl, _, hg, _⟩
  · simp [Value.ownBlock] at hq
  · simp only [Value.ownBlock, Option.some.injEq] at hq
    subst hq
    rw [hl] at hg
    cases hg
section
variable {k : Nat}
theorem wpIn_rangeC {g : Operand} {t : Tmp} {assign body : Code} {Q : Exit → Act → World → Prop} {a : Act} {w Wz : World} {n : Nat} {es : List Bool} {vg : Value} {bn : Nat}
    (hg : a.eval g = .func (.func 43) #[vg] #[]) (hgr : GrV Wz vg n es) (hz : Kp Wz w) (hzb : Wz.heap.size ≤ bn) (hbn : bn < w.heap.size) (hX : ∀ q, Xof bn w q → Wz.heap.size ≤ q ∧ q < w.heap.size)
    (I : List (List Nat) → World → Prop) (Ix : World → Prop) (hI : ∀ l s A B, (l = w.heap.size ∨ l = w.heap.size + 1) → I s A → Kg A B l → I s B) (hIx : ∀ l A B, (l = w.heap.size ∨ l = w.heap.size + 1) → Ix A → Kg A B l → Ix B) (hIX : ∀ s A, I s A → ∀ q, Xof bn A q → q ≠ w.heap.size ∧ q ≠ w.heap.size + 1) (h0 : I [] w) (a1 : Value → Act)
    (hassign : ∀ l m v W (K : Act → World → Prop), K (a1 v) W → assign.wpIn (Fence.wide.inRound l) m Try.prog (Exit.then K fun _ _ _ => False) { tmps := a.tmps.setIfInBounds t v, defers := [] } W)
    (hbody : ∀ l m pre x v W0 W, l = w.heap.size + 1 → l < W0.heap.size → I pre W0 → Kg W0 W l → Own encInt 3 1 W0.heap.size W v (castL x) → (∃ rest, allC n es n = pre ++ x :: rest) → body.wpIn (Fence.wide.inRound l) m Try.prog (fun e _ W' => (e = .normal ∧ KX bn bn W W' ∧ I (pre ++ [x]) W') ∨ (e = .ret ∧ KX bn bn W W' ∧ Ix W')) (a1 v) W)
    (hdone : ∀ D W, D = w.heap.size → I (allC n es n) W → W.heap[D]? = some (.deferred (some [])) → Q .normal { a with defers := { target := .collected D, args := #[] } :: a.defers } W)
    (hstop : ∀ D W, D = w.heap.size → Ix W → W.heap[D]? = some (.deferred (some [])) → Q .ret { a with defers := { target := .collected D, args := #[] } :: a.defers } W) :
    (Code.rangeFunc g #[t] assign body).wpIn Fence.wide k Try.prog Q a w := by
  refine wpIn_rangeFunc fun fn hfn => ?_
  have kA := ((Kp.refl w).alloc (.deferred (some []))).alloc (.loop { state := .ready, pending := none, fn := fn, tmps := a.tmps, params := #[t], assign := assign, body := body, defers := w.heap.size })
  have hrun := run_enterLoop_outer (P := Try.prog) (w := w) fn a.tmps #[t] assign body
  have hL1 := heap_alloc_new (w.alloc (.deferred (some []))) (.loop { state := .ready, pending := none, fn := fn, tmps := a.tmps, params := #[t], assign := assign, body := body, defers := w.heap.size })
  have hD1 := (heap_alloc_old (w.alloc (.deferred (some []))) (.loop { state := .ready, pending := none, fn := fn, tmps := a.tmps, params := #[t], assign := assign, body := body, defers := w.heap.size }) (r := w.heap.size) (by simp)).trans (heap_alloc_new w _)
  have hlt : w.heap.size + 1 < ((w.alloc (.deferred (some []))).alloc (.loop { state := .ready, pending := none, fn := fn, tmps := a.tmps, params := #[t], assign := assign, body := body, defers := w.heap.size })).heap.size := by simp
  rw [World.size_alloc] at hL1
  generalize (w.alloc (.deferred (some []))).alloc (.loop { state := .ready, pending := none, fn := fn, tmps := a.tmps, params := #[t], assign := assign, body := body, defers := w.heap.size }) = w1 at *
  have hI1 : I [] w1 := hI _ _ _ _ (.inl rfl) h0 (kA.kg w.heap.size)
  obtain ⟨l, hl⟩ : ∃ l, l = w.heap.size + 1 := ⟨_, rfl⟩
  rw [← hl] at hrun hL1 hlt
  have hzs := hz.size
  have hQ := dCycles0_any n es vg l bn Wz w1 hgr (hz.trans kA) hzb (by omega) (by have := kA.size; omega) (by omega) (fun q hq => by
      obtain ⟨x1, x2⟩ := hX q (xof_kp kA hbn hq)
      exact ⟨x1, Nat.lt_of_lt_of_le x2 kA.size⟩)
    (fun pre W => I pre W ∧ W.heap[l]? = some (.loop { state := .ready, pending := none, fn := fn, tmps := a.tmps, params := #[t], assign := assign, body := body, defers := w.heap.size }) ∧ W.heap[w.heap.size]? = some (.deferred (some [])) ∧ w.heap.size ≤ W.heap.size)
    (fun W => Ix W ∧ W.heap[l]? = some (.loop { state := .done, pending := some .ret, fn := fn, tmps := a.tmps, params := #[t], assign := assign, body := body, defers := w.heap.size }) ∧ W.heap[w.heap.size]? = some (.deferred (some [])) ∧ w.heap.size ≤ W.heap.size)
    ?st ?yl ⟨hI1, hL1, hD1, kA.size⟩
  case st =>
    rintro s A B ⟨i1, i2, i3, i4⟩ hk
    refine ⟨hI _ _ _ _ (.inl rfl) i1 (hk.kg w.heap.size), ?_, ?_, Nat.le_trans i4 hk.size⟩
    · rw [hk.block (Array.getElem?_eq_some_iff.1 i2).1]; exact i2
    · rw [hk.block (Array.getElem?_eq_some_iff.1 i3).1]; exact i3
  case yl =>
    rintro pre x v W0 W ⟨i1, i2', i3', i4⟩ hk0 hown hx m
    have i2 : W.heap[l]? = _ := (hk0.block (Array.getElem?_eq_some_iff.1 i2').1).trans i2'
    have i3 : W.heap[w.heap.size]? = _ := (hk0.block (Array.getElem?_eq_some_iff.1 i3').1).trans i3'
    have i4' := hk0.size
    have hlW := (Array.getElem?_eq_some_iff.1 i2).1
    refine ⟨fn, _, assign, body, run_yield (P := Try.prog) (args := #[v]) i2 rfl, roundIn_of_wpIn hfn ?_⟩
    rw [show ((({ state := .ready, pending := none, fn := fn, tmps := a.tmps, params := #[t], assign := assign, body := body, defers := w.heap.size } : Loop).params.zip #[v]).foldl (fun tmps (t, a) => tmps.setIfInBounds t a) ({ state := .ready, pending := none, fn := fn, tmps := a.tmps, params := #[t], assign := assign, body := body, defers := w.heap.size } : Loop).tmps) = a.tmps.setIfInBounds t v by simp]
    refine hassign l _ v W _ ⟨_, run_beginRound i2 rfl, ?_⟩
    have hs2 : (W.putObj l (.loop { state := .busy, pending := none, fn := fn, tmps := a.tmps, params := #[t], assign := assign, body := body, defers := w.heap.size })).heap[l]? = _ := World.putObj_heap_same hlW
    have hsz2 := (Kg.putObj W l (.loop { state := .busy, pending := none, fn := fn, tmps := a.tmps, params := #[t], assign := assign, body := body, defers := w.heap.size })).size
    have hD2 : (W.putObj l (.loop { state := .busy, pending := none, fn := fn, tmps := a.tmps, params := #[t], assign := assign, body := body, defers := w.heap.size })).heap[w.heap.size]? = _ := (World.putObj_heap_other (by omega)).trans i3
    have hkb2 := (KX.refl bn l W).putObj (by omega) hlW (.loop { state := .busy, pending := none, fn := fn, tmps := a.tmps, params := #[t], assign := assign, body := body, defers := w.heap.size })
    have hxW : ∀ q, Xof bn (W.putObj l (.loop { state := .busy, pending := none, fn := fn, tmps := a.tmps, params := #[t], assign := assign, body := body, defers := w.heap.size })) q → q ≠ w.heap.size ∧ q ≠ l := fun q ⟨u, h1, h2⟩ => by
      have hbnl : bn ≠ l := by omega
      have hbW0 : bn < W0.heap.size := by omega
      have h3 := hIX _ _ i1 q (xof_kp hk0 hbW0 ⟨u, (World.cell?_of_block (World.putObj_heap_other hbnl)).symm.trans h1, h2⟩)
      rw [hl]
      exact h3
    have hb := hbody l m pre x v W0 _ hl (Array.getElem?_eq_some_iff.1 i2').1 i1 ((hk0.kg l).trans (Kg.putObj W l (.loop { state := .busy, pending := none, fn := fn, tmps := a.tmps, params := #[t], assign := assign, body := body, defers := w.heap.size }))) (own_putObj _ hown i2) hx
    generalize W.putObj l (.loop { state := .busy, pending := none, fn := fn, tmps := a.tmps, params := #[t], assign := assign, body := body, defers := w.heap.size }) = W2 at *
    refine wpIn_mono hb ?_
    rintro e a3 W3 (⟨rfl, k3, i5⟩ | ⟨rfl, k3, i5⟩)
    all_goals
      have hl3 := (k3.block l (Array.getElem?_eq_some_iff.1 hs2).1 (by omega) (by omega) fun hx => (hxW l hx).2 rfl).trans hs2
      have hl3s := (Array.getElem?_eq_some_iff.1 hl3).1
      have hD3 := (k3.block w.heap.size (Array.getElem?_eq_some_iff.1 hD2).1 (by omega) (by omega) fun hx => (hxW _ hx).1 rfl).trans hD2
      have hsz := k3.size
    · exact ⟨_, _, run_endRound (P := Try.prog) none hl3, .inl ⟨rfl, ⟨hI _ _ _ _ (.inr hl) i5 (Kg.putObj W3 l _), World.putObj_heap_same hl3s, (World.putObj_heap_other (by omega)).trans hD3, Nat.le_trans (by omega) (Kg.putObj W3 l _).size⟩, (hkb2.trans k3.lp).putObj (by omega) hl3s _⟩⟩
    · exact ⟨_, _, run_endRound (P := Try.prog) (some .ret) hl3, .inr ⟨rfl, ⟨hIx _ _ _ (.inr hl) i5 (Kg.putObj W3 l _), World.putObj_heap_same hl3s, (World.putObj_heap_other (by omega)).trans hD3, Nat.le_trans (by omega) (Kg.putObj W3 l _).size⟩, (hkb2.trans k3.lp).putObj (by omega) hl3s _⟩⟩
  refine ⟨l, _, w1, { target := .fn (.func 43) #[], args := #[vg, .func (.yield l) #[] #[]] }, w1, 43, #[vg, .func (.yield l) #[] #[]], w1, hrun, ?_, fun _ _ => trivial, ?_, fun e => by simp [Fence.wide] at e, ?_⟩
  · simp only [resolve, hg]
    simp [go_sem]
  · simp [invoke, go_sem]
  · refine callsIn_wide.2 (hQ.mono ?_)
    rintro e W2 ⟨⟨v, rfl⟩, (⟨i1, i2, i3, i4⟩ | ⟨i1, i2, i3, i4⟩), -⟩
    · exact ⟨none, _, run_endLoop (P := Try.prog) i2 (by simp), hdone _ _ rfl (hI _ _ _ _ (.inr hl) i1 (Kg.putObj W2 l _)) ((World.putObj_heap_other (by omega)).trans i3)⟩
    · exact ⟨some .ret, _, run_endLoop (P := Try.prog) i2 (by simp), wpIn_ret (hstop _ _ rfl (hIx _ _ _ (.inr hl) i1 (Kg.putObj W2 l _)) ((World.putObj_heap_other (by omega)).trans i3))⟩
end
end Go.Proofs.Ytlkabhjkncklnaa
