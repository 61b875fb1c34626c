/-
The reference of systems: divisors, normal rows, equal terms, copies of rows.
The reference of systems: equal systems are the same.
A system that is built by appends: what is known of it.
The reference's copy of a system: the walk.
The reference's Branch: the walk.
-/
import Derived.Test.YtlbhidiliogflaaSH
import Derived.Test.YtlbhidiliogflaaSG
import Derived.Test.YtlbhidiliogflaaGM
namespace Go.Proofs.Ytlbhidiliogflaa
set_option linter.unusedSimpArgs false
set_option linter.unusedVariables false
open Go.RowKit

theorem gcdI_abs (g f : Int) : gcdI g (max f (-f)) = gcdI g f := by
  unfold gcdI Int.gcd
  congr 2
  omega
set_option maxRecDepth 8000 in
set_option maxHeartbeats 8000000 in
theorem qCopy_any (vt : Value) (ts : List Term) (bd : Int) (w : World) (ht : Terms w vt ts) (hl : ts.length ≤ 1000000) :
    Calls Try.prog 82 #[.agg #[vt, .int .i64 bd]] w fun e w' => ∃ v, e = .returned (.agg #[v, .int .i64 bd]) ∧ Own encTerm 73 2 w.heap.size w' v ts ∧ Kp w w' := by
  obtain ⟨A, c, rfl, hc, hm⟩ := ht.form
  have k0 := (((Kp.refl w).alloc (.cells #[.slice A ts.length c, .int .i64 bd] 76)).alloc (.cells #[.slice none 0 0, .int .i64 0] 76)).alloc (.cells #[.slice none 0 0, .int .i64 bd] 76)
  have c0 := (((Kp.refl _).alloc (.cells #[.slice none 0 0, .int .i64 0] 76)).alloc (.cells #[.slice none 0 0, .int .i64 bd] 76)).cellS (alloc_cell w #[.slice A ts.length c, .int .i64 bd] 76 0 rfl)
  have hR := (Bx.new (w.alloc (.cells #[.slice A ts.length c, .int .i64 bd] 76)) #[.slice none 0 0, .int .i64 0] 76).kp ((Kp.refl _).alloc (.cells #[.slice none 0 0, .int .i64 bd] 76)) (by simp)
  have hB := Bx.new ((w.alloc (.cells #[.slice A ts.length c, .int .i64 bd] 76)).alloc (.cells #[.slice none 0 0, .int .i64 0] 76)) #[.slice none 0 0, .int .i64 bd] 76
  have hz : (((w.alloc (.cells #[.slice A ts.length c, .int .i64 bd] 76)).alloc (.cells #[.slice none 0 0, .int .i64 0] 76)).alloc (.cells #[.slice none 0 0, .int .i64 bd] 76)).heap.size = w.heap.size + 3 := by simp
  rw [World.size_alloc] at hR
  have hbz : ((w.alloc (.cells #[.slice A ts.length c, .int .i64 bd] 76)).alloc (.cells #[.slice none 0 0, .int .i64 0] 76)).heap.size = w.heap.size + 2 := by simp
  rw [hbz] at hB
  go_enter Try.func82, Try.ntmps82
  go_wp2
  generalize ((w.alloc (.cells #[.slice A ts.length c, .int .i64 bd] 76)).alloc (.cells #[.slice none 0 0, .int .i64 0] 76)).alloc (.cells #[.slice none 0 0, .int .i64 bd] 76) = w0 at *
  generalize hbw : w.heap.size = b at *
  replace hbw := hid hbw
  have hz2 : b + 2 < w0.heap.size := by omega
  have g01 : b < b + 2 := by omega
  have g11 : b + 1 < b + 2 := by omega
  clear hz hbz
  generalize hbo : b + 2 = bo at *
  replace hbo := hid hbo
  go_loopw [4] (fun i wr => ∃ (k : Nat) (L : List Term) (v : Value), k ≤ ts.length ∧ i = .int .i64 k ∧ L.length ≤ k ∧ Bx wr (bo) [v, .int .i64 bd] ∧ Own encTerm 73 2 w0.heap.size wr v L ∧ Hid (L = ts.take k) ∧ Kg w0 wr (bo)) (fun i _ => ts.length - (intOf i).toNat)
  case atStart => exact ⟨0, [], _, Nat.zero_le _, rfl, Nat.le_refl _, hB, Own.nil _ _ _ _ _, hid (by simp), Kg.refl _ _⟩
  case round =>
    clear hB
    obtain ⟨k, L, v, hk, rfl, hLk, hBA, ownA, HL, hKA⟩ := hrel
    obtain ⟨A1, c1', rfl, hc1, hm1⟩ := ownA.form
    have kwr : Kp w wr := Kg.to_kp k0 hKA (by have := hbw.out; omega)
    have hsz := hKA.size
    have hbolA : bo < wr.heap.size := by omega
    have d0 := hKA.cellS c0 (by show b ≠ bo; omega)
    have hgl := block_lt_of_cell d0
    by_cases hlt : k < ts.length
    · obtain ⟨p, o, rfl, hp, h1, h2⟩ := (ht.keep (pl_stable _) kwr).term hlt
      have h1b := block_lt_of_cell h1
      have HT := hid (List.take_succ_eq_append_getElem hlt)
      have hq : p ≠ bo ∧ (Value.slice A1 L.length c1').ownBlock ≠ some p := by
        obtain ⟨p2, o2, hA, hp2, hp3, -⟩ := ht.term hlt
        injection hA with hA
        injection hA with e1 e2 _
        subst e1
        have := hbw.out
        exact ⟨by omega, fun e => by have := ownA.ge p e; omega⟩
      have hbq : (Value.slice A1 L.length c1').ownBlock ≠ some b := fun e => by have := ownA.ge b e; omega
      have HN2 : Hid (L ++ [ts[k]] = ts.take (k + 1)) := hid (by rw [HT.out, HL.out])
      clear c0
      generalize ts[k] = t at *
      obtain ⟨ce, fa⟩ := t
      dsimp only at h1 h2
      have q1 : (0 : Int) ≤ k := by omega
      have q2 : (k : Int) < ts.length := by omega
      go_wp2
      obtain ⟨wA, rfl⟩ : ∃ x : World, x = wr := ⟨_, rfl⟩
      have hSf : ∀ W : World, Bx W bo [.slice A1 L.length c1', .int .i64 bd] → wA.grownBy W (Value.slice A1 L.length c1').ownBlock → (W.cell? ⟨bo, 0, none⟩ = some (.slice A1 L.length c1') ∧ W.frozen? ⟨bo, 0, none⟩ = false ∧ W.cell? ⟨b, 0, none⟩ = some (.slice (some ⟨p, o, none⟩) ts.length c) ∧ W.cell? ⟨p, o + k * 2, none⟩ = some (.int .i64 ce) ∧ W.cell? ⟨p, o + k * 2 + 1, none⟩ = some (.int .i64 fa)) := fun W h g => ⟨h.cell (j := 0) rfl, h.free (j := 0) (by simp), (World.cell?_of_block (g.block b hgl (fun e => hbq e.symm))).trans d0, (World.cell?_of_block (g.block p h1b (fun e => hq.2 e.symm))).trans h1, (World.cell?_of_block (g.block p h1b (fun e => hq.2 e.symm))).trans h2⟩
      refine beginT 10 (S := fun W => W.cell? ⟨bo, 0, none⟩ = some (.slice A1 L.length c1') ∧ W.frozen? ⟨bo, 0, none⟩ = false ∧ W.cell? ⟨b, 0, none⟩ = some (.slice (some ⟨p, o, none⟩) ts.length c) ∧ W.cell? ⟨p, o + k * 2, none⟩ = some (.int .i64 ce) ∧ W.cell? ⟨p, o + k * 2 + 1, none⟩ = some (.int .i64 fa)) (by kernel_rfl) (hSf _ (hBA.keep rfl) ((Kp.refl _).drew.gb _)) (fun hHeld => ?_)
      refine take_atT 0 15 (v := ?_) rfl rfl (by kernel_rfl) (by kernel_rfl) (by kernel_rfl) (by kernel_rfl) (by kernel_rfl) (fun _ _ _ h => h) hHeld (Or.inl ⟨by kernel_rfl, ?_⟩) ?_
      rotate_left
      · intro w hSw; (try dsimp only at hSw); go_simp; try with_reducible rfl
      simp only [Act.put, List.setIfInBounds_toArray, List.set_cons_zero, List.set_cons_succ]
      refine take_atT 1 16 (v := ?_) rfl rfl (by kernel_rfl) (by kernel_rfl) (by kernel_rfl) (by kernel_rfl) (by kernel_rfl) (fun _ _ _ h => h) hHeld (Or.inl ⟨by kernel_rfl, ?_⟩) ?_
      rotate_left
      · intro w hSw; (try dsimp only at hSw); go_simp; try with_reducible rfl
      simp only [Act.put, List.setIfInBounds_toArray, List.set_cons_zero, List.set_cons_succ]
      refine take_atT 2 17 (v := ?_) rfl rfl (by kernel_rfl) (by kernel_rfl) (by kernel_rfl) (by kernel_rfl) (by kernel_rfl) (fun _ _ _ h => h) hHeld (Or.inl ⟨by kernel_rfl, ?_⟩) ?_
      rotate_left
      · intro w hSw; (try dsimp only at hSw); go_simp; try with_reducible rfl
      simp only [Act.put, List.setIfInBounds_toArray, List.set_cons_zero, List.set_cons_succ]
      refine take_atT 3 18 (v := ?_) rfl rfl (by kernel_rfl) (by kernel_rfl) (by kernel_rfl) (by kernel_rfl) (by kernel_rfl) (fun _ _ _ h => h) hHeld (Or.inl ⟨by kernel_rfl, ?_⟩) ?_
      rotate_left
      · intro w hSw; (try dsimp only at hSw); go_simp; try with_reducible rfl
      simp only [Act.put, List.setIfInBounds_toArray, List.set_cons_zero, List.set_cons_succ]
      refine take_atT 4 19 (v := ?_) rfl rfl (by kernel_rfl) (by kernel_rfl) (by kernel_rfl) (by kernel_rfl) (by kernel_rfl) (fun _ _ _ h => h) hHeld (Or.inl ⟨by kernel_rfl, ?_⟩) ?_
      rotate_left
      · intro w hSw; (try dsimp only at hSw); go_simp; try with_reducible rfl
      simp only [Act.put, List.setIfInBounds_toArray, List.set_cons_zero, List.set_cons_succ]
      refine take_atT 5 20 (v := ?_) rfl rfl (by kernel_rfl) (by kernel_rfl) (by kernel_rfl) (by kernel_rfl) (by kernel_rfl) (fun _ _ _ h => h) hHeld (Or.inl ⟨by kernel_rfl, ?_⟩) ?_
      rotate_left
      · intro w hSw; (try dsimp only at hSw); go_simp; try with_reducible rfl
      simp only [Act.put, List.setIfInBounds_toArray, List.set_cons_zero, List.set_cons_succ]
      refine take_atT 6 21 (v := ?_) rfl rfl (by kernel_rfl) (by kernel_rfl) (by kernel_rfl) (by kernel_rfl) (by kernel_rfl) (fun _ _ _ h => h) hHeld (Or.inl ⟨by kernel_rfl, ?_⟩) ?_
      rotate_left
      · intro w hSw; (try dsimp only at hSw); go_simp; try with_reducible rfl
      simp only [Act.put, List.setIfInBounds_toArray, List.set_cons_zero, List.set_cons_succ]
      refine stepT (i := 7) (o := _) (by kernel_rfl) rfl (fun K hK => ?_)
      go_simp
      have kC := ((Kp.refl wA).alloc (.cells #[.int .i64 ce, .int .i64 fa] 73)).drew
      have hBC := hBA.kp kC hbolA
      have ownC := ownA.kp kC
      have sC := (litT wA 73 ⟨ce, fa⟩).keep (pl_stable _) ((Kp.refl (wA.alloc (.cells #[.int .i64 ce, .int .i64 fa] 73))).drew)
      have hKC := hKA.trans (kC.kg bo)
      have hgC := kC.gb (Value.slice A1 L.length c1').ownBlock
      have zC := kC.size
      have zK := hKC.size
      refine hK.out _ _ (hSf _ hBC hgC) (fun hHeld2 => ?_)
      clear hK K hHeld
      have hHeld := hHeld2
      clear hHeld2
      clear hBA ownA hKA kC
      generalize (wA.alloc (.cells #[.int .i64 ce, .int .i64 fa] 73)).drew = wC at *
      refine stepT (i := 8) (o := _) (by kernel_rfl) rfl (fun K hK => ?_)
      refine step_append4 rfl (.tmp 16) (.tmp 22) rfl stTermM encTerm_len encTerm_one rfl ownC rfl sC (by simp; omega) (by simp; omega) (by omega) ?_
      intro v4 w4 hown4 hgrow4 hat4
      have hob := ownC.ge
      have hBD := hBC.grown hgrow4 (fun e => by have := hob bo e; omega) (by omega)
      have hKD := hKC.grown hgrow4 hob
      have hgD := World.grownBy.trans hgC hgrow4
      refine hK.out _ _ (hSf _ hBD hgD) (fun hHeld2 => ?_)
      clear hK K hHeld
      have hHeld := hHeld2
      clear hHeld2
      refine stepT (i := 9) (o := _) (by kernel_rfl) rfl (fun K hK => ?_)
      go_simp
      refine hK.out _ _ hHeld (fun hHeld2 => ?_)
      clear hK K hHeld
      have hHeld := hHeld2
      clear hHeld2
      have hBE := hBD.set (j := 0) (by simp) v4
      simp only [List.set_cons_zero, List.set_cons_succ] at hBE
      have hKE := hKD.set (p := ⟨bo, 0, none⟩) (.inl rfl) v4
      have hown5 := hown4.kg ((Kg.refl w4 bo).set (p := ⟨bo, 0, none⟩) (.inl rfl) v4) hz2
      obtain ⟨A4, c4, hv4, hc4, hm4⟩ := hown5.form
      clear hBC hBD hown4 hgrow4 hat4 ownC sC hKC hKD hSf hgC hgD hob
      obtain ⟨hc8, hf8, -⟩ := hHeld
      have hlen4 : (L ++ [(⟨ce, fa⟩ : Term)]).length ≤ k + 1 := by simp; omega
      generalize L ++ [(⟨ce, fa⟩ : Term)] = L4 at *
      subst hv4
      refine lastT (o := _) (by kernel_rfl) rfl (fun K hK => ?_)
      go_simp
      refine hK.out _ _ ?_
      clear hK K
      refine doneT (by kernel_rfl) ?_ _
      go_wp2
      go_roundw
      case rel => exact ⟨k + 1, L4, _, by omega, by go_num, hlen4, hBE, hown5, HN2, hKE⟩
      case measure => simp [intOf]; omega
    · have HE : Hid (L = ts) := hid (by rw [HL.out, List.take_of_length_le (by omega)])
      have hbz2 := hR.kg hKA (by omega) (by omega)
      have hBF := hbz2.set2 (.slice A1 L.length c1') (.int .i64 bd)
      have q0 := hBA.cell (j := 0) rfl
      have q1 := hBA.cell (j := 1) rfl
      have s0 := hbz2.cell (j := 0) rfl
      have s1 := hbz2.cell (j := 1) rfl
      have r0 := hbz2.free (j := 0) (by simp)
      have r1 := hbz2.free (j := 1) (by simp)
      have hzr : b + 1 < wr.heap.size := by omega
      have hkf : Kp w ((wr.setCell ⟨b + 1, 0, none⟩ (.slice A1 L.length c1')).setCell ⟨b + 1, 1, none⟩ (.int .i64 bd)) := (kwr.set (p := ⟨b + 1, 0, none⟩) (by have := hbw.out; show w.heap.size ≤ b + 1; omega) _).set (p := ⟨b + 1, 1, none⟩) (by have := hbw.out; show w.heap.size ≤ b + 1; omega) _
      have hkg : Kg wr ((wr.setCell ⟨b + 1, 0, none⟩ (.slice A1 L.length c1')).setCell ⟨b + 1, 1, none⟩ (.int .i64 bd)) (b + 1) := ((Kg.refl _ _).set (p := ⟨b + 1, 0, none⟩) (.inl rfl) _).set (p := ⟨b + 1, 1, none⟩) (.inl rfl) _
      have hof := (ownA.kg hkg (by omega)).less (base' := w.heap.size) (by have := hbw.out; omega)
      clear hBA ownA c0
      go_wp2
      refine bodyPost_ret (results_cell_bx rfl _ _ (b + 1) [.slice A1 L.length c1', .int .i64 bd] _ rfl hBF.range Try.underlying76 rfl (by kernel_rfl)) rfl ⟨.slice A1 L.length c1', rfl, ?_, hkf⟩
      rw [← HE.out]
      exact hof
end Go.Proofs.Ytlbhidiliogflaa
namespace Go.Proofs.Ytlbhidiliogflaa
set_option linter.unusedSimpArgs false
set_option linter.unusedVariables false
open Go.RowKit

set_option maxHeartbeats 2000000 in
theorem rInts_refl (va vb : Value) (l : List Int) (w : World) (ha : Ints w va l) (hb : Ints w vb l) :
    Calls Try.prog 48 #[va, vb] w fun e w' => e = .returned (.bool true) ∧ Kp w w' := by
  obtain ⟨A, c, rfl, hc, hm⟩ := ha.form
  obtain ⟨A', c', rfl, hc', hm'⟩ := hb.form
  go_enter Try.func48, Try.ntmps48
  go_wp2
  go_loopw [5] (fun i wr => ∃ k : Nat, k ≤ l.length ∧ i = .int .i64 k ∧ Kp w wr) (fun i _ => l.length - (intOf i).toNat)
  case atStart => exact ⟨0, Nat.zero_le _, rfl, Kp.refl _⟩
  case round =>
    obtain ⟨k, hk, rfl, hbel⟩ := hrel
    by_cases hlt : k < l.length
    · obtain ⟨q, o, rfl, hq, h1⟩ := (ha.keep (pl_stable _) hbel).ints hlt
      obtain ⟨q', o', rfl, hq', h2⟩ := (hb.keep (pl_stable _) hbel).ints hlt
      generalize l[k] = x at *
      have q1 : (0 : Int) ≤ k := by omega
      have q2 : (k : Int) < l.length := by omega
      go_wp2
      go_quiet (fail)
      go_wp2
      go_roundw
      case rel => exact ⟨k + 1, by omega, by go_num, hbel.drewN _⟩
      case measure => simp [intOf]; omega
    · go_wp2
      go_ret
      exact ⟨rfl, hbel⟩
theorem sameB_refl (b : List Rng) : (decide (b.length = b.length) && sameB b b) = true := by
  rw [decide_eq_true rfl, (sameB_iff b b rfl).2 rfl]; rfl
end Go.Proofs.Ytlbhidiliogflaa
namespace Go.Proofs.Ytlbhidiliogflaa
set_option linter.unusedSimpArgs false
set_option linter.unusedVariables false
open Go.RowKit

section
variable {α : Type} {R : Rd α} {e size : Nat} {S S' : Nat → Prop} {w w' : World} {v v' : Value} {css : List (Elm size)} {xs : List α}
theorem NL.snoc2 (h : NL R e size S w v css xs) {c : Elm size} {x : α} (own' : Own encC e size 0 w' v' (css ++ [c])) (hg : w.grownBy w' v.ownBlock) (hat : v'.ownBlock = v.ownBlock ∨ v'.ownBlock = some w.heap.size) (T : Nat → Prop)
    (hT : ∀ i, T i → S' i ∧ v.ownBlock ≠ some i ∧ i < w.heap.size) (ho : OwS T w fun w2 => R w2 c.val x) (hS : ∀ i, S i → S' i) (hn : w.heap.size < w'.heap.size → S' w.heap.size) : NL R e size S' w' v' (css ++ [c]) (xs ++ [x]) := by
  have hlen := h.len
  have hgb : ∀ i, v.ownBlock ≠ some i → i < w.heap.size → w'.heap[i]? = w.heap[i]? := fun i hi hlt => hg.block i hlt (fun e => hi e.symm)
  have hne : ∀ i, v.ownBlock ≠ some i → i < w.heap.size → v'.ownBlock ≠ some i := fun i hi hlt e => by
    rcases hat with h1 | h1
    · exact hi (h1 ▸ e)
    · rw [h1] at e
      injection e with e
      omega
  refine ⟨own', by simp [h.len], fun q hq => ?_, fun k h1 h2 => ?_⟩
  · rcases hat with h1 | h1
    · exact hS q (h.blk q (h1 ▸ hq))
    · have h2 := own'.blk_lt q hq
      rw [h1] at hq
      injection hq with hq
      exact hq ▸ hn (by omega)
  · by_cases hk : k < css.length
    · rw [List.getElem_append_left hk, List.getElem_append_left (by omega)]
      obtain ⟨T', hT', ho'⟩ := h.els k hk (by omega)
      exact ⟨T', fun i hi => ⟨hS i (hT' i hi).1, hne i (hT' i hi).2.1 (hT' i hi).2.2, Nat.lt_of_lt_of_le (hT' i hi).2.2 hg.size⟩, ho'.step hg.size fun i hi hlt => hgb i (hT' i hi).2.1 hlt⟩
    · have e1 : k = css.length := by simp at h1; omega
      subst e1
      have e2 : (css ++ [c])[css.length] = c := by simp
      have e3 : (xs ++ [x])[css.length]'h2 = x := by simp [hlen]
      rw [e2, e3]
      exact ⟨T, fun i hi => ⟨(hT i hi).1, hne i (hT i hi).2.1 (hT i hi).2.2, Nat.lt_of_lt_of_le (hT i hi).2.2 hg.size⟩, ho.step hg.size fun i hi hlt => hgb i (hT i hi).2.1 hlt⟩
end
/-- the blocks with tag t are as they were, and keep the tag -/
def Kt (τ τ' : Nat → Nat) (w w' : World) (t : Nat) : Prop := ∀ q, τ q = t → w'.heap[q]? = w.heap[q]? ∧ τ' q = t
theorem NL.kt {α : Type} {R : Rd α} {e size t : Nat} {τ τ' : Nat → Nat} {w w' : World} {v : Value} {css : List (Elm size)} {xs : List α} (h : NL R e size (fun q => τ q = t) w v css xs) (hk : Kt τ τ' w w' t) (hs : w.heap.size ≤ w'.heap.size) : NL R e size (fun q => τ' q = t) w' v css xs :=
  (h.step hs fun q hq _ => (hk q hq).1).mono fun q hq => (hk q hq).2
structure P1 (τ : Nat → Nat) (w : World) (v : Value) (box : List Rng) : Prop where
  o : Own encRng 40 2 0 w v box
  t : ∀ q, v.ownBlock = some q → τ q = 1
theorem P1.kt {τ τ' : Nat → Nat} {w w' : World} {v : Value} {l : List Rng} (h : P1 τ w v l) (hk : Kt τ τ' w w' 1) (hs : w.heap.size ≤ w'.heap.size) : P1 τ' w' v l :=
  ⟨h.o.owS _ hs fun q hq _ => (hk q (h.t q hq)).1, fun q hq => (hk q (h.t q hq)).2⟩
structure P4 (τ : Nat → Nat) (w : World) (v : Value) (vs : List (Elm 1)) (l : List (List Row)) : Prop where
  o : Own encC 23 1 0 w v vs
  t : ∀ q, v.ownBlock = some q → τ q = 4
  len : vs.length = l.length
  n : ∀ j (h1 : j < vs.length) (h2 : j < l.length), ∃ u css, vs[j].val = [u] ∧ NL rdRow 76 2 (fun q => τ q = 5 + j) w u css l[j]
theorem P4.kt {τ τ' : Nat → Nat} {w w' : World} {v : Value} {vs : List (Elm 1)} {l : List (List Row)} (h : P4 τ w v vs l) (hk : ∀ t, 4 ≤ t → Kt τ τ' w w' t) (hs : w.heap.size ≤ w'.heap.size) : P4 τ' w' v vs l :=
  ⟨h.o.owS _ hs fun q hq _ => (hk 4 (by omega) q (h.t q hq)).1, fun q hq => (hk 4 (by omega) q (h.t q hq)).2, h.len, fun j h1 h2 => by
    obtain ⟨u, c, e, hn⟩ := h.n j h1 h2
    exact ⟨u, c, e, hn.kt (hk (5 + j) (by omega)) hs⟩⟩
/-- a system under way in the block bo -/
structure QC (w0 w : World) (bo : Nat) (τ : Nat → Nat) (vb vr vg vc : Value) (s : Sys) (css : List (Elm 2)) (gcs : List (Elm 3)) (vs : List (Elm 1)) : Prop where
  tags : Tags w0.heap.size w τ
  bo0 : τ bo = 0
  lo : w0.heap.size ≤ bo
  lt : bo < w.heap.size
  kp : Kp w0 w
  box : Bx w bo [vb, vr, vg, vc]
  p1 : P1 τ w vb s.box
  p2 : NL rdRow 76 2 (fun q => τ q = 2) w vr css s.rows
  p3 : NL rdGr 90 3 (fun q => τ q = 3) w vg gcs s.graphs
  p4 : P4 τ w vc vs s.cases
section
variable {w0 wx wy w4 : World} {bo : Nat} {τ : Nat → Nat} {s : Sys} {vb vr vg vc v4 : Value} {css : List (Elm 2)} {gcs : List (Elm 3)} {vs : List (Elm 1)}
theorem QC.next (h : QC w0 wx bo τ vb vr vg vc s css gcs vs) (hk : Kp wx wy) (t : Nat) : QC w0 wy bo (tagN τ wx.heap.size t wy.heap.size) vb vr vg vc s css gcs vs := by
  have hK : ∀ u, u ≠ 0 → Kt τ (tagN τ wx.heap.size t wy.heap.size) wx wy u := fun u hu q hq => ⟨hk.block (h.tags q (by omega)).2, tagN_old h.tags t _ hu hq⟩
  have hl := h.lt
  refine ⟨h.tags.ext t hk.size h.kp.size, ?_, h.lo, Nat.lt_of_lt_of_le h.lt hk.size, h.kp.trans hk, h.box.kp hk h.lt, h.p1.kt (hK 1 (by omega)) hk.size, h.p2.kt (hK 2 (by omega)) hk.size, h.p3.kt (hK 3 (by omega)) hk.size, h.p4.kt (fun u hu => hK u (by omega)) hk.size⟩
  unfold tagN
  rw [if_neg (by omega)]
  exact h.bo0
/-- what an append to the part with tag t, and its store, keep -/
theorem QC.app (h : QC w0 wx bo τ vb vr vg vc s css gcs vs) {v : Value} {t j : Nat} (hv : ∀ q, v.ownBlock = some q → τ q = t) (ht : t ≠ 0) (hg : wx.grownBy w4 v.ownBlock) (u : Value) :
    (∀ x, x ≠ 0 → x ≠ t → Kt τ (tagN τ wx.heap.size t w4.heap.size) wx (w4.setCell ⟨bo, j, none⟩ u) x) ∧ wx.heap.size ≤ (w4.setCell ⟨bo, j, none⟩ u).heap.size ∧ Tags w0.heap.size (w4.setCell ⟨bo, j, none⟩ u) (tagN τ wx.heap.size t w4.heap.size) ∧
      tagN τ wx.heap.size t w4.heap.size bo = 0 ∧ bo < (w4.setCell ⟨bo, j, none⟩ u).heap.size ∧ Kp w0 (w4.setCell ⟨bo, j, none⟩ u) ∧ Bx w4 bo [vb, vr, vg, vc] ∧ Kg w4 (w4.setCell ⟨bo, j, none⟩ u) bo := by
  have hb0 := h.bo0
  have hlt := h.lt
  have hgs := hg.size
  have hsz : (w4.setCell ⟨bo, j, none⟩ u).heap.size = w4.heap.size := set_size _ _ _
  have hkg : Kg w4 (w4.setCell ⟨bo, j, none⟩ u) bo := (Kg.refl _ _).set (.inl rfl) _
  refine ⟨fun x hx hxt q hq => ⟨?_, tagN_old h.tags t _ hx hq⟩, by omega, (h.tags.ext t hgs h.kp.size).grow (Nat.le_of_eq hsz.symm), ?_, by omega, ?_, h.box.grown hg (fun e => ht (by rw [← hv bo e, hb0])) hlt, hkg⟩
  · exact (set_block w4 ⟨bo, j, none⟩ u q (fun e => hx (by rw [← hq, e, hb0]))).trans (hg.block q (h.tags q (by omega)).2 (fun e => hxt (by rw [← hq, hv q e.symm])))
  · unfold tagN
    rw [if_neg (by omega)]
    exact hb0
  · exact Kg.to_kp (h.kp.grown hg fun q hq => (h.tags q (by rw [hv q hq]; exact ht)).1) hkg h.lo
theorem tag_new {z z' t : Nat} (h : z < z') : tagN τ z t z' z = t := tagN_new (Nat.le_refl _) h
/-- a row is appended -/
theorem QC.row (h : QC w0 wx bo τ vb vr vg vc s css gcs vs) {c : Elm 2} {r : Row} (T : Nat → Prop) (hT : ∀ i, T i → τ i = 2 ∧ vr.ownBlock ≠ some i) (ho : OwS T wx fun w2 => rdRow w2 c.val r)
    (own' : Own encC 76 2 0 w4 v4 (css ++ [c])) (hg : wx.grownBy w4 vr.ownBlock) (hat : v4.ownBlock = vr.ownBlock ∨ v4.ownBlock = some wx.heap.size) :
    QC w0 (w4.setCell ⟨bo, 1, none⟩ v4) bo (tagN τ wx.heap.size 2 w4.heap.size) vb v4 vg vc { s with rows := s.rows ++ [r] } (css ++ [c]) gcs vs := by
  obtain ⟨hK, a1, a2, a3, a4, a5, a6, a7⟩ := h.app (j := 1) h.p2.blk (by omega) hg v4
  have hbs := a6.set (j := 1) (by simp) v4
  simp only [List.set_cons_zero, List.set_cons_succ] at hbs
  have n2 := h.p2.snoc2 (S' := fun q => tagN τ wx.heap.size 2 w4.heap.size q = 2) own' hg hat T (fun i hi => ⟨tagN_old h.tags 2 _ (by omega) (hT i hi).1, (hT i hi).2, (h.tags i (by rw [(hT i hi).1]; omega)).2⟩) ho (fun i hi => tagN_old h.tags 2 _ (by omega) hi) tag_new
  exact ⟨a2, a3, h.lo, a4, a5, hbs, h.p1.kt (hK 1 (by omega) (by omega)) a1, n2.kg a7 (by omega), h.p3.kt (hK 3 (by omega) (by omega)) a1, h.p4.kt (fun u hu => hK u (by omega) (by omega)) a1⟩
/-- a graph is appended -/
theorem QC.graph (h : QC w0 wx bo τ vb vr vg vc s css gcs vs) {c : Elm 3} {g : Gr} (T : Nat → Prop) (hT : ∀ i, T i → τ i = 3 ∧ vg.ownBlock ≠ some i) (ho : OwS T wx fun w2 => rdGr w2 c.val g)
    (own' : Own encC 90 3 0 w4 v4 (gcs ++ [c])) (hg : wx.grownBy w4 vg.ownBlock) (hat : v4.ownBlock = vg.ownBlock ∨ v4.ownBlock = some wx.heap.size) :
    QC w0 (w4.setCell ⟨bo, 2, none⟩ v4) bo (tagN τ wx.heap.size 3 w4.heap.size) vb vr v4 vc { s with graphs := s.graphs ++ [g] } css (gcs ++ [c]) vs := by
  obtain ⟨hK, a1, a2, a3, a4, a5, a6, a7⟩ := h.app (j := 2) h.p3.blk (by omega) hg v4
  have hbs := a6.set (j := 2) (by simp) v4
  simp only [List.set_cons_zero, List.set_cons_succ] at hbs
  have n2 := h.p3.snoc2 (S' := fun q => tagN τ wx.heap.size 3 w4.heap.size q = 3) own' hg hat T (fun i hi => ⟨tagN_old h.tags 3 _ (by omega) (hT i hi).1, (hT i hi).2, (h.tags i (by rw [(hT i hi).1]; omega)).2⟩) ho (fun i hi => tagN_old h.tags 3 _ (by omega) hi) tag_new
  exact ⟨a2, a3, h.lo, a4, a5, hbs, h.p1.kt (hK 1 (by omega) (by omega)) a1, h.p2.kt (hK 2 (by omega) (by omega)) a1, n2.kg a7 (by omega), h.p4.kt (fun u hu => hK u (by omega) (by omega)) a1⟩
/-- a case is appended -/
theorem QC.case (h : QC w0 wx bo τ vb vr vg vc s css gcs vs) {c : Elm 1} {l : List Row} {u : Value} {cssx : List (Elm 2)} (hc : c.val = [u]) (nl : NL rdRow 76 2 (fun q => τ q = 5 + s.cases.length) wx u cssx l)
    (own' : Own encC 23 1 0 w4 v4 (vs ++ [c])) (hg : wx.grownBy w4 vc.ownBlock) (hat : v4.ownBlock = vc.ownBlock ∨ v4.ownBlock = some wx.heap.size) :
    QC w0 (w4.setCell ⟨bo, 3, none⟩ v4) bo (tagN τ wx.heap.size 4 w4.heap.size) vb vr vg v4 { s with cases := s.cases ++ [l] } css gcs (vs ++ [c]) := by
  obtain ⟨hK, a1, a2, a3, a4, a5, a6, a7⟩ := h.app (j := 3) h.p4.t (by omega) hg v4
  have hbs := a6.set (j := 3) (by simp) v4
  simp only [List.set_cons_zero, List.set_cons_succ] at hbs
  have hl := h.p4.len
  have ht : ∀ q, v4.ownBlock = some q → tagN τ wx.heap.size 4 w4.heap.size q = 4 := fun q hq => by
    rcases hat with e | e
    · exact tagN_old h.tags 4 _ (by omega) (h.p4.t q (e ▸ hq))
    · have h2 := own'.blk_lt q hq
      rw [e] at hq
      injection hq with hq
      exact hq ▸ tag_new (by omega)
  refine ⟨a2, a3, h.lo, a4, a5, hbs, h.p1.kt (hK 1 (by omega) (by omega)) a1, h.p2.kt (hK 2 (by omega) (by omega)) a1, h.p3.kt (hK 3 (by omega) (by omega)) a1, ⟨?_, ht, by simp [hl], fun j h1 h2 => ?_⟩⟩
  · exact own'.owS _ a7.size fun q hq hlt => a7.block q hlt fun e => by
      have e' := Option.some.inj e
      have := ht q hq
      rw [e', a3] at this
      omega
  · by_cases hj : j < vs.length
    · rw [List.getElem_append_left hj, List.getElem_append_left (by omega)]
      obtain ⟨x, cx, e, hn⟩ := h.p4.n j hj (by omega)
      exact ⟨x, cx, e, hn.kt (hK (5 + j) (by omega) (by omega)) a1⟩
    · have e1 : j = vs.length := by simp at h1; omega
      have e2 : (vs ++ [c])[j]'h1 = c := by subst e1; simp
      have e3 : (s.cases ++ [l])[j]'h2 = l := by rw [hl] at e1; subst e1; simp
      rw [e2, e3]
      have e4 : s.cases.length = j := by omega
      rw [e4] at nl
      exact ⟨u, cssx, hc, nl.kt (hK (5 + j) (by omega) (by omega)) a1⟩
/-- the system is done; a block without a tag may change -/
theorem QC.fin {g : Nat} (h : QC w0 wx bo τ vb vr vg vc s css gcs vs) (hx : Kg wx wy g) (hg : τ g = 0) : SysO τ wy vb vr vg vc s := by
  have hK : ∀ u, u ≠ 0 → Kt τ τ wx wy u := fun u hu q hq => ⟨hx.block q (h.tags q (by omega)).2 fun e => hu (by rw [← hq, Option.some.inj e, hg]), hq⟩
  have q1 := h.p1.kt (hK 1 (by omega)) hx.size
  have q4 := h.p4.kt (fun u hu => hK u (by omega)) hx.size
  exact ⟨q1.o, q1.t, ⟨css, h.p2.kt (hK 2 (by omega)) hx.size⟩, ((h.p3.kt (hK 3 (by omega)) hx.size).owS).imp fun w' hw => hw.sl, vs, q4.o, q4.len, q4.t, q4.n⟩
end
end Go.Proofs.Ytlbhidiliogflaa
namespace Go.Proofs.Ytlbhidiliogflaa
set_option linter.unusedSimpArgs false
set_option linter.unusedVariables false
open Go.RowKit

theorem withL_none (b : List Rng) (r : Rng) : withL b (-1) r = b := by unfold withL; rw [if_neg (by omega)]
/-- the graphs are copied up to kg -/
def qcG (s : Sys) (k : Nat) : Sys := ⟨s.box, [], s.graphs.take k, []⟩
def qcR (s : Sys) (k : Nat) : Sys := ⟨s.box, s.rows.take k, s.graphs, []⟩
def qcC (s : Sys) (k : Nat) : Sys := ⟨s.box, s.rows, s.graphs, s.cases.take k⟩
set_option maxRecDepth 8000 in
set_option maxHeartbeats 16000000 in
theorem qCopySystem_any (va : Value) (s : Sys) (w : World) (hs : SysV w va s) (hz : SizeS s) :
    Calls Try.prog 47 #[va] w fun e w' => ∃ vb vr vg vc τ, e = .returned (.agg #[vb, vr, vg, vc]) ∧ Tags w.heap.size w' τ ∧ SysO τ w' vb vr vg vc s ∧ Kp w w' := by
  have hz1 := hz.box
  have hz2 := hz.rows
  have hz3 := hz.graphs
  have hz4 := hz.cases
  have HL := hid hz.least
  have HT := hid hz.terms
  have HC := hid hz.case
  clear hz
  have hs' := hs
  obtain ⟨Ab, cb, Ar, cr, Ag, cg, Ac, cc, rfl, hb, hr, hg, hc⟩ := hs'
  obtain ⟨l1, m1⟩ := hb.caps
  obtain ⟨l2, m2⟩ := hr.caps
  obtain ⟨l3, m3⟩ := hg.caps
  obtain ⟨l4, m4⟩ := hc.caps
  have k0 := ((Kp.refl w).alloc (.cells #[.slice Ab s.box.length cb, .slice Ar s.rows.length cr, .slice Ag s.graphs.length cg, .slice Ac s.cases.length cc] 27)).alloc (.cells #[.slice none 0 0, .slice none 0 0, .slice none 0 0, .slice none 0 0] 27)
  have B0 := (SysB.new w #[.slice Ab s.box.length cb, .slice Ar s.rows.length cr, .slice Ag s.graphs.length cg, .slice Ac s.cases.length cc] 27).keep ((Kp.refl _).alloc (.cells #[.slice none 0 0, .slice none 0 0, .slice none 0 0, .slice none 0 0] 27))
  have hR := Bx.new (w.alloc (.cells #[.slice Ab s.box.length cb, .slice Ar s.rows.length cr, .slice Ag s.graphs.length cg, .slice Ac s.cases.length cc] 27)) #[.slice none 0 0, .slice none 0 0, .slice none 0 0, .slice none 0 0] 27
  rw [World.size_alloc] at hR
  have hzw : ((w.alloc (.cells #[.slice Ab s.box.length cb, .slice Ar s.rows.length cr, .slice Ag s.graphs.length cg, .slice Ac s.cases.length cc] 27)).alloc (.cells #[.slice none 0 0, .slice none 0 0, .slice none 0 0, .slice none 0 0] 27)).heap.size = w.heap.size + 2 := by simp
  go_enter Try.func47, Try.ntmps47
  go_wp2_with fail
  generalize (w.alloc (.cells #[.slice Ab s.box.length cb, .slice Ar s.rows.length cr, .slice Ag s.graphs.length cg, .slice Ac s.cases.length cc] 27)).alloc (.cells #[.slice none 0 0, .slice none 0 0, .slice none 0 0, .slice none 0 0] 27) = w0 at *
  generalize hbw : w.heap.size = b at *
  replace hbw := hid hbw
  refine (rWith_any _ s.box (-1) 0 0 _ (hb.keep (pl_stable _) k0) (by omega)).mono ?_
  rintro e w1 ⟨v1, rfl, own1, k1⟩
  rw [withL_none] at own1
  obtain ⟨AB, dB, rfl, hd1, hd2⟩ := own1.form
  have zlo := own1.ge
  have zhi := own1.blk_lt
  have hBs := Bx.new w1 #[.slice AB s.box.length dB, .slice none 0 0, .slice none 0 0, .slice none 0 0] 27
  have kz := (Kp.refl w1).alloc (.cells #[.slice AB s.box.length dB, .slice none 0 0, .slice none 0 0, .slice none 0 0] 27)
  have zz := alloc_lt w1 (.cells #[.slice AB s.box.length dB, .slice none 0 0, .slice none 0 0, .slice none 0 0] 27)
  have z1 := k1.size
  have hQ0 : QC w0 (w1.alloc (.cells #[.slice AB s.box.length dB, .slice none 0 0, .slice none 0 0, .slice none 0 0] 27)) w1.heap.size (fun q => if (Value.slice AB s.box.length dB).ownBlock = some q then 1 else 0) (.slice AB s.box.length dB) (.slice none 0 0) (.slice none 0 0) (.slice none 0 0) (qcG s 0) [] [] [] := by
    refine ⟨fun q hq => ?_, ?_, by omega, zz, k1.trans kz, hBs, ⟨(own1.kp kz).less (Nat.zero_le _), fun q hq => if_pos hq⟩, NL.nil _ _ _ _ _, NL.nil _ _ _ _ _, ⟨Own.nil _ _ _ _ _, fun q hq => by simp [Value.ownBlock] at hq, rfl, fun j h1 _ => absurd h1 (by simp)⟩⟩
    · split at hq
      · rename_i h
        have := zlo q h
        have := zhi q h
        exact ⟨by omega, by omega⟩
      · exact absurd rfl hq
    · rw [if_neg (fun h => by have := zhi _ h; omega)]
  replace hQ0 := hid hQ0
  clear own1 zlo zhi hBs kz k1
  go_wp2
  generalize w1.alloc (.cells #[.slice AB s.box.length dB, .slice none 0 0, .slice none 0 0, .slice none 0 0] 27) = w2 at *
  generalize w1.heap.size = bs at *
  go_loopw [4] (fun i wr => ∃ (k : Nat) (τ : Nat → Nat) (A : Option Addr) (c : Nat) (gcs : List (Elm 3)), k ≤ s.graphs.length ∧ i = .int .i64 k ∧ QC w0 wr bs τ (.slice AB s.box.length dB) (.slice none 0 0) (.slice A k c) (.slice none 0 0) (qcG s k) [] gcs []) (fun i _ => s.graphs.length - (intOf i).toNat)
  case atStart => exact ⟨0, _, none, 0, [], Nat.zero_le _, rfl, hQ0.out⟩
  case round =>
    clear hQ0
    obtain ⟨k, τ, A3, c3, gcs, hk, rfl, hQ⟩ := hrel
    have kk := k0.trans hQ.kp
    have B1 := B0.keep hQ.kp
    obtain ⟨c0, c1, c2, c3'⟩ := B1.cells
    have hgl := block_lt_of_cell c0
    clear B1
    by_cases hlt : k < s.graphs.length
    · obtain ⟨q, o, A', c', rfl, hq, h1, h2, h3, h4⟩ := (hg.keep rdGr_stable kk).gr hlt
      have hle := HL.out _ (List.getElem_mem hlt)
      have HTk := hid (List.take_succ_eq_append_getElem hlt)
      generalize s.graphs[k] = g at *
      obtain ⟨fi, sz, le⟩ := g
      dsimp only at h1 h2 h3 h4 hle
      obtain ⟨y1, y2⟩ := h4.caps
      have q1 : (0 : Int) ≤ k := by omega
      have q2 : (k : Int) < s.graphs.length := by omega
      have hqs := hQ.kp.size
      obtain ⟨wx, rfl⟩ : ∃ x : World, x = wr := ⟨_, rfl⟩
      clear c1 c3'
      go_wp2
      have hSf : ∀ W, Kp wx W → (W.cell? ⟨b, 2, none⟩ = some (.slice (some ⟨q, o, none⟩) s.graphs.length cg) ∧ W.cell? ⟨q, o + k * 3, none⟩ = some (.int .i64 fi) ∧ W.cell? ⟨q, o + k * 3 + 1, none⟩ = some (.int .i64 sz) ∧ Kp wx W) := fun W hk => ⟨hk.cellS c2, hk.cellS h1, hk.cellS h2, hk⟩
      refine wp_region_held_drew (S := fun W => W.cell? ⟨b, 2, none⟩ = some (.slice (some ⟨q, o, none⟩) s.graphs.length cg) ∧ W.cell? ⟨q, o + k * 3, none⟩ = some (.int .i64 fi) ∧ W.cell? ⟨q, o + k * 3 + 1, none⟩ = some (.int .i64 sz) ∧ Kp wx W) (by kernel_rfl) (hSf _ (Kp.refl _).drew) (fun hHeld => ?_)
      have kd := (Kp.refl wx).drew
      generalize wx.drew = wd at *
      refine take_at 0 23 (v := ?_) rfl rfl (by kernel_rfl) (by kernel_rfl) (by kernel_rfl) (fun _ _ _ h => h) hHeld (Or.inl ⟨by kernel_rfl, ?_⟩) ?_
      rotate_left
      · intro w hSw; (try dsimp only at hSw); go_simp; try with_reducible rfl
      simp only [Act.put, List.setIfInBounds_toArray, List.set_cons_zero, List.set_cons_succ]
      refine take_at 1 24 (v := ?_) rfl rfl (by kernel_rfl) (by kernel_rfl) (by kernel_rfl) (fun _ _ _ h => h) hHeld (Or.inl ⟨by kernel_rfl, ?_⟩) ?_
      rotate_left
      · intro w hSw; (try dsimp only at hSw); go_simp; try with_reducible rfl
      simp only [Act.put, List.setIfInBounds_toArray, List.set_cons_zero, List.set_cons_succ]
      refine take_at 2 25 (v := ?_) rfl rfl (by kernel_rfl) (by kernel_rfl) (by kernel_rfl) (fun _ _ _ h => h) hHeld (Or.inl ⟨by kernel_rfl, ?_⟩) ?_
      rotate_left
      · intro w hSw; (try dsimp only at hSw); go_simp; try with_reducible rfl
      simp only [Act.put, List.setIfInBounds_toArray, List.set_cons_zero, List.set_cons_succ]
      refine take_at 3 26 (v := ?_) rfl rfl (by kernel_rfl) (by kernel_rfl) (by kernel_rfl) (fun _ _ _ h => h) hHeld (Or.inl ⟨by kernel_rfl, ?_⟩) ?_
      rotate_left
      · intro w hSw; (try dsimp only at hSw); go_simp; try with_reducible rfl
      simp only [Act.put, List.setIfInBounds_toArray, List.set_cons_zero, List.set_cons_succ]
      refine take_at 4 27 (v := ?_) rfl rfl (by kernel_rfl) (by kernel_rfl) (by kernel_rfl) (fun _ _ _ h => h) hHeld (Or.inl ⟨by kernel_rfl, ?_⟩) ?_
      rotate_left
      · intro w hSw; (try dsimp only at hSw); go_simp; try with_reducible rfl
      simp only [Act.put, List.setIfInBounds_toArray, List.set_cons_zero, List.set_cons_succ]
      refine take_at 5 28 (v := ?_) rfl rfl (by kernel_rfl) (by kernel_rfl) (by kernel_rfl) (fun _ _ _ h => h) hHeld (Or.inl ⟨by kernel_rfl, ?_⟩) ?_
      rotate_left
      · intro w hSw; (try dsimp only at hSw); go_simp; try with_reducible rfl
      simp only [Act.put, List.setIfInBounds_toArray, List.set_cons_zero, List.set_cons_succ]
      refine take_at 6 29 (v := ?_) rfl rfl (by kernel_rfl) (by kernel_rfl) (by kernel_rfl) (fun _ _ _ h => h) hHeld (Or.inl ⟨by kernel_rfl, ?_⟩) ?_
      rotate_left
      · intro w hSw; (try dsimp only at hSw); go_simp; try with_reducible rfl
      simp only [Act.put, List.setIfInBounds_toArray, List.set_cons_zero, List.set_cons_succ]
      refine take_at 7 30 (v := ?_) rfl rfl (by kernel_rfl) (by kernel_rfl) (by kernel_rfl) (fun _ _ _ h => h) hHeld (Or.inl ⟨by kernel_rfl, ?_⟩) ?_
      rotate_left
      · intro w hSw; (try dsimp only at hSw); go_simp; try with_reducible rfl
      simp only [Act.put, List.setIfInBounds_toArray, List.set_cons_zero, List.set_cons_succ]
      refine take_at 8 31 (v := ?_) rfl rfl (by kernel_rfl) (by kernel_rfl) (by kernel_rfl) (fun _ _ _ h => h) hHeld (Or.inl ⟨by kernel_rfl, ?_⟩) ?_
      rotate_left
      · intro w hSw; (try dsimp only at hSw); go_simp; try with_reducible rfl
      simp only [Act.put, List.setIfInBounds_toArray, List.set_cons_zero, List.set_cons_succ]
      refine take_at 9 32 (v := ?_) rfl rfl (by kernel_rfl) (by kernel_rfl) (by kernel_rfl) (fun _ _ _ h => h) hHeld (Or.inl ⟨by kernel_rfl, ?_⟩) ?_
      rotate_left
      · intro w hSw; (try dsimp only at hSw); go_simp; try with_reducible rfl
      simp only [Act.put, List.setIfInBounds_toArray, List.set_cons_zero, List.set_cons_succ]
      refine take_at 10 33 (v := ?_) rfl rfl (by kernel_rfl) (by kernel_rfl) (by kernel_rfl) (fun _ _ _ h => h) hHeld (Or.inl ⟨by kernel_rfl, ?_⟩) ?_
      rotate_left
      · intro w hSw; (try dsimp only at hSw); go_simp; try with_reducible rfl
      simp only [Act.put, List.setIfInBounds_toArray, List.set_cons_zero, List.set_cons_succ]
      refine take_at 11 34 (v := ?_) rfl rfl (by kernel_rfl) (by kernel_rfl) (by kernel_rfl) (fun _ _ _ h => h) hHeld (Or.inl ⟨by kernel_rfl, ?_⟩) ?_
      rotate_left
      · intro w hSw; (try dsimp only at hSw); go_simp; try with_reducible rfl
      simp only [Act.put, List.setIfInBounds_toArray, List.set_cons_zero, List.set_cons_succ]
      refine take_at 12 35 (v := ?_) rfl rfl (by kernel_rfl) (by kernel_rfl) (by kernel_rfl) (fun _ _ _ h => h) hHeld (Or.inl ⟨by kernel_rfl, ?_⟩) ?_
      rotate_left
      · intro w hSw; (try dsimp only at hSw); go_simp; try with_reducible rfl
      simp only [Act.put, List.setIfInBounds_toArray, List.set_cons_zero, List.set_cons_succ]
      refine wpAnyH_ready (rs := [13]) (by kernel_rfl) (by simp) ?_
      refine AllReadyH.cons (o := _) rfl (fun K hK => ?_) AllReadyH.nil
      go_simp
      have kA := (Kp.refl wd).alloc (.cells #[.int .i64 0, .int .i64 0, .slice none 0 0] 90)
      have hBg := Bx.new wd #[.int .i64 0, .int .i64 0, .slice none 0 0] 90
      have hbg := alloc_lt wd (.cells #[.int .i64 0, .int .i64 0, .slice none 0 0] 90)
      have zA := kd.size
      have kA2 := kd.trans kA
      clear kA
      generalize wd.alloc (.cells #[.int .i64 0, .int .i64 0, .slice none 0 0] 90) = we at *
      generalize wd.heap.size = bo at *
      refine hK.out _ _ (hSf _ kA2) (fun hHeld2 => ?_)
      clear hK K hHeld
      have hHeld := hHeld2
      clear hHeld2
      refine wpAnyH_ready (rs := [14]) (by kernel_rfl) (by simp) ?_
      refine AllReadyH.cons (o := _) rfl (fun K hK => ?_) AllReadyH.nil
      have r0 := hBg.cell (j := 0) rfl
      have r1 := hBg.cell (j := 1) rfl
      have r2 := hBg.cell (j := 2) rfl
      have f0 := hBg.free (j := 0) (by simp)
      have f1 := hBg.free (j := 1) (by simp)
      have f2 := hBg.free (j := 2) (by simp)
      go_simp
      have hBz := ((hBg.set (j := 0) (by simp) (.int .i64 fi)).set (j := 1) (by simp) (.int .i64 sz)).set (j := 2) (by simp) (.slice none 0 0)
      simp only [List.set_cons_zero, List.set_cons_succ] at hBz
      have kS := ((kA2.set (p := ⟨bo, 0, none⟩) zA (.int .i64 fi)).set (p := ⟨bo, 1, none⟩) zA (.int .i64 sz)).set (p := ⟨bo, 2, none⟩) zA (.slice none 0 0)
      have hz2 : bo < (((we.setCell ⟨bo, 0, none⟩ (.int .i64 fi)).setCell ⟨bo, 1, none⟩ (.int .i64 sz)).setCell ⟨bo, 2, none⟩ (.slice none 0 0)).heap.size := by rw [set_size, set_size, set_size]; exact hbg
      refine hK.out _ _ (hSf _ kS) (fun hHeld2 => ?_)
      clear hK K hHeld
      have hHeld := hHeld2
      clear hHeld2
      refine wpAnyH_done (by kernel_rfl) ?_ _
      clear hHeld hSf r0 r1 r2 f0 f1 f2 hBg hbg kA2
      generalize ((we.setCell ⟨bo, 0, none⟩ (.int .i64 fi)).setCell ⟨bo, 1, none⟩ (.int .i64 sz)).setCell ⟨bo, 2, none⟩ (.slice none 0 0) = wz at *
      have x2 := kS.cellS c2
      have x3 := kS.cellS h3
      clear h1 h2 h3
      go_wp2
      go_loopw [6] (fun i wr => ∃ (j : Nat) (L : List Int) (v : Value), j ≤ le.length ∧ i = .int .i64 j ∧ L.length ≤ j ∧ Bx wr bo [.int .i64 fi, .int .i64 sz, v] ∧ Own encInt 3 1 wz.heap.size wr v L ∧ Hid (L = le.take j) ∧ Kg wz wr bo) (fun i _ => le.length - (intOf i).toNat)
      case atStart => exact ⟨0, [], _, Nat.zero_le _, rfl, Nat.le_refl _, hBz, Own.nil _ _ _ _ _, hid (by simp), Kg.refl _ _⟩
      case round =>
        clear hBz
        obtain ⟨j, L, v, hj, rfl, hLk, hBA, ownA, HLi, hKA⟩ := hrel
        obtain ⟨A1, c1', rfl, hc1, hm1⟩ := ownA.form
        have kxr : Kp wx wr := Kg.to_kp kS hKA zA
        have hsz := hKA.size
        have hbolA : bo < wr.heap.size := by omega
        have d2 := kxr.cellS c2
        have d3 := hKA.cellS x3 (by show q ≠ bo; omega)
        have hgl0 := block_lt_of_cell d2
        have hgl3 := block_lt_of_cell d3
        by_cases hjl : j < le.length
        · obtain ⟨p, o2, rfl, hp, hx⟩ := (h4.keep (pl_stable _) kxr).ints hjl
          have hpb := block_lt_of_cell hx
          have HTi := hid (List.take_succ_eq_append_getElem hjl)
          have hqp : p ≠ bo ∧ (Value.slice A1 L.length c1').ownBlock ≠ some p ∧ q ≠ bo ∧ (Value.slice A1 L.length c1').ownBlock ≠ some q ∧ (Value.slice A1 L.length c1').ownBlock ≠ some b := by
            obtain ⟨p2, o3, hA, hp2, hp3⟩ := h4.ints hjl
            injection hA with hA
            injection hA with e1 e2 _
            subst e1
            exact ⟨by omega, fun e => by have := ownA.ge p e; omega, by omega, fun e => by have := ownA.ge q e; omega, fun e => by have := ownA.ge b e; omega⟩
          have HN2 : Hid (L ++ [le[j]] = le.take (j + 1)) := hid (by rw [HTi.out, HLi.out])
          generalize le[j] = x at *
          have q3 : (0 : Int) ≤ j := by omega
          have q4 : (j : Int) < le.length := by omega
          clear c2 x2 x3
          go_wp2
          obtain ⟨wA, rfl⟩ : ∃ x : World, x = wr := ⟨_, rfl⟩
          have hSf : ∀ W : World, Bx W bo [.int .i64 fi, .int .i64 sz, .slice A1 L.length c1'] → wA.grownBy W (Value.slice A1 L.length c1').ownBlock → (W.cell? ⟨bo, 2, none⟩ = some (.slice A1 L.length c1') ∧ W.frozen? ⟨bo, 2, none⟩ = false ∧ W.cell? ⟨b, 2, none⟩ = some (.slice (some ⟨q, o, none⟩) s.graphs.length cg) ∧ W.cell? ⟨q, o + k * 3 + 2, none⟩ = some (.slice (some ⟨p, o2, none⟩) le.length c') ∧ W.cell? ⟨p, o2 + j, none⟩ = some (.int .i64 x)) := fun W h g => ⟨h.cell (j := 2) rfl, h.free (j := 2) (by simp), (World.cell?_of_block (g.block b hgl0 (fun e => hqp.2.2.2.2 e.symm))).trans d2, (World.cell?_of_block (g.block q hgl3 (fun e => hqp.2.2.2.1 e.symm))).trans d3, (World.cell?_of_block (g.block p hpb (fun e => hqp.2.1 e.symm))).trans hx⟩
          refine beginT 14 (S := fun W => W.cell? ⟨bo, 2, none⟩ = some (.slice A1 L.length c1') ∧ W.frozen? ⟨bo, 2, none⟩ = false ∧ W.cell? ⟨b, 2, none⟩ = some (.slice (some ⟨q, o, none⟩) s.graphs.length cg) ∧ W.cell? ⟨q, o + k * 3 + 2, none⟩ = some (.slice (some ⟨p, o2, none⟩) le.length c') ∧ W.cell? ⟨p, o2 + j, none⟩ = some (.int .i64 x)) (by kernel_rfl) (hSf _ (hBA.keep rfl) ((Kp.refl _).drew.gb _)) (fun hHeld => ?_)
          refine take_atT 0 47 (v := ?_) rfl rfl (by kernel_rfl) (by kernel_rfl) (by kernel_rfl) (by kernel_rfl) (by kernel_rfl) (fun _ _ _ h => h) hHeld (Or.inl ⟨by kernel_rfl, ?_⟩) ?_
          rotate_left
          · intro w hSw; (try dsimp only at hSw); go_simp; try with_reducible rfl
          simp only [Act.put, List.setIfInBounds_toArray, List.set_cons_zero, List.set_cons_succ]
          refine take_atT 1 48 (v := ?_) rfl rfl (by kernel_rfl) (by kernel_rfl) (by kernel_rfl) (by kernel_rfl) (by kernel_rfl) (fun _ _ _ h => h) hHeld (Or.inl ⟨by kernel_rfl, ?_⟩) ?_
          rotate_left
          · intro w hSw; (try dsimp only at hSw); go_simp; try with_reducible rfl
          simp only [Act.put, List.setIfInBounds_toArray, List.set_cons_zero, List.set_cons_succ]
          refine take_atT 2 49 (v := ?_) rfl rfl (by kernel_rfl) (by kernel_rfl) (by kernel_rfl) (by kernel_rfl) (by kernel_rfl) (fun _ _ _ h => h) hHeld (Or.inl ⟨by kernel_rfl, ?_⟩) ?_
          rotate_left
          · intro w hSw; (try dsimp only at hSw); go_simp; try with_reducible rfl
          simp only [Act.put, List.setIfInBounds_toArray, List.set_cons_zero, List.set_cons_succ]
          refine take_atT 3 50 (v := ?_) rfl rfl (by kernel_rfl) (by kernel_rfl) (by kernel_rfl) (by kernel_rfl) (by kernel_rfl) (fun _ _ _ h => h) hHeld (Or.inl ⟨by kernel_rfl, ?_⟩) ?_
          rotate_left
          · intro w hSw; (try dsimp only at hSw); go_simp; try with_reducible rfl
          simp only [Act.put, List.setIfInBounds_toArray, List.set_cons_zero, List.set_cons_succ]
          refine take_atT 4 51 (v := ?_) rfl rfl (by kernel_rfl) (by kernel_rfl) (by kernel_rfl) (by kernel_rfl) (by kernel_rfl) (fun _ _ _ h => h) hHeld (Or.inl ⟨by kernel_rfl, ?_⟩) ?_
          rotate_left
          · intro w hSw; (try dsimp only at hSw); go_simp; try with_reducible rfl
          simp only [Act.put, List.setIfInBounds_toArray, List.set_cons_zero, List.set_cons_succ]
          refine take_atT 5 52 (v := ?_) rfl rfl (by kernel_rfl) (by kernel_rfl) (by kernel_rfl) (by kernel_rfl) (by kernel_rfl) (fun _ _ _ h => h) hHeld (Or.inl ⟨by kernel_rfl, ?_⟩) ?_
          rotate_left
          · intro w hSw; (try dsimp only at hSw); go_simp; try with_reducible rfl
          simp only [Act.put, List.setIfInBounds_toArray, List.set_cons_zero, List.set_cons_succ]
          refine take_atT 6 53 (v := ?_) rfl rfl (by kernel_rfl) (by kernel_rfl) (by kernel_rfl) (by kernel_rfl) (by kernel_rfl) (fun _ _ _ h => h) hHeld (Or.inl ⟨by kernel_rfl, ?_⟩) ?_
          rotate_left
          · intro w hSw; (try dsimp only at hSw); go_simp; try with_reducible rfl
          simp only [Act.put, List.setIfInBounds_toArray, List.set_cons_zero, List.set_cons_succ]
          refine take_atT 7 54 (v := ?_) rfl rfl (by kernel_rfl) (by kernel_rfl) (by kernel_rfl) (by kernel_rfl) (by kernel_rfl) (fun _ _ _ h => h) hHeld (Or.inl ⟨by kernel_rfl, ?_⟩) ?_
          rotate_left
          · intro w hSw; (try dsimp only at hSw); go_simp; try with_reducible rfl
          simp only [Act.put, List.setIfInBounds_toArray, List.set_cons_zero, List.set_cons_succ]
          refine take_atT 8 55 (v := ?_) rfl rfl (by kernel_rfl) (by kernel_rfl) (by kernel_rfl) (by kernel_rfl) (by kernel_rfl) (fun _ _ _ h => h) hHeld (Or.inl ⟨by kernel_rfl, ?_⟩) ?_
          rotate_left
          · intro w hSw; (try dsimp only at hSw); go_simp; try with_reducible rfl
          simp only [Act.put, List.setIfInBounds_toArray, List.set_cons_zero, List.set_cons_succ]
          refine take_atT 9 56 (v := ?_) rfl rfl (by kernel_rfl) (by kernel_rfl) (by kernel_rfl) (by kernel_rfl) (by kernel_rfl) (fun _ _ _ h => h) hHeld (Or.inl ⟨by kernel_rfl, ?_⟩) ?_
          rotate_left
          · intro w hSw; (try dsimp only at hSw); go_simp; try with_reducible rfl
          simp only [Act.put, List.setIfInBounds_toArray, List.set_cons_zero, List.set_cons_succ]
          refine take_atT 10 57 (v := ?_) rfl rfl (by kernel_rfl) (by kernel_rfl) (by kernel_rfl) (by kernel_rfl) (by kernel_rfl) (fun _ _ _ h => h) hHeld (Or.inl ⟨by kernel_rfl, ?_⟩) ?_
          rotate_left
          · intro w hSw; (try dsimp only at hSw); go_simp; try with_reducible rfl
          simp only [Act.put, List.setIfInBounds_toArray, List.set_cons_zero, List.set_cons_succ]
          refine stepT (i := 11) (o := _) (by kernel_rfl) rfl (fun K hK => ?_)
          go_simp
          have kC := ((Kp.refl wA).alloc (.cells #[.int .i64 x] 3)).drew
          have hBC := hBA.kp kC hbolA
          have ownC := ownA.kp kC
          have sC := (srcInt wA x).keep (pl_stable _) ((Kp.refl (wA.alloc (.cells #[.int .i64 x] 3))).drew)
          have hKC := hKA.trans (kC.kg bo)
          have hgC := kC.gb (Value.slice A1 L.length c1').ownBlock
          have zC := kC.size
          have zK := hKC.size
          refine hK.out _ _ (hSf _ hBC hgC) (fun hHeld2 => ?_)
          clear hK K hHeld
          have hHeld := hHeld2
          clear hHeld2
          clear hBA ownA hKA kC
          generalize (wA.alloc (.cells #[.int .i64 x] 3)).drew = wC at *
          refine stepT (i := 12) (o := _) (by kernel_rfl) rfl (fun K hK => ?_)
          refine step_append4 rfl (.tmp 48) (.tmp 58) rfl stIntM encInt_len encInt_one rfl ownC rfl sC (by simp; omega) (by simp; omega) (by omega) ?_
          intro v4 w4 hown4 hgrow4 hat4
          have hob := ownC.ge
          have hBD := hBC.grown hgrow4 (fun e => by have := hob bo e; omega) (by omega)
          have hKD := hKC.grown hgrow4 hob
          have hgD := World.grownBy.trans hgC hgrow4
          refine hK.out _ _ (hSf _ hBD hgD) (fun hHeld2 => ?_)
          clear hK K hHeld
          have hHeld := hHeld2
          clear hHeld2
          refine stepT (i := 13) (o := _) (by kernel_rfl) rfl (fun K hK => ?_)
          go_simp
          refine hK.out _ _ hHeld (fun hHeld2 => ?_)
          clear hK K hHeld
          have hHeld := hHeld2
          clear hHeld2
          have hBE := hBD.set (j := 2) (by simp) v4
          simp only [List.set_cons_zero, List.set_cons_succ] at hBE
          have hKE := hKD.set (p := ⟨bo, 2, none⟩) (.inl rfl) v4
          have hown5 := hown4.kg ((Kg.refl w4 bo).set (p := ⟨bo, 2, none⟩) (.inl rfl) v4) hz2
          obtain ⟨A4, c4, hv4, hc4, hm4⟩ := hown5.form
          clear hBC hBD hown4 hgrow4 hat4 ownC sC hKC hKD hSf hgC hgD hob
          obtain ⟨hc8, hf8, -⟩ := hHeld
          have hlen4 : (L ++ [x]).length ≤ j + 1 := by simp; omega
          generalize L ++ [x] = L4 at *
          subst hv4
          refine lastT (o := _) (by kernel_rfl) rfl (fun K hK => ?_)
          go_simp
          refine hK.out _ _ ?_
          clear hK K
          refine doneT (by kernel_rfl) ?_ _
          go_wp2
          go_roundw
          case rel => exact ⟨j + 1, L4, _, by omega, by go_num, hlen4, hBE, hown5, HN2, hKE⟩
          case measure => simp [intOf]; omega
        · have HE : Hid (L = le) := hid (by rw [HLi.out, List.take_of_length_le (by omega)])
          have hle := HE.out
          subst hle
          have hgk : gcs.length = k := by
            have := hQ.p3.len
            simp [qcG] at this
            omega
          have hgc := hid hgk
          have kD := kxr.trans ((Kp.refl wr).alloc (.cells #[.int .i64 fi, .int .i64 sz, .slice A1 L.length c1'] 90))
          have kD1 := (Kp.refl wr).alloc (.cells #[.int .i64 fi, .int .i64 sz, .slice A1 L.length c1'] 90)
          have hQD := hQ.next kD 3
          have e0 := hBA.cell (j := 0) rfl
          have e1 := hBA.cell (j := 1) rfl
          have e2 := hBA.cell (j := 2) rfl
          have s2 := (hQ.box.kp kxr hQ.lt).cell (j := 2) rfl
          have zbs := block_lt_of_cell s2
          have hvb := hQD.bo0
          have hvt := hQD.p3.blk
          have hbx := hQD.box
          go_wp2_with (at_builtin; refine wpl_append_flat (l := gcs) (m := [(⟨[.int .i64 fi, .int .i64 sz, .slice A1 L.length c1'], rfl, by simp [Value.oneCell']⟩ : Elm 3)]) rfl (.tmp 62) (.tmp 64) rfl stGraphM encC_len encC_one rfl hQD.p3.own rfl (Sl.one (R := Pl encC) wr [.int .i64 fi, .int .i64 sz, .slice A1 L.length c1'] 90 3 _ rfl rfl) (by have := hgc.out; simp; omega) (by have := hgc.out; simp; omega) (Nat.zero_le _) ?_; intro v8 w8 hown8 hgrow8 hat8 hnil8; have hB8 := hbx.grown hgrow8 (fun e => by have := hvt bs e; omega) hQD.lt; have s8 := hB8.cell (j := 2) rfl; have s8f := hB8.free (j := 2) (by simp); obtain ⟨A8, c8, hv8, hc8, hm8⟩ := hown8.form; subst hv8)
          have hG := hQD.graph (g := ⟨fi, sz, L⟩) (fun i => (Value.slice A1 L.length c1').ownBlock = some i) (fun i hi => ⟨?_, ?_⟩) ((ownA.kp kD1).owS.imp fun w' ho => ⟨.slice A1 L.length c1', rfl, ho.sl encInt_len⟩) hown8 hgrow8 hat8
          · have e8 : (gcs ++ [(⟨[.int .i64 fi, .int .i64 sz, .slice A1 L.length c1'], rfl, by simp [Value.oneCell']⟩ : Elm 3)]).length = k + 1 := by simp [hgc.out]
            have eG : ({ qcG s k with graphs := (qcG s k).graphs ++ [⟨fi, sz, L⟩] } : Sys) = qcG s (k + 1) := by
              unfold qcG
              dsimp only
              rw [HTk.out]
            rw [eG, e8] at hG
            exact ⟨⟨k + 1, _, A8, c8, _, by omega, by go_num, hG⟩, by simp [intOf]; omega⟩
          · have := ownA.ge i hi
            have := ownA.blk_lt i hi
            have := kS.size
            have := kD1.size
            exact tagN_new (by omega) (by omega)
          · intro e
            have := (hQ.tags i (by rw [hQ.p3.blk i e]; omega)).2
            have := ownA.ge i hi
            have := kS.size
            omega
    · obtain ⟨w3, rfl⟩ : ∃ x : World, x = wr := ⟨_, rfl⟩
      have hQr : QC w0 w3 bs τ (.slice AB s.box.length dB) (.slice none 0 0) (.slice A3 k c3) (.slice none 0 0) (qcR s 0) [] gcs [] := by
        have e : qcG s k = qcR s 0 := by unfold qcG qcR; rw [List.take_of_length_le (by omega)]; rfl
        rw [← e]; exact hQ
      clear hQ HL kk
      replace hQr := hid hQr
      go_wp2
      clear c0 c1 c2 c3' hgl
      obtain ⟨c0, c1, c2, c3'⟩ := B0.cells
      generalize k = kg at *
      go_loopw [7] (fun i wr => ∃ (k : Nat) (τ : Nat → Nat) (A : Option Addr) (c : Nat) (css : List (Elm 2)), k ≤ s.rows.length ∧ i = .int .i64 k ∧ QC w0 wr bs τ (.slice AB s.box.length dB) (.slice A k c) (.slice A3 kg c3) (.slice none 0 0) (qcR s k) css gcs []) (fun i _ => s.rows.length - (intOf i).toNat)
      case atStart => exact ⟨0, _, none, 0, [], Nat.zero_le _, rfl, hQr.out⟩
      case round =>
        clear hQr
        obtain ⟨k, τ, A2, c2', css, hk, rfl, hQ⟩ := hrel
        have x1 := hQ.kp.cellS c1
        have hgl := block_lt_of_cell x1
        by_cases hlt : k < s.rows.length
        · obtain ⟨q, o, A', c', rfl, hq, h1, h2, h3⟩ := (hr.keep rdRow_stable k0).row hlt
          have hts := HT.out _ (List.getElem_mem hlt)
          have HTk := hid (List.take_succ_eq_append_getElem hlt)
          generalize s.rows[k] = r at *
          obtain ⟨ts, bd⟩ := r
          dsimp only at h1 h2 h3 hts
          have q1 : (0 : Int) ≤ k := by omega
          have q2 : (k : Int) < s.rows.length := by omega
          have hcl : css.length = k := by
            have := hQ.p2.len
            simp [qcR] at this
            omega
          replace hcl := hid hcl
          go_wp2
          have hSf : ∀ W : World, Bx W bs [.slice AB s.box.length dB, .slice A2 k c2', .slice A3 kg c3, .slice none 0 0] → Kp w0 W → (W.cell? ⟨bs, 1, none⟩ = some (.slice A2 k c2') ∧ W.frozen? ⟨bs, 1, none⟩ = false ∧ W.cell? ⟨b, 1, none⟩ = some (.slice (some ⟨q, o, none⟩) s.rows.length cr) ∧ W.cell? ⟨q, o + k * 2, none⟩ = some (.slice A' ts.length c') ∧ W.cell? ⟨q, o + k * 2 + 1, none⟩ = some (.int .i64 bd) ∧ Kp w0 W) := fun W h hk => ⟨h.cell (j := 1) rfl, h.free (j := 1) (by simp), hk.cellS c1, hk.cellS h1, hk.cellS h2, hk⟩
          refine beginT 11 (S := fun W => W.cell? ⟨bs, 1, none⟩ = some (.slice A2 k c2') ∧ W.frozen? ⟨bs, 1, none⟩ = false ∧ W.cell? ⟨b, 1, none⟩ = some (.slice (some ⟨q, o, none⟩) s.rows.length cr) ∧ W.cell? ⟨q, o + k * 2, none⟩ = some (.slice A' ts.length c') ∧ W.cell? ⟨q, o + k * 2 + 1, none⟩ = some (.int .i64 bd) ∧ Kp w0 W) (by kernel_rfl) (hSf _ (hQ.box.keep rfl) hQ.kp.drew) (fun hHeld => ?_)
          refine take_atT 0 74 (v := ?_) rfl rfl (by kernel_rfl) (by kernel_rfl) (by kernel_rfl) (by kernel_rfl) (by kernel_rfl) (fun _ _ _ h => h) hHeld (Or.inl ⟨by kernel_rfl, ?_⟩) ?_
          rotate_left
          · intro w hSw; (try dsimp only at hSw); go_simp; try with_reducible rfl
          simp only [Act.put, List.setIfInBounds_toArray, List.set_cons_zero, List.set_cons_succ]
          refine take_atT 1 75 (v := ?_) rfl rfl (by kernel_rfl) (by kernel_rfl) (by kernel_rfl) (by kernel_rfl) (by kernel_rfl) (fun _ _ _ h => h) hHeld (Or.inl ⟨by kernel_rfl, ?_⟩) ?_
          rotate_left
          · intro w hSw; (try dsimp only at hSw); go_simp; try with_reducible rfl
          simp only [Act.put, List.setIfInBounds_toArray, List.set_cons_zero, List.set_cons_succ]
          refine take_atT 2 76 (v := ?_) rfl rfl (by kernel_rfl) (by kernel_rfl) (by kernel_rfl) (by kernel_rfl) (by kernel_rfl) (fun _ _ _ h => h) hHeld (Or.inl ⟨by kernel_rfl, ?_⟩) ?_
          rotate_left
          · intro w hSw; (try dsimp only at hSw); go_simp; try with_reducible rfl
          simp only [Act.put, List.setIfInBounds_toArray, List.set_cons_zero, List.set_cons_succ]
          refine take_atT 3 77 (v := ?_) rfl rfl (by kernel_rfl) (by kernel_rfl) (by kernel_rfl) (by kernel_rfl) (by kernel_rfl) (fun _ _ _ h => h) hHeld (Or.inl ⟨by kernel_rfl, ?_⟩) ?_
          rotate_left
          · intro w hSw; (try dsimp only at hSw); go_simp; try with_reducible rfl
          simp only [Act.put, List.setIfInBounds_toArray, List.set_cons_zero, List.set_cons_succ]
          refine take_atT 4 78 (v := ?_) rfl rfl (by kernel_rfl) (by kernel_rfl) (by kernel_rfl) (by kernel_rfl) (by kernel_rfl) (fun _ _ _ h => h) hHeld (Or.inl ⟨by kernel_rfl, ?_⟩) ?_
          rotate_left
          · intro w hSw; (try dsimp only at hSw); go_simp; try with_reducible rfl
          simp only [Act.put, List.setIfInBounds_toArray, List.set_cons_zero, List.set_cons_succ]
          refine take_atT 5 79 (v := ?_) rfl rfl (by kernel_rfl) (by kernel_rfl) (by kernel_rfl) (by kernel_rfl) (by kernel_rfl) (fun _ _ _ h => h) hHeld (Or.inl ⟨by kernel_rfl, ?_⟩) ?_
          rotate_left
          · intro w hSw; (try dsimp only at hSw); go_simp; try with_reducible rfl
          simp only [Act.put, List.setIfInBounds_toArray, List.set_cons_zero, List.set_cons_succ]
          refine take_atT 6 80 (v := ?_) rfl rfl (by kernel_rfl) (by kernel_rfl) (by kernel_rfl) (by kernel_rfl) (by kernel_rfl) (fun _ _ _ h => h) hHeld (Or.inl ⟨by kernel_rfl, ?_⟩) ?_
          rotate_left
          · intro w hSw; (try dsimp only at hSw); go_simp; try with_reducible rfl
          simp only [Act.put, List.setIfInBounds_toArray, List.set_cons_zero, List.set_cons_succ]
          refine stepT (i := 7) (o := _) (by kernel_rfl) rfl (fun K hK => ?_)
          go_simp
          refine (qCopy_any _ ts bd _ (h3.keep (pl_stable _) hHeld.2.2.2.2.2) (by omega)).mono ?_
          rintro e w5 ⟨v5, rfl, own5, k5⟩
          obtain ⟨A5, c5, rfl, _, _⟩ := own5.form
          have kd := (Kp.refl wr).drew
          have zd := kd.size
          have k5' := kd.trans k5
          refine hK.out _ _ (hSf _ (hQ.box.kp k5' hQ.lt) (hQ.kp.trans k5')) (fun hHeld2 => ?_)
          clear hK K hHeld
          have hHeld := hHeld2
          clear hHeld2
          refine stepT (i := 8) (o := _) (by kernel_rfl) rfl (fun K hK => ?_)
          go_simp
          have kC := (Kp.refl w5).alloc (.cells #[.slice A5 ts.length c5, .int .i64 bd] 76)
          have hQD := hQ.next (k5'.trans kC) 2
          refine hK.out _ _ (hSf _ hQD.box hQD.kp) (fun hHeld2 => ?_)
          clear hK K hHeld
          have hHeld := hHeld2
          clear hHeld2
          refine stepT (i := 9) (o := _) (by kernel_rfl) rfl (fun K hK => ?_)
          refine step_append4 (l := css) (m := [(⟨[.slice A5 ts.length c5, .int .i64 bd], rfl, by simp [Value.oneCell']⟩ : Elm 2)]) rfl (.tmp 75) (.tmp 82) rfl stRowM encC_len encC_one rfl hQD.p2.own rfl (Sl.one (R := Pl encC) w5 [.slice A5 ts.length c5, .int .i64 bd] 76 2 _ rfl rfl) (by have := hcl.out; simp; omega) (by have := hcl.out; simp; omega) (Nat.zero_le _) ?_
          intro v8 w8 hown8 hgrow8 hat8
          have hB8 := hQD.box.grown hgrow8 (fun e => by have := hQD.p2.blk bs e; have := hQD.bo0; omega) hQD.lt
          have hk8 : Kp w0 w8 := hQD.kp.grown hgrow8 (fun q hq => (hQD.tags q (by rw [hQD.p2.blk q hq]; omega)).1)
          refine hK.out _ _ (hSf _ hB8 hk8) (fun hHeld2 => ?_)
          clear hK K hHeld
          have hHeld := hHeld2
          clear hHeld2
          refine stepT (i := 10) (o := _) (by kernel_rfl) rfl (fun K hK => ?_)
          go_simp
          refine hK.out _ _ hHeld (fun hHeld2 => ?_)
          clear hK K hHeld
          have hHeld := hHeld2
          clear hHeld2
          obtain ⟨A8, c8, hv8, hc8, hm8⟩ := hown8.form
          subst hv8
          have e8 : (css ++ [(⟨[.slice A5 ts.length c5, .int .i64 bd], rfl, by simp [Value.oneCell']⟩ : Elm 2)]).length = k + 1 := by simp [hcl.out]
          have eG : ({ qcR s k with rows := (qcR s k).rows ++ [⟨ts, bd⟩] } : Sys) = qcR s (k + 1) := by
            unfold qcR
            dsimp only
            rw [HTk.out]
          have hG := hQD.row (r := ⟨ts, bd⟩) (fun i => (Value.slice A5 ts.length c5).ownBlock = some i) (fun i hi => ⟨by
              have := own5.ge i hi
              have := own5.blk_lt i hi
              have := kC.size
              exact tagN_new (by omega) (by omega), fun e => by
              have := (hQ.tags i (by rw [hQ.p2.blk i e]; omega)).2
              have := own5.ge i hi
              omega⟩) ((own5.kp kC).owS.imp fun w' ho => ⟨.slice A5 ts.length c5, rfl, ho.sl encTerm_len⟩) hown8 hgrow8 hat8
          rw [eG, e8] at hG
          rw [e8]
          obtain ⟨p1, p2, -⟩ := hHeld
          refine lastT (o := _) (by kernel_rfl) rfl (fun K hK => ?_)
          go_simp
          refine hK.out _ _ ?_
          clear hK K
          refine doneT (by kernel_rfl) ?_ _
          go_wp2
          go_roundw
          case rel => exact ⟨k + 1, _, A8, c8, _, by omega, by go_num, hG⟩
          case measure => simp [intOf]; omega
        · obtain ⟨w4, rfl⟩ : ∃ x : World, x = wr := ⟨_, rfl⟩
          have hQr : QC w0 w4 bs τ (.slice AB s.box.length dB) (.slice A2 k c2') (.slice A3 kg c3) (.slice none 0 0) (qcC s 0) css gcs [] := by
            have e : qcR s k = qcC s 0 := by unfold qcR qcC; rw [List.take_of_length_le (by omega)]; rfl
            rw [← e]; exact hQ
          have x3 := hQ.kp.cellS c3'
          clear hQ HT
          replace hQr := hid hQr
          go_wp2
          clear x1 x3 hgl
          generalize k = kr at *
          go_loopw [8] (fun i wr => ∃ (k : Nat) (τ : Nat → Nat) (A : Option Addr) (c : Nat) (vs : List (Elm 1)), k ≤ s.cases.length ∧ i = .int .i64 k ∧ QC w0 wr bs τ (.slice AB s.box.length dB) (.slice A2 kr c2') (.slice A3 kg c3) (.slice A k c) (qcC s k) css gcs vs) (fun i _ => s.cases.length - (intOf i).toNat)
          case atStart => exact ⟨0, _, none, 0, [], Nat.zero_le _, rfl, hQr.out⟩
          case round =>
            clear hQr
            obtain ⟨k, τ, A4, c4', vs, hk, rfl, hQ⟩ := hrel
            have x3 := hQ.kp.cellS c3'
            have hgl := block_lt_of_cell x3
            by_cases hlt : k < s.cases.length
            · obtain ⟨q, o, A', c', rfl, hq, h1, h2⟩ := (hc.keep rdRows_stable k0).rowsAt hlt
              have hcs := hid (HC.out _ (List.getElem_mem hlt))
              have HTk := hid (List.take_succ_eq_append_getElem hlt)
              generalize s.cases[k] = l at *
              obtain ⟨y1, y2⟩ := h2.caps
              have hl64 := hcs.out.1
              have q1 : (0 : Int) ≤ k := by omega
              have q2 : (k : Int) < s.cases.length := by omega
              have hcl : vs.length = k := by
                have := hQ.p4.len
                simp [qcC] at this
                omega
              replace hcl := hid hcl
              obtain ⟨wx, rfl⟩ : ∃ x : World, x = wr := ⟨_, rfl⟩
              go_wp2
              go_loopw [9, 10] (fun v i wr => ∃ (j : Nat) (A : Option Addr) (c : Nat) (cssx : List (Elm 2)), j ≤ l.length ∧ i = .int .i64 j ∧ v = .slice A j c ∧ NL rdRow 76 2 (fun q => wx.heap.size ≤ q) wr (.slice A j c) cssx (l.take j) ∧ Kp wx wr) (fun _ i _ => l.length - (intOf i).toNat)
              case atStart => exact ⟨0, _, _, [], Nat.zero_le _, rfl, rfl, ⟨Own.lit (base := 0) encC wx #[] [] (Nat.zero_le _) (by simp) rfl rfl, rfl, fun q hq => by injection hq with hq; exact Nat.le_of_eq hq, fun k h1 _ => absurd h1 (by simp)⟩, (Kp.refl _).alloc _⟩
              case round =>
                obtain ⟨j, A6, c6, cssx, hj, rfl, rfl, hN, hKr⟩ := hrel
                have kx0 := hQ.kp.trans hKr
                have z3 := kx0.cellS c3'
                have z1' := kx0.cellS h1
                have zg := block_lt_of_cell z3
                have zg2 := block_lt_of_cell z1'
                have hcx : cssx.length = j := by
                  have := hN.len
                  simp at this
                  omega
                replace hcx := hid hcx
                by_cases hjl : j < l.length
                · obtain ⟨p, o2, A7, c7, rfl, hp, g1, g2, g3⟩ := (h2.keep rdRow_stable kx0).row hjl
                  have hts := hcs.out.2 _ (List.getElem_mem hjl)
                  have HTj := hid (List.take_succ_eq_append_getElem hjl)
                  generalize l[j] = r at *
                  obtain ⟨ts, bd⟩ := r
                  dsimp only at g1 g2 g3 hts
                  have q3 : (0 : Int) ≤ j := by omega
                  have q4 : (j : Int) < l.length := by omega
                  clear x3 hgl h1
                  go_wp2_with fail
                  refine (qCopy_any _ ts bd _ g3 (by omega)).mono ?_
                  rintro e w5 ⟨v5, rfl, own5, k5⟩
                  obtain ⟨A5, c5, rfl, _, _⟩ := own5.form
                  have kC := (Kp.refl w5).alloc (.cells #[.slice A5 ts.length c5, .int .i64 bd] 76)
                  have hND := hN.kp (k5.trans kC)
                  go_wp2_with (at_builtin; refine wpl_append_flat (l := cssx) (m := [(⟨[.slice A5 ts.length c5, .int .i64 bd], rfl, by simp [Value.oneCell']⟩ : Elm 2)]) rfl (.tmp 103) (.tmp 113) rfl stRowM encC_len encC_one rfl hND.own rfl (Sl.one (R := Pl encC) w5 [.slice A5 ts.length c5, .int .i64 bd] 76 2 _ rfl rfl) (by have := hcx.out; simp; omega) (by have := hcx.out; simp; omega) (Nat.zero_le _) ?_; intro v8 w8 hown8 hgrow8 hat8 hnil8)
                  obtain ⟨A8, c8, rfl, hc8, hm8⟩ := hown8.form
                  have hks := hKr.size
                  have hk5s := (k5.trans kC).size
                  have hN8 := hND.snoc (S' := fun q => wx.heap.size ≤ q) (x := ⟨ts, bd⟩) hown8 hgrow8 hat8 (fun i => (Value.slice A5 ts.length c5).ownBlock = some i) (fun i hi => ⟨by
                    have := own5.ge i hi
                    show wx.heap.size ≤ i
                    omega, fun e => by
                    have := own5.ge i hi
                    have := hN.own.blk_lt i e
                    omega, by
                    have := own5.blk_lt i hi
                    have := kC.size
                    omega⟩) ((own5.kp kC).owS.imp fun w' ho => ⟨.slice A5 ts.length c5, rfl, ho.sl encTerm_len⟩) (fun i hi => hi) (by show wx.heap.size ≤ _; omega)
                  have e8 : (cssx ++ [(⟨[.slice A5 ts.length c5, .int .i64 bd], rfl, by simp [Value.oneCell']⟩ : Elm 2)]).length = j + 1 := by simp [hcx.out]
                  have hk8 := (hKr.trans (k5.trans kC)).grown hgrow8 (fun q hq => hN.blk q hq)
                  rw [← HTj.out, e8] at hN8
                  rw [e8]
                  go_roundw
                  case rel => exact ⟨j + 1, A8, c8, _, by omega, by go_num, rfl, hN8, hk8⟩
                  case measure => simp [intOf]; omega
                · have hjn : j = l.length := by omega
                  subst hjn
                  rw [List.take_length] at hN
                  have kD1 := (Kp.refl wr).alloc (.cells #[.slice A6 l.length c6] 23)
                  have hQ1 := hQ.next hKr (5 + k)
                  have hQD := hQ1.next kD1 4
                  have hkl : (qcC s k).cases.length = k := by simp [qcC]; omega
                  have hNl : NL rdRow 76 2 (fun q => tagN (tagN τ wx.heap.size (5 + k) wr.heap.size) wr.heap.size 4 (wr.alloc (.cells #[.slice A6 l.length c6] 23)).heap.size q = 5 + (qcC s k).cases.length) (wr.alloc (.cells #[.slice A6 l.length c6] 23)) (.slice A6 l.length c6) cssx l := by
                    have h := hN.kp kD1
                    refine ⟨h.own, h.len, fun q hq => ?_, fun m m1 m2 => ?_⟩
                    · rw [hkl]
                      exact tagN_old hQ1.tags 4 _ (by omega) (tagN_new (hN.blk q hq) (hN.own.blk_lt q hq))
                    · obtain ⟨T, hT, ho⟩ := hN.els m m1 m2
                      refine ⟨T, fun i hi => ⟨?_, (hT i hi).2.1, Nat.lt_of_lt_of_le (hT i hi).2.2 kD1.size⟩, ho.kp kD1⟩
                      rw [hkl]
                      exact tagN_old hQ1.tags 4 _ (by omega) (tagN_new (hT i hi).1 (hT i hi).2.2)
                  have s3 := hQ1.box.cell (j := 3) rfl
                  have zbs := block_lt_of_cell s3
                  have hvb := hQD.bo0
                  have hvt := hQD.p4.t
                  have hbx := hQD.box
                  clear x3 hgl h1
                  go_wp2_with (at_builtin; refine wpl_append_flat (l := vs) (m := [(⟨[.slice A6 l.length c6], rfl, by simp [Value.oneCell']⟩ : Elm 1)]) rfl (.tmp 116) (.tmp 118) rfl stRowsM encC_len encC_one rfl hQD.p4.o rfl (Sl.one (R := Pl encC) wr [.slice A6 l.length c6] 23 1 _ rfl rfl) (by have := hcl.out; simp; omega) (by have := hcl.out; simp; omega) (Nat.zero_le _) ?_; intro v8 w8 hown8 hgrow8 hat8 hnil8; have hB8 := hbx.grown hgrow8 (fun e => by have := hvt bs e; omega) hQD.lt; have s8 := hB8.cell (j := 3) rfl; have s8f := hB8.free (j := 3) (by simp); obtain ⟨A8, c8, hv8, hc8, hm8⟩ := hown8.form; subst hv8)
                  have hG := hQD.case (l := l) (u := .slice A6 l.length c6) (c := (⟨[.slice A6 l.length c6], rfl, by simp [Value.oneCell']⟩ : Elm 1)) rfl hNl hown8 hgrow8 hat8
                  have e8 : (vs ++ [(⟨[.slice A6 l.length c6], rfl, by simp [Value.oneCell']⟩ : Elm 1)]).length = k + 1 := by simp [hcl.out]
                  have eG : ({ qcC s k with cases := (qcC s k).cases ++ [l] } : Sys) = qcC s (k + 1) := by
                    unfold qcC
                    dsimp only
                    rw [HTk.out]
                  rw [eG, e8] at hG
                  rw [hcl.out]
                  exact ⟨⟨k + 1, _, A8, c8, _, by omega, by go_num, hG⟩, by simp [intOf]; omega⟩
            · have hme : k = s.cases.length := by omega
              have hqc : qcC s k = s := by unfold qcC; rw [List.take_of_length_le (by omega)]
              rw [hqc] at hQ
              clear hme hqc
              have g0 := hQ.box.cell (j := 0) rfl
              have g1 := hQ.box.cell (j := 1) rfl
              have g2 := hQ.box.cell (j := 2) rfl
              have g3 := hQ.box.cell (j := 3) rfl
              have hbw' := hbw.out
              have hRr := hR.kp hQ.kp (by omega)
              have hblr : b + 1 < wr.heap.size := by have := hQ.kp.size; omega
              have f0 := hRr.free (j := 0) (by simp)
              have f1 := hRr.free (j := 1) (by simp)
              have f2 := hRr.free (j := 2) (by simp)
              have f3 := hRr.free (j := 3) (by simp)
              have r0 := hRr.cell (j := 0) rfl
              have r1 := hRr.cell (j := 1) rfl
              have r2 := hRr.cell (j := 2) rfl
              have r3 := hRr.cell (j := 3) rfl
              have zbs := block_lt_of_cell g0
              have hBF := (((hRr.set (j := 0) (by simp) (.slice AB s.box.length dB)).set (j := 1) (by simp) (.slice A2 kr c2')).set (j := 2) (by simp) (.slice A3 kg c3)).set (j := 3) (by simp) (.slice A4 k c4')
              simp only [List.set_cons_zero, List.set_cons_succ] at hBF
              have kS : Kg wr ((((wr.setCell ⟨b + 1, 0, none⟩ (.slice AB s.box.length dB)).setCell ⟨b + 1, 1, none⟩ (.slice A2 kr c2')).setCell ⟨b + 1, 2, none⟩ (.slice A3 kg c3)).setCell ⟨b + 1, 3, none⟩ (.slice A4 k c4')) (b + 1) := ((((Kg.refl wr (b + 1)).set (p := ⟨b + 1, 0, none⟩) (.inl rfl) _).set (p := ⟨b + 1, 1, none⟩) (.inl rfl) _).set (p := ⟨b + 1, 2, none⟩) (.inl rfl) _).set (p := ⟨b + 1, 3, none⟩) (.inl rfl) _
              have hτ : τ (b + 1) = 0 := by
                by_cases h : τ (b + 1) = 0
                · exact h
                · have := (hQ.tags _ h).1
                  omega
              have hsys := hQ.fin kS hτ
              have htags : Tags w.heap.size ((((wr.setCell ⟨b + 1, 0, none⟩ (.slice AB s.box.length dB)).setCell ⟨b + 1, 1, none⟩ (.slice A2 kr c2')).setCell ⟨b + 1, 2, none⟩ (.slice A3 kg c3)).setCell ⟨b + 1, 3, none⟩ (.slice A4 k c4')) τ := fun q hq => by
                have h1 := hQ.tags q hq
                have h2 := kS.size
                have h3 := k0.size
                exact ⟨by omega, by omega⟩
              have hkF := Kg.to_kp (k0.trans hQ.kp) kS (by omega)
              go_wp2
              refine bodyPost_ret (results_cell_bx rfl _ _ (b + 1) [.slice AB s.box.length dB, .slice A2 kr c2', .slice A3 kg c3, .slice A4 k c4'] _ rfl hBF.range Try.underlying27 rfl (by kernel_rfl)) rfl ?_
              first
                | exact ⟨_, _, _, _, τ, rfl, htags, hsys, hkF⟩
                | exact ⟨_, _, _, _, rfl, τ, (by rw [hbw'] at htags; exact htags), hsys, hkF⟩
end Go.Proofs.Ytlbhidiliogflaa
namespace Go.Proofs.Ytlbhidiliogflaa
set_option linter.unusedSimpArgs false
set_option linter.unusedVariables false
open Go.RowKit

/-- what the operations of the round's statement yield -/
def brPV (bo g4 gr ix k : Nat) (RS SV SR R : Value) (el : Elm 2) : Nat → Value → World → Prop
  | 0, v, _ => v = .pointer (some ⟨bo, 1, none⟩)
  | 1, v, _ => v = RS
  | 2, v, _ => v = .pointer (some ⟨bo, 3, none⟩)
  | 3, v, _ => v = SV
  | 4, v, _ => v = .int .i64 ix
  | 5, v, _ => v = .pointer (some ⟨g4, ix, none⟩)
  | 6, v, _ => v = SR
  | 7, v, _ => v = .int .i64 k
  | 8, v, _ => v = .pointer (some ⟨gr, k * 2, none⟩)
  | 9, v, _ => v = R
  | 10, v, w => ∃ p : Nat, v = .slice (some ⟨p, 0, none⟩) 1 1 ∧ Sl (Pl encC) 2 w (.slice (some ⟨p, 0, none⟩) 1 1) [el]
  | _, _, _ => True
theorem brPV_keep (bo g4 gr ix k : Nat) (RS SV SR R : Value) (el : Elm 2) (j : Nat) (v : Value) (w1 w2 : World) (h : brPV bo g4 gr ix k RS SV SR R el j v w1) (hk : Kp w1 w2) : brPV bo g4 gr ix k RS SV SR R el j v w2 := by
  match j, h with
  | 0, h | 1, h | 2, h | 3, h | 4, h | 5, h | 6, h | 7, h | 8, h | 9, h => exact h
  | 10, h =>
    obtain ⟨p, e, o⟩ := h
    exact ⟨p, e, o.keep (pl_stable _) hk⟩
  | n + 11, _ => trivial
set_option maxRecDepth 8000 in
set_option maxHeartbeats 16000000 in
theorem qBranch_any (va : Value) (s : Sys) (x : Int) (w : World) (hs : SysV w va s) :
    Calls Try.prog 21 #[va, .int .i64 x] w fun e w' => ∃ v, e = .returned (.tuple #[v, .int .i64 (BranchR s x).2]) ∧ SysV w' v (BranchR s x).1 ∧ Kp w w' := by
  have hs' := hs
  obtain ⟨Ab, cb, Ar, cr, Ag, cg, Ac, cc, rfl, hb, hr, hg, hc⟩ := hs'
  obtain ⟨l1, m1⟩ := hb.caps
  obtain ⟨l2, m2⟩ := hr.caps
  obtain ⟨l3, m3⟩ := hg.caps
  obtain ⟨l4, m4⟩ := hc.caps
  have k0 := ((Kp.refl w).alloc (.cells #[.slice Ab s.box.length cb, .slice Ar s.rows.length cr, .slice Ag s.graphs.length cg, .slice Ac s.cases.length cc] 27)).alloc (.cells #[.slice none 0 0, .slice none 0 0, .slice none 0 0, .slice none 0 0] 27)
  have B0 := (SysB.new w #[.slice Ab s.box.length cb, .slice Ar s.rows.length cr, .slice Ag s.graphs.length cg, .slice Ac s.cases.length cc] 27).keep ((Kp.refl _).alloc (.cells #[.slice none 0 0, .slice none 0 0, .slice none 0 0, .slice none 0 0] 27))
  have hR := Bx.new (w.alloc (.cells #[.slice Ab s.box.length cb, .slice Ar s.rows.length cr, .slice Ag s.graphs.length cg, .slice Ac s.cases.length cc] 27)) #[.slice none 0 0, .slice none 0 0, .slice none 0 0, .slice none 0 0] 27
  rw [World.size_alloc] at hR
  have hzw : ((w.alloc (.cells #[.slice Ab s.box.length cb, .slice Ar s.rows.length cr, .slice Ag s.graphs.length cg, .slice Ac s.cases.length cc] 27)).alloc (.cells #[.slice none 0 0, .slice none 0 0, .slice none 0 0, .slice none 0 0] 27)).heap.size = w.heap.size + 2 := by simp
  go_enter Try.func21, Try.ntmps21
  go_wp2_with fail
  generalize (w.alloc (.cells #[.slice Ab s.box.length cb, .slice Ar s.rows.length cr, .slice Ag s.graphs.length cg, .slice Ac s.cases.length cc] 27)).alloc (.cells #[.slice none 0 0, .slice none 0 0, .slice none 0 0, .slice none 0 0] 27) = w0 at *
  generalize hbw : w.heap.size = b at *
  replace hbw := hid hbw
  replace hzw := hid hzw
  refine (qValid_any _ s _ (hs.keep k0)).mono ?_
  rintro e w1 ⟨rfl, k1⟩
  have hb1 : b + 1 < w1.heap.size := by have := k1.size; have := hzw.out; omega
  have hR1 := hR.kp k1 (by have := hzw.out; omega)
  replace B0 := B0.keep k1
  have hz1 : b + 2 ≤ w1.heap.size := by have := k1.size; have := hzw.out; omega
  replace k1 := k0.trans k1
  obtain ⟨c0, c1, c2, c3⟩ := B0.cells
  have hgl := block_lt_of_cell c0
  cases hV : validS s with
  | false =>
    have HN : Hid (BranchR s x = (zSys, 1)) := hid (by unfold BranchR; rw [hV]; rfl)
    have hRx := hR1
    have kx := k1
    clear hV hR1
    have f0 := hRx.free (j := 0) (by simp)
    have f1 := hRx.free (j := 1) (by simp)
    have f2 := hRx.free (j := 2) (by simp)
    have f3 := hRx.free (j := 3) (by simp)
    have y0 := hRx.cell (j := 0) rfl
    have y1 := hRx.cell (j := 1) rfl
    have y2 := hRx.cell (j := 2) rfl
    have y3 := hRx.cell (j := 3) rfl
    have hBF := hRx.set4 (.slice none 0 0) (.slice none 0 0) (.slice none 0 0) (.slice none 0 0)
    have kF := Kg.to_kp kx (Kg.set4 w1 (b + 1) (.slice none 0 0) (.slice none 0 0) (.slice none 0 0) (.slice none 0 0)) (by have := hbw.out; omega)
    clear hRx hR
    go_wp2
    refine bodyPost_ret (results_cell_bx2 rfl _ _ (b + 1) [.slice none 0 0, .slice none 0 0, .slice none 0 0, .slice none 0 0] _ rfl hBF.range Try.underlying27 rfl (by kernel_rfl)) rfl ?_
    exact ⟨_, by rw [HN.out]; rfl, by rw [HN.out]; exact zSys_v _, kF⟩
  | true =>
    by_cases hx : 0 ≤ x ∧ x < s.cases.length
    · obtain ⟨i, rfl⟩ := Int.eq_ofNat_of_zero_le hx.1
      have hi : i < s.cases.length := by omega
      have e1 : decide ((i : Int) < 0) = false := decide_eq_false (by omega)
      have e2 : decide ((s.cases.length : Int) ≤ (i : Int)) = false := decide_eq_false (by omega)
      have e2n : decide (s.cases.length ≤ i) = false := decide_eq_false (by omega)
      obtain ⟨q, o, Ai, ci, rfl, hq, h1', h2'⟩ := (hc.keep rdRows_stable k1).rowsAt hi
      have hgd : s.cases.getD i [] = s.cases[i] := by simp [List.getD, hi]
      have hsz := size_of hV
      have hlc := (hsz.case s.cases[i] (List.getElem_mem hi)).1
      have hlr := hsz.rows
      have HB : Hid (BranchR s (i : Int) = if 1024 < s.rows.length + s.cases[i].length then (zSys, 8) else (⟨s.box, s.rows ++ s.cases[i], s.graphs, []⟩, 0)) := hid (by
        unfold BranchR
        rw [hV, if_pos rfl, if_pos hx, Int.toNat_natCast, hgd])
      obtain ⟨m5, m6⟩ := h2'.caps
      clear hx hgd h2'
      have q1 : (0 : Int) ≤ i := by omega
      have q2 : (i : Int) < s.cases.length := by omega
      go_wp2
      refine wp_region_kw (by kernel_rfl) (by kernel_rfl) ?_
      repeat (go_big_quiet_step (fail))
      refine wpQuiet_nil ?_
      intro _ hw'
      obtain ⟨u, hw''⟩ := hw'
      subst hw''
      have kU := kw_kp w1 u
      replace B0 := B0.keep kU
      have hRx := hR1.kp kU hb1
      have kx := k1.trans kU
      have hzx : b + 2 ≤ (Kw w1 u).heap.size := by have := kU.size; omega
      clear c0 c1 c2 c3 hgl hR1 hz1 hb1 h1' hq k1 e1 e2 e2n
      generalize Kw w1 u = w2 at *
      clear kU
      obtain ⟨c0, c1, c2, c3⟩ := B0.cells
      have hgl := block_lt_of_cell c0
      have hb1 : b + 1 < w2.heap.size := by omega
      by_cases hbig : 1024 < s.rows.length + s.cases[i].length
      · have HN : Hid (BranchR s (i : Int) = (zSys, 8)) := hid (by rw [HB.out, if_pos hbig])
        have e3 : decide ((1024 : Int) < (s.rows.length : Int) + (s.cases[i].length : Int)) = true := decide_eq_true (by omega)
        have e4 : decide (1024 < s.rows.length + s.cases[i].length) = true := decide_eq_true (by omega)
        have f0 := hRx.free (j := 0) (by simp)
        have f1 := hRx.free (j := 1) (by simp)
        have f2 := hRx.free (j := 2) (by simp)
        have f3 := hRx.free (j := 3) (by simp)
        have y0 := hRx.cell (j := 0) rfl
        have y1 := hRx.cell (j := 1) rfl
        have y2 := hRx.cell (j := 2) rfl
        have y3 := hRx.cell (j := 3) rfl
        have hBF := hRx.set4 (.slice none 0 0) (.slice none 0 0) (.slice none 0 0) (.slice none 0 0)
        have kF := Kg.to_kp kx (Kg.set4 w2 (b + 1) (.slice none 0 0) (.slice none 0 0) (.slice none 0 0) (.slice none 0 0)) (by have := hbw.out; omega)
        clear hRx hR
        go_wp2
        refine bodyPost_ret (results_cell_bx2 rfl _ _ (b + 1) [.slice none 0 0, .slice none 0 0, .slice none 0 0, .slice none 0 0] _ rfl hBF.range Try.underlying27 rfl (by kernel_rfl)) rfl ?_
        exact ⟨_, by rw [HN.out]; rfl, by rw [HN.out]; exact zSys_v _, kF⟩
      · have HN : Hid (BranchR s (i : Int) = (⟨s.box, s.rows ++ s.cases[i], s.graphs, []⟩, 0)) := hid (by rw [HB.out, if_neg hbig])
        have e3 : decide ((1024 : Int) < (s.rows.length : Int) + (s.cases[i].length : Int)) = false := decide_eq_false (by omega)
        have e4 : decide (1024 < s.rows.length + s.cases[i].length) = false := decide_eq_false (by omega)
        have hbg : s.rows.length + s.cases[i].length ≤ 1024 := by omega
        clear hbig
        go_wp2_with fail
        refine (qCopySystem_any _ s _ (hs.keep kx) hsz).mono ?_
        rintro e w3 ⟨vb, vr, vg, vc, τ, rfl, hT, hO, k3⟩
        obtain ⟨A1, a1, rfl, _, _⟩ := hO.box.form
        obtain ⟨css, hr0⟩ := hO.rows
        obtain ⟨A2, a2, rfl, _, _⟩ := hr0.form
        obtain ⟨A3, a3, rfl, _, _⟩ := hO.graphs.here.form
        obtain ⟨vs, o4, l4, t4, n4⟩ := hO.cases
        obtain ⟨A4, a4, rfl, _, _⟩ := o4.form
        obtain ⟨vcs, cssc, hvc, hNc⟩ := n4 i (by omega) hi
        obtain ⟨A5, a5, rfl, _, _⟩ := hNc.form
        obtain ⟨g4, rfl, -, hg4⟩ := o4.at_ (by omega)
        have c4 : w3.cell? ⟨g4, i, none⟩ = some (.slice A5 s.cases[i].length a5) := by
          have := o4.cellAt encC_len rfl (k := i) (by omega) (j := 0) (by omega)
          rw [Nat.mul_one, Nat.add_zero] at this
          refine this.trans ?_
          show vs[i].val[0]? = _
          rw [hvc]
          rfl
        have tg4 := t4 g4 rfl
        rw [l4] at hO
        replace l4 := hid l4
        clear o4 t4 n4 hvc
        have kA := (Kp.refl w3).alloc (.cells #[.slice A1 s.box.length a1, .slice A2 s.rows.length a2, .slice A3 s.graphs.length a3, .slice (some ⟨g4, 0, none⟩) vs.length a4] 27)
        rw [l4.out] at kA
        have hB := Bx.new w3 #[.slice A1 s.box.length a1, .slice A2 s.rows.length a2, .slice A3 s.graphs.length a3, .slice (some ⟨g4, 0, none⟩) s.cases.length a4] 27
        have hbo := alloc_lt w3 (.cells #[.slice A1 s.box.length a1, .slice A2 s.rows.length a2, .slice A3 s.graphs.length a3, .slice (some ⟨g4, 0, none⟩) s.cases.length a4] 27)
        have hO4 := hO.kp kA _ hT
        have hr4 := hr0.kp kA
        have hN4 := hNc.kp kA
        replace c4 := kA.cellS c4
        have hR4 := (hRx.kp k3 (by omega)).kp kA (by have := k3.size; omega)
        have k4 := (kx.trans k3).trans kA
        have hτ : τ w3.heap.size = 0 := by
          by_cases h : τ w3.heap.size = 0
          · exact h
          · have := (hT _ h).2
            omega
        have hτb : τ (b + 1) = 0 := by
          by_cases h : τ (b + 1) = 0
          · exact h
          · have := (hT _ h).1
            omega
        have hlo : b + 2 ≤ w3.heap.size := by have := k3.size; omega
        have hTlo := hid (fun q (h : τ q ≠ 0) => (hT q h).1)
        have hTup := hid (fun q (h : τ q ≠ 0) => (hT q h).2)
        have hszA := kA.size
        have hg4 : g4 < (w3.alloc (.cells #[.slice A1 s.box.length a1, .slice A2 s.rows.length a2, .slice A3 s.graphs.length a3, .slice (some ⟨g4, 0, none⟩) s.cases.length a4] 27)).heap.size := by omega
        replace B0 := B0.keep k3
        rw [l4.out]
        clear c0 c1 c2 c3 hgl hO hr0 hNc hRx hR k3 kA hT kx hszA
        obtain ⟨c0, c1, c2, c3⟩ := B0.cells
        have hgl := block_lt_of_cell c0
        go_upto_region 8 with (fail)
        clear c0 c1 c2 c3 hgl B0
        generalize w3.alloc (.cells #[.slice A1 s.box.length a1, .slice A2 s.rows.length a2, .slice A3 s.graphs.length a3, .slice (some ⟨g4, 0, none⟩) s.cases.length a4] 27) = w4 at *
        generalize w3.heap.size = bo at *
        generalize hL : s.cases[i] = L at *
        clear hL
        have hbx := hO4.box
        have hbt := hO4.boxT
        have hgr := hO4.graphs
        have hbo4 : g4 ≠ bo := fun e => by rw [e] at tg4; omega
        have hb14 : g4 ≠ b + 1 := fun e => by rw [e] at tg4; omega
        clear hO4
        replace hbt := hid hbt
        go_wp2
        go_loopw [7] (fun iv wr => ∃ (k : Nat) (css : List (Elm 2)) (out : List Row) (AR : Option Addr) (cR : Nat), k ≤ L.length ∧ iv = .int .i64 k ∧ Bx wr bo [.slice A1 s.box.length a1, .slice AR out.length cR, .slice A3 s.graphs.length a3, .slice (some ⟨g4, 0, none⟩) s.cases.length a4] ∧
          NL rdRow 76 2 (fun q => τ q ≠ 0 ∨ w4.heap.size ≤ q) wr (.slice AR out.length cR) css out ∧ Hid (∀ q, (Value.slice AR out.length cR).ownBlock = some q → τ q = 2 ∨ w4.heap.size ≤ q) ∧ Hid (out = s.rows ++ L.take k) ∧ Kp w wr ∧ w4.heap.size ≤ wr.heap.size ∧ Hid (∀ q, q < w4.heap.size → q ≠ bo → τ q ≠ 2 → wr.heap[q]? = w4.heap[q]?)) (fun iv _ => L.length - (intOf iv).toNat)
        case atStart => exact ⟨0, css, s.rows, A2, a2, Nat.zero_le _, rfl, hB, hr4.mono (fun q hq => .inl (by rw [hq]; omega)), hid (fun q hq => .inl (hr4.blk q hq)), hid (by simp), k4, Nat.le_refl _, hid (fun _ _ _ _ => rfl)⟩
        case round =>
          clear hB hr4 k4
          obtain ⟨k, css, out, AR, cR, hk, rfl, hBr, hNr, hAR, HO, hkw, hzw4, hK⟩ := hrel
          have y3 := hBr.cell (j := 3) rfl
          have hbr : bo < wr.heap.size := by omega
          have c4' := (World.cell?_of_block (hK.out g4 (block_lt_of_cell c4) hbo4 (by rw [tg4]; omega))).trans c4
          have hg4r : g4 < wr.heap.size := by omega
          by_cases hlt : k < L.length
          · have hNc := hN4.step hzw4 (fun q hq hlt => hK.out q hlt (fun e => by rw [e] at hq; omega) (by omega))
            have hcl := hNc.len
            obtain ⟨gr, rfl, -, hgrl⟩ := hNc.own.at_ (by omega)
            have hτr : τ gr = 5 + i := hNc.blk gr rfl
            have hkc : k < cssc.length := by omega
            obtain ⟨T, hTj, hoj⟩ := hNc.els k hkc hlt
            obtain ⟨tv, hcs, ht⟩ := hoj.here
            have cj0 : wr.cell? ⟨gr, k * 2, none⟩ = some tv := by
              have := hNc.own.cellAt encC_len (by omega) hkc (j := 0) (by omega)
              refine this.trans ?_
              show cssc[k].val[0]? = _
              rw [hcs]; rfl
            have cj1 : wr.cell? ⟨gr, k * 2 + 1, none⟩ = some (.int .i64 L[k].bound) := by
              have := hNc.own.cellAt encC_len (by omega) hkc (j := 1) (by omega)
              refine this.trans ?_
              show cssc[k].val[1]? = _
              rw [hcs]; rfl
            obtain ⟨At, ct, rfl, _, _⟩ := ht.form
            have HO2 : Hid (out ++ [L[k]] = s.rows ++ L.take (k + 1)) := hid (by rw [HO.out, List.take_succ_eq_append_getElem hlt, List.append_assoc])
            have hol : out.length = s.rows.length + k := by rw [HO.out]; simp; omega
            have y1 := hBr.cell (j := 1) rfl
            simp only [hcs] at hoj
            replace hol := hid hol
            generalize L[k] = r at *
            obtain ⟨ts, bd⟩ := r
            dsimp only at *
            have hj1 : (0 : Int) ≤ k := by omega
            have hj2 : (k : Int) < L.length := by omega
            have g0 : decide ((k : Int) < (L.length : Int)) = true := decide_eq_true hj2
            obtain ⟨el, hel⟩ : ∃ el : Elm 2, el.val = [.slice At ts.length ct, .int .i64 bd] := ⟨⟨[.slice At ts.length ct, .int .i64 bd], rfl, by simp [Value.oneCell']⟩, rfl⟩
            have hcln := hNr.len
            replace hel := hid hel
            replace hcln := hid hcln
            clear hcs hNc hcl hkc ht
            go_wp2
            refine G2.wp_region_growG Kp [] 11 61 (brPV bo g4 gr i k (.slice AR out.length cR) (.slice (some ⟨g4, 0, none⟩) s.cases.length a4) (.slice (some ⟨gr, 0, none⟩) L.length a5) (.agg #[.slice At ts.length ct, .int .i64 bd]) el) (by kernel_rfl) (by kernel_rfl) rfl (fun x => Kp.refl x) (fun _ _ _ h k => h.trans k) (Kp.refl _).drew (fun _ _ _ _ _ h => h) (brPV_keep _ _ _ _ _ _ _ _ _ _) ?_ (fun i hi => by simp at hi) ?_
            · intro i0 hi0
              have hi' : i0 = 0 ∨ i0 = 1 ∨ i0 = 2 ∨ i0 = 3 ∨ i0 = 4 ∨ i0 = 5 ∨ i0 = 6 ∨ i0 = 7 ∨ i0 = 8 ∨ i0 = 9 ∨ i0 = 10 := by omega
              rcases hi' with rfl | rfl | rfl | rfl | rfl | rfl | rfl | rfl | rfl | rfl | rfl
              · intro a w' hk hF hD K hK
                simp only [List.getElem?_toArray, List.getElem?_cons_zero, List.getElem?_cons_succ, Option.map_some, Option.getD_some]
                have h6 : a.tmps[6]?.getD undef = .pointer (some ⟨bo, 0, none⟩) := hF 6 (by kernel_rfl)
                clear hF hD
                go_simp
                exact hK.out _ _ (Kp.refl _) rfl
              · intro a w' hk hF hD K hK
                simp only [List.getElem?_toArray, List.getElem?_cons_zero, List.getElem?_cons_succ, Option.map_some, Option.getD_some]
                have h46 : a.tmps[46]?.getD undef = .pointer (some ⟨bo, 1, none⟩) := hD 0 (by kernel_rfl)
                have z1 := hk.cellS y1
                clear hF hD
                go_simp
                exact hK.out _ _ (Kp.refl _) rfl
              · intro a w' hk hF hD K hK
                simp only [List.getElem?_toArray, List.getElem?_cons_zero, List.getElem?_cons_succ, Option.map_some, Option.getD_some]
                have h6 : a.tmps[6]?.getD undef = .pointer (some ⟨bo, 0, none⟩) := hF 6 (by kernel_rfl)
                clear hF hD
                go_simp
                exact hK.out _ _ (Kp.refl _) rfl
              · intro a w' hk hF hD K hK
                simp only [List.getElem?_toArray, List.getElem?_cons_zero, List.getElem?_cons_succ, Option.map_some, Option.getD_some]
                have h48 : a.tmps[48]?.getD undef = .pointer (some ⟨bo, 3, none⟩) := hD 2 (by kernel_rfl)
                have z1 := hk.cellS y3
                clear hF hD
                go_simp
                exact hK.out _ _ (Kp.refl _) rfl
              · intro a w' hk hF hD K hK
                simp only [List.getElem?_toArray, List.getElem?_cons_zero, List.getElem?_cons_succ, Option.map_some, Option.getD_some]
                have h1 : a.tmps[1]?.getD undef = .int .i64 i := hF 1 (by kernel_rfl)
                clear hF hD
                go_simp
                exact hK.out _ _ (Kp.refl _) rfl
              · intro a w' hk hF hD K hK
                simp only [List.getElem?_toArray, List.getElem?_cons_zero, List.getElem?_cons_succ, Option.map_some, Option.getD_some]
                have h49 : a.tmps[49]?.getD undef = .slice (some ⟨g4, 0, none⟩) s.cases.length a4 := hD 3 (by kernel_rfl)
                have h50 : a.tmps[50]?.getD undef = .int .i64 i := hD 4 (by kernel_rfl)
                clear hF hD
                go_simp
                exact hK.out _ _ (Kp.refl _) rfl
              · intro a w' hk hF hD K hK
                simp only [List.getElem?_toArray, List.getElem?_cons_zero, List.getElem?_cons_succ, Option.map_some, Option.getD_some]
                have h51 : a.tmps[51]?.getD undef = .pointer (some ⟨g4, i, none⟩) := hD 5 (by kernel_rfl)
                have z1 := hk.cellS c4'
                clear hF hD
                go_simp
                exact hK.out _ _ (Kp.refl _) rfl
              · intro a w' hk hF hD K hK
                simp only [List.getElem?_toArray, List.getElem?_cons_zero, List.getElem?_cons_succ, Option.map_some, Option.getD_some]
                have h7 : a.tmps[7]?.getD undef = .int .i64 k := hF 7 (by kernel_rfl)
                clear hF hD
                go_simp
                exact hK.out _ _ (Kp.refl _) rfl
              · intro a w' hk hF hD K hK
                simp only [List.getElem?_toArray, List.getElem?_cons_zero, List.getElem?_cons_succ, Option.map_some, Option.getD_some]
                have h52 : a.tmps[52]?.getD undef = .slice (some ⟨gr, 0, none⟩) L.length a5 := hD 6 (by kernel_rfl)
                have h53 : a.tmps[53]?.getD undef = .int .i64 k := hD 7 (by kernel_rfl)
                clear hF hD
                go_simp
                exact hK.out _ _ (Kp.refl _) rfl
              · intro a w' hk hF hD K hK
                simp only [List.getElem?_toArray, List.getElem?_cons_zero, List.getElem?_cons_succ, Option.map_some, Option.getD_some]
                have h54 : a.tmps[54]?.getD undef = .pointer (some ⟨gr, k * 2, none⟩) := hD 8 (by kernel_rfl)
                have z0 := hk.cellS cj0
                have z1 := hk.cellS cj1
                clear hF hD
                go_simp
                exact hK.out _ _ (Kp.refl _) rfl
              · intro a w' hk hF hD K hK
                simp only [List.getElem?_toArray, List.getElem?_cons_zero, List.getElem?_cons_succ, Option.map_some, Option.getD_some]
                have h55 : a.tmps[55]?.getD undef = .agg #[.slice At ts.length ct, .int .i64 bd] := hD 9 (by kernel_rfl)
                clear hF hD
                go_simp
                exact hK.out _ _ ((Kp.refl w').alloc (.cells #[.slice At ts.length ct, .int .i64 bd] 76)) ⟨_, rfl, Sl.one (R := Pl encC) _ [.slice At ts.length ct, .int .i64 bd] 76 2 el rfl hel.out.symm⟩
            · intro v w9 k9 hv
              have v1 : v 1 = .slice AR out.length cR := hv 1 (by omega)
              obtain ⟨p, v10, hp⟩ : ∃ p : Nat, v 10 = .slice (some ⟨p, 0, none⟩) 1 1 ∧ Sl (Pl encC) 2 w9 (.slice (some ⟨p, 0, none⟩) 1 1) [el] := hv 10 (by omega)
              clear hv
              have hB9 := hBr.kp k9 hbr
              have hN9 := hNr.kp k9
              have hs9 := k9.size
              have hbo9 : bo < w9.heap.size := by omega
              have hARb : ∀ q, (Value.slice AR out.length cR).ownBlock = some q → q ≠ bo := fun q hq e => by
                have := hAR.out q hq
                rw [e] at this
                omega
              have hge : ∀ q, (Value.slice AR out.length cR).ownBlock = some q → w.heap.size ≤ q := fun q hq => by
                have hbw' := hbw.out
                rcases hAR.out q hq with h | h
                · have := hTlo.out q (by omega)
                  omega
                · omega
              simp only [G2.growPut, G2.gSlot, List.getElem?_toArray, List.getElem?_cons_zero, List.getElem?_cons_succ, Option.bind_some, List.setIfInBounds_toArray, List.set_cons_zero, List.set_cons_succ, List.drop_succ_cons, List.drop_zero, v1, v10]
              replace hARb := hid hARb
              replace hge := hid hge
              clear y1 y3 cj0 cj1
              go_wp2_with (at_builtin; refine wpl_append_flat (l := css) (m := [el]) rfl (.tmp 47) (.tmp 56) rfl stRowM encC_len encC_one rfl hN9.own rfl hp (by have := hcln.out; have := hol.out; simp; omega) (by have := hcln.out; have := hol.out; simp; omega) (by simp) ?_; intro v8 w8 hown8 hgrow8 hat8 hnil8; have hB8 := hB9.grown hgrow8 (fun e => hARb.out _ e rfl) hbo9; have s0 := hB8.cell (j := 1) rfl; have f0 := hB8.free (j := 1) (by simp); have hs8 := hgrow8.size; have hbo8 : bo < w8.heap.size := (by omega); obtain ⟨A8, c8, hv8, hc8, hm8⟩ := hown8.form; subst hv8)
              have hkg8 : Kg w8 (w8.setCell ⟨bo, 1, none⟩ (.slice A8 (css ++ [el]).length c8)) bo := (Kg.refl _ _).set (p := ⟨bo, 1, none⟩) (.inl rfl) _
              have hN8 := (hN9.snoc (S' := fun q => τ q ≠ 0 ∨ w4.heap.size ≤ q) (x := ⟨ts, bd⟩) hown8 hgrow8 hat8 T (fun q hq => ⟨.inl (by have := (hTj q hq).1; omega), fun e => by have h1 := hAR.out q e; have h2 := (hTj q hq).1; have h3 := hTup.out q (by omega); omega, Nat.lt_of_lt_of_le (hTj q hq).2.2 hs9⟩) (by rw [hel.out]; exact hoj.kp k9) (fun q hq => hq) (.inr (by omega))).kg hkg8 (fun h => by rcases h with h | h; exact h hτ; omega)
              have hB10 := hB8.set (j := 1) (by simp) (.slice A8 (css ++ [el]).length c8)
              simp only [List.set_cons_zero, List.set_cons_succ] at hB10
              have hkF := Kg.to_kp ((hkw.trans k9).grown hgrow8 hge.out) hkg8 (by have := hbw.out; omega)
              have hKF := hid (fun (q : Nat) (h1 : q < w4.heap.size) (h2 : q ≠ bo) (h3 : τ q ≠ 2) => show (w8.setCell ⟨bo, 1, none⟩ (.slice A8 (css ++ [el]).length c8)).heap[q]? = w4.heap[q]? from by
                rw [hkg8.block q (by omega) (fun e => h2 (by injection e)), hgrow8.block q (by omega) (fun e => by have := hAR.out q e.symm; omega), k9.block (by omega)]
                exact hK.out q h1 h2 h3)
              have hAR8 := hid (fun q (hq : (Value.slice A8 (css ++ [el]).length c8).ownBlock = some q) => show τ q = 2 ∨ w4.heap.size ≤ q from by
                rcases hat8 with h | h
                · exact hAR.out q (h ▸ hq)
                · rw [h] at hq
                  injection hq with hq
                  omega)
              have hsF := hkg8.size
              have e8 : (css ++ [el]).length = (out ++ [(⟨ts, bd⟩ : Row)]).length := by simp [hcln.out]
              have e9 : css.length + 1 = (out ++ [(⟨ts, bd⟩ : Row)]).length := by simp [hcln.out]
              rw [e8] at hB10 hN8 hkF hKF hAR8 hsF
              rw [e9]
              refine ⟨⟨k + 1, _, out ++ [⟨ts, bd⟩], A8, c8, by omega, by go_num, hB10, hN8, hAR8, HO2, hkF, by omega, hKF⟩, ?_⟩
              simp [intOf]; omega
          · have HF : Hid (out = s.rows ++ L) := hid (by rw [HO.out, List.take_of_length_le (by omega)])
            have g0 : decide ((k : Int) < (L.length : Int)) = false := decide_eq_false (by omega)
            have hRz := hR4.keep (hK.out (b + 1) (by omega) (by omega) (by omega))
            have hbxz := hbx.owS.step hzw4 (fun q hq hlt => hK.out q hlt (fun e => by have := hbt.out q hq; rw [e] at this; omega) (by have := hbt.out q hq; omega))
            have hgrz := hgr.step hzw4 (fun q hq hlt => hK.out q hlt (fun e => by rw [e] at hq; omega) (by omega))
            have hB9 := hBr.set (j := 3) (by simp) (.slice none 0 0)
            simp only [List.set_cons_zero, List.set_cons_succ] at hB9
            have hKg2 : Kg wr (wr.setCell ⟨bo, 3, none⟩ (.slice none 0 0)) bo := (Kg.refl _ _).set (.inl rfl) _
            have hR9 := hRz.kg hKg2 (by omega) (by omega)
            have hN9 := (hNr.kg hKg2 (fun h => by rcases h with h | h; exact h hτ; omega))
            have hbx9 := hbxz.kg hKg2 (fun h => by have := hbt.out _ h; omega)
            have hgr9 := hgrz.kg hKg2 (fun h => by omega)
            have hk9 := Kg.to_kp hkw hKg2 (by have := hbw.out; omega)
            have v3 := hBr.free (j := 3) (by simp)
            have hs9 := hKg2.size
            clear hBr hRz hbxz hgrz hNr
            go_upto_region 13 with (fail)
            clear y3 v3
            generalize wr.setCell ⟨bo, 3, none⟩ (.slice none 0 0) = w10 at *
            have hBF := hR9.set4 (.slice A1 s.box.length a1) (.slice AR out.length cR) (.slice A3 s.graphs.length a3) (.slice none 0 0)
            have hKg3 := Kg.set4 w10 (b + 1) (.slice A1 s.box.length a1) (.slice AR out.length cR) (.slice A3 s.graphs.length a3) (.slice none 0 0)
            have hNF := (hN9.kg hKg3 (fun h => by rcases h with h | h; exact h hτb; omega)).sl
            have hbxF := (hbx9.kg hKg3 (fun h => by have := hbt.out _ h; omega)).here.sl encRng_len
            have hgrF := (hgr9.kg hKg3 (fun h => by omega)).here
            have kF := Kg.to_kp hk9 hKg3 (by have := hbw.out; omega)
            have p0 := hB9.cell (j := 0) rfl
            have p1 := hB9.cell (j := 1) rfl
            have p2 := hB9.cell (j := 2) rfl
            have p3 := hB9.cell (j := 3) rfl
            have hbb1 : b + 1 < w10.heap.size := hR9.lt (by simp)
            have hbob : bo < w10.heap.size := hB9.lt (by simp)
            have f0 := hR9.free (j := 0) (by simp)
            have f1 := hR9.free (j := 1) (by simp)
            have f2 := hR9.free (j := 2) (by simp)
            have f3 := hR9.free (j := 3) (by simp)
            have y0 := hR9.cell (j := 0) rfl
            have y1 := hR9.cell (j := 1) rfl
            have y2 := hR9.cell (j := 2) rfl
            have y3 := hR9.cell (j := 3) rfl
            clear hR9 hB9 hKg3 hk9 hKg2 hN9 hbx9 hgr9
            go_wp2
            refine bodyPost_ret (results_cell_bx2 rfl _ _ (b + 1) [.slice A1 s.box.length a1, .slice AR out.length cR, .slice A3 s.graphs.length a3, .slice none 0 0] _ rfl hBF.range Try.underlying27 rfl (by kernel_rfl)) rfl ?_
            refine ⟨_, by rw [HN.out]; rfl, ?_, kF⟩
            rw [HN.out]
            rw [HF.out] at hNF hbxF hgrF ⊢
            exact ⟨_, _, _, _, _, _, _, _, rfl, hbxF, hNF, hgrF, Sl.nil _ _ _⟩
    · have HN : Hid (BranchR s x = (zSys, 2)) := hid (by unfold BranchR; rw [hV, if_pos rfl, if_neg hx])
      have hRx := hR1
      have kx := k1
      clear hV hR1
      by_cases h0 : x < 0
      · have e1 : decide (x < 0) = true := decide_eq_true h0
        have f0 := hRx.free (j := 0) (by simp)
        have f1 := hRx.free (j := 1) (by simp)
        have f2 := hRx.free (j := 2) (by simp)
        have f3 := hRx.free (j := 3) (by simp)
        have y0 := hRx.cell (j := 0) rfl
        have y1 := hRx.cell (j := 1) rfl
        have y2 := hRx.cell (j := 2) rfl
        have y3 := hRx.cell (j := 3) rfl
        have hBF := hRx.set4 (.slice none 0 0) (.slice none 0 0) (.slice none 0 0) (.slice none 0 0)
        have kF := Kg.to_kp kx (Kg.set4 w1 (b + 1) (.slice none 0 0) (.slice none 0 0) (.slice none 0 0) (.slice none 0 0)) (by have := hbw.out; omega)
        clear hRx hR
        go_wp2
        refine bodyPost_ret (results_cell_bx2 rfl _ _ (b + 1) [.slice none 0 0, .slice none 0 0, .slice none 0 0, .slice none 0 0] _ rfl hBF.range Try.underlying27 rfl (by kernel_rfl)) rfl ?_
        exact ⟨_, by rw [HN.out]; rfl, by rw [HN.out]; exact zSys_v _, kF⟩
      · have e1 : decide (x < 0) = false := decide_eq_false h0
        have e2 : decide ((s.cases.length : Int) ≤ x) = true := decide_eq_true (by omega)
        have f0 := hRx.free (j := 0) (by simp)
        have f1 := hRx.free (j := 1) (by simp)
        have f2 := hRx.free (j := 2) (by simp)
        have f3 := hRx.free (j := 3) (by simp)
        have y0 := hRx.cell (j := 0) rfl
        have y1 := hRx.cell (j := 1) rfl
        have y2 := hRx.cell (j := 2) rfl
        have y3 := hRx.cell (j := 3) rfl
        have hBF := hRx.set4 (.slice none 0 0) (.slice none 0 0) (.slice none 0 0) (.slice none 0 0)
        have kF := Kg.to_kp kx (Kg.set4 w1 (b + 1) (.slice none 0 0) (.slice none 0 0) (.slice none 0 0) (.slice none 0 0)) (by have := hbw.out; omega)
        clear hRx hR
        go_wp2
        refine bodyPost_ret (results_cell_bx2 rfl _ _ (b + 1) [.slice none 0 0, .slice none 0 0, .slice none 0 0, .slice none 0 0] _ rfl hBF.range Try.underlying27 rfl (by kernel_rfl)) rfl ?_
        exact ⟨_, by rw [HN.out]; rfl, by rw [HN.out]; exact zSys_v _, kF⟩
end Go.Proofs.Ytlbhidiliogflaa
