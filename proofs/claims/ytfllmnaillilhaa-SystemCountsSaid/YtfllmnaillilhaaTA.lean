/-
The reference of systems: divisors, normal rows, equal terms, copies of rows.
The reference's normal row: the walk.
-/
import Derived.Test.YtfllmnaillilhaaSE
namespace Go.Proofs.Ytfllmnaillilhaa
set_option linter.unusedSimpArgs false
set_option linter.unusedVariables false
open Go.RowKit

set_option maxHeartbeats 1000000 in
theorem qDivisor_go : ∀ (n : Nat) (a b : Int) (w : World), 0 ≤ a → a ≤ 1000000 → 0 ≤ b → b ≤ 1000000 → b.natAbs ≤ n →
    Calls Try.prog 39 #[.int .i64 a, .int .i64 b] w fun e w' => e = .returned (.int .i64 (gcdI a b)) ∧ Kp w w'
  | n, a, b, w, ha1, ha2, hb1, hb2, hn => by
    by_cases hb : b = 0
    · subst hb
      have HE : Hid (gcdI a 0 = a) := hid (by unfold gcdI; rw [Int.gcd_zero_right]; omega)
      go_enter Try.func39, Try.ntmps39
      go_wp2
      go_ret
      exact ⟨ret_int HE.out.symm, Kp.refl _⟩
    · have hm := tmod_bd a b hb
      have hm0 := Int.tmod_nonneg b ha1
      cases n with
      | zero => omega
      | succ n =>
        have HI := hid (fun w => qDivisor_go n b (a.tmod b) w hb1 hb2 hm0 (by omega) (by omega))
        have HE : Hid (gcdI a b = gcdI b (a.tmod b)) := hid (by unfold gcdI; rw [gcd_step a b hb])
        have e1 : (b == 0) = false := by simpa using hb
        have hw : IntKind.i64.wrap (a.tmod b) = a.tmod b := IntWalk.i64_in _ (by omega)
        generalize hmm : a.tmod b = m at *
        go_enter Try.func39, Try.ntmps39
        go_wp2_with fail
        refine (HI.out _).mono ?_
        rintro e w1 ⟨rfl, k1⟩
        clear hmm hw
        rw [← HE.out]
        generalize hgg : gcdI a b = gg
        have Hgg := hid hgg
        clear hgg
        go_wp2
        go_ret
        exact ⟨ret_int Hgg.out.symm, k1⟩
theorem qDivisor_any (a b : Int) (w : World) (ha1 : 0 ≤ a) (ha2 : a ≤ 1000000) (hb1 : 0 ≤ b) (hb2 : b ≤ 1000000) :
    Calls Try.prog 39 #[.int .i64 a, .int .i64 b] w fun e w' => e = .returned (.int .i64 (gcdI a b)) ∧ Kp w w' := qDivisor_go b.natAbs a b w ha1 ha2 hb1 hb2 (Nat.le_refl _)
set_option maxRecDepth 8000 in
set_option maxHeartbeats 2000000 in
theorem qTerms_any (va vb : Value) (a b : List Term) (x y : Int) (w : World) (ha : Terms w va a) (hb : Terms w vb b) :
    Calls Try.prog 15 #[.agg #[va, .int .i64 x], .agg #[vb, .int .i64 y]] w fun e w' => e = .returned (.bool (eqT a b)) ∧ Kp w w' := by
  obtain ⟨A, c, rfl, hc, hm⟩ := ha.form
  obtain ⟨A', c', rfl, hc', hm'⟩ := hb.form
  have k0 := ((Kp.refl w).alloc (.cells #[.slice A a.length c, .int .i64 x] 30)).alloc (.cells #[.slice A' b.length c', .int .i64 y] 30)
  have a0 := ((Kp.refl _).alloc (.cells #[.slice A' b.length c', .int .i64 y] 30)).cellS (alloc_cell w #[.slice A a.length c, .int .i64 x] 30 0 rfl)
  have b0 := alloc_cell (w.alloc (.cells #[.slice A a.length c, .int .i64 x] 30)) #[.slice A' b.length c', .int .i64 y] 30 0 rfl
  rw [World.size_alloc] at b0
  by_cases hl : a.length = b.length
  · have HL := hid hl
    have l2 : (a.length != b.length) = false := by simp [hl]
    have l3 : ((a.length : Int) == (b.length : Int)) = true := by simp [hl]
    have l5 : ((a.length : Int) != (b.length : Int)) = false := by simp [hl]
    have l4 : a.length ≤ b.length := by omega
    clear hl
    go_enter Try.func15, Try.ntmps15
    go_wp2
    generalize (w.alloc (.cells #[.slice A a.length c, .int .i64 x] 30)).alloc (.cells #[.slice A' b.length c', .int .i64 y] 30) = w0 at *
    generalize w.heap.size + 1 = p2 at *
    generalize w.heap.size = p1 at *
    go_loopw [5] (fun i wr => ∃ k : Nat, k ≤ a.length ∧ i = .int .i64 k ∧ Hid (sameT a b = sameT (a.drop k) (b.drop k)) ∧ Kp w0 wr) (fun i _ => a.length - (intOf i).toNat)
    case atStart => exact ⟨0, Nat.zero_le _, rfl, rfl, Kp.refl _⟩
    case round =>
      obtain ⟨k, hk, rfl, HB, hbel⟩ := hrel
      have kk := k0.trans hbel
      have d0 := hbel.cellS a0
      have d1 := hbel.cellS b0
      have z0 := block_lt_of_cell d0
      have z1 := block_lt_of_cell d1
      by_cases hlt : k < a.length
      · have hlt' : k < b.length := by omega
        obtain ⟨g, o, rfl, hg, h1', h2'⟩ := ha.term hlt
        obtain ⟨g', o', rfl, hg', h3', h4'⟩ := hb.term hlt'
        have h1 := kk.cellS h1'
        have h2 := kk.cellS h2'
        have h3 := kk.cellS h3'
        have h4 := kk.cellS h4'
        have y1 := block_lt_of_cell h1
        have y2 := block_lt_of_cell h3
        have HD := hid (List.drop_eq_getElem_cons hlt)
        have HE := hid (List.drop_eq_getElem_cons hlt')
        clear ha hb h1' h2' h3' h4' a0 b0
        generalize a[k] = r at *
        generalize b[k] = s at *
        obtain ⟨r1, r2⟩ := r
        obtain ⟨s1, s2⟩ := s
        dsimp only at h1 h2 h3 h4
        have q1 : (0 : Int) ≤ k := by omega
        have q2 : (k : Int) < a.length := by omega
        have q3 : (k : Int) < b.length := by omega
        have hneq := fun W a' b' c' d' => run_neq_term W a' b' c' d'
        cases hx : termNe r1 r2 s1 s2 with
        | true =>
          have HF : Hid (eqT a b = false) := hid (by unfold eqT; rw [HB.out, HD.out, HE.out, sameT, if_pos hx]; simp)
          go_wp2
          go_quiet (fail)
          go_wp2
          go_ret
          exact ⟨ret_bool HF.out.symm, kk.drewN _⟩
        | false =>
          have HF : Hid (sameT a b = sameT (a.drop (k + 1)) (b.drop (k + 1))) := hid (by rw [HB.out, HD.out, HE.out, sameT, if_neg (by rw [hx]; simp)])
          go_wp2
          go_quiet (fail)
          go_wp2
          go_roundw
          case rel => exact ⟨k + 1, by omega, by go_num, HF, hbel.drewN _⟩
          case measure => simp [intOf]; omega
      · have HF : Hid (eqT a b = true) := hid (by unfold eqT; rw [HB.out, HL.out, decide_eq_true rfl, List.drop_of_length_le (by omega)]; simp [sameT])
        go_wp2
        go_ret
        exact ⟨ret_bool HF.out.symm, kk⟩
  · have l1 : (a.length == b.length) = false := by simpa using hl
    have l2 : (a.length != b.length) = true := by simpa using hl
    have l3 : ((a.length : Int) == (b.length : Int)) = false := by simp; omega
    have l4 : ((a.length : Int) != (b.length : Int)) = true := by simp; omega
    have HF : Hid (eqT a b = false) := hid (by unfold eqT; rw [decide_eq_false hl]; rfl)
    clear hl
    go_enter Try.func15, Try.ntmps15
    go_wp2
    go_ret
    exact ⟨ret_bool HF.out.symm, k0⟩
theorem gcdI_abs (g f : Int) : gcdI g (max f (-f)) = gcdI g f := by
  unfold gcdI Int.gcd
  congr 2
  omega
set_option maxRecDepth 8000 in
set_option maxHeartbeats 8000000 in
theorem qCopy_any (vt : Value) (ts : List Term) (bd : Int) (w : World) (ht : Terms w vt ts) (hl : ts.length ≤ 1000000) :
    Calls Try.prog 80 #[.agg #[vt, .int .i64 bd]] w fun e w' => ∃ v, e = .returned (.agg #[v, .int .i64 bd]) ∧ Own encTerm 49 2 w.heap.size w' v ts ∧ Kp w w' := by
  obtain ⟨A, c, rfl, hc, hm⟩ := ht.form
  have k0 := (((Kp.refl w).alloc (.cells #[.slice A ts.length c, .int .i64 bd] 30)).alloc (.cells #[.slice none 0 0, .int .i64 0] 30)).alloc (.cells #[.slice none 0 0, .int .i64 bd] 30)
  have c0 := (((Kp.refl _).alloc (.cells #[.slice none 0 0, .int .i64 0] 30)).alloc (.cells #[.slice none 0 0, .int .i64 bd] 30)).cellS (alloc_cell w #[.slice A ts.length c, .int .i64 bd] 30 0 rfl)
  have hR := (Bx.new (w.alloc (.cells #[.slice A ts.length c, .int .i64 bd] 30)) #[.slice none 0 0, .int .i64 0] 30).kp ((Kp.refl _).alloc (.cells #[.slice none 0 0, .int .i64 bd] 30)) (by simp)
  have hB := Bx.new ((w.alloc (.cells #[.slice A ts.length c, .int .i64 bd] 30)).alloc (.cells #[.slice none 0 0, .int .i64 0] 30)) #[.slice none 0 0, .int .i64 bd] 30
  have hz : (((w.alloc (.cells #[.slice A ts.length c, .int .i64 bd] 30)).alloc (.cells #[.slice none 0 0, .int .i64 0] 30)).alloc (.cells #[.slice none 0 0, .int .i64 bd] 30)).heap.size = w.heap.size + 3 := by simp
  rw [World.size_alloc] at hR
  have hbz : ((w.alloc (.cells #[.slice A ts.length c, .int .i64 bd] 30)).alloc (.cells #[.slice none 0 0, .int .i64 0] 30)).heap.size = w.heap.size + 2 := by simp
  rw [hbz] at hB
  go_enter Try.func80, Try.ntmps80
  go_wp2
  generalize ((w.alloc (.cells #[.slice A ts.length c, .int .i64 bd] 30)).alloc (.cells #[.slice none 0 0, .int .i64 0] 30)).alloc (.cells #[.slice none 0 0, .int .i64 bd] 30) = w0 at *
  generalize hbw : w.heap.size = b at *
  replace hbw := hid hbw
  have hz2 : b + 2 < w0.heap.size := by omega
  have g01 : b < b + 2 := by omega
  have g11 : b + 1 < b + 2 := by omega
  clear hz hbz
  generalize hbo : b + 2 = bo at *
  replace hbo := hid hbo
  go_loopw [4] (fun i wr => ∃ (k : Nat) (L : List Term) (v : Value), k ≤ ts.length ∧ i = .int .i64 k ∧ L.length ≤ k ∧ Bx wr (bo) [v, .int .i64 bd] ∧ Own encTerm 49 2 w0.heap.size wr v L ∧ Hid (L = ts.take k) ∧ Kg w0 wr (bo)) (fun i _ => ts.length - (intOf i).toNat)
  case atStart => exact ⟨0, [], _, Nat.zero_le _, rfl, Nat.le_refl _, hB, Own.nil _ _ _ _ _, hid (by simp), Kg.refl _ _⟩
  case round =>
    clear hB
    obtain ⟨k, L, v, hk, rfl, hLk, hBA, ownA, HL, hKA⟩ := hrel
    obtain ⟨A1, c1', rfl, hc1, hm1⟩ := ownA.form
    have kwr : Kp w wr := Kg.to_kp k0 hKA (by have := hbw.out; omega)
    have hsz := hKA.size
    have hbolA : bo < wr.heap.size := by omega
    have d0 := hKA.cellS c0 (by show b ≠ bo; omega)
    have hgl := block_lt_of_cell d0
    by_cases hlt : k < ts.length
    · obtain ⟨p, o, rfl, hp, h1, h2⟩ := (ht.keep (pl_stable _) kwr).term hlt
      have h1b := block_lt_of_cell h1
      have HT := hid (List.take_succ_eq_append_getElem hlt)
      have hq : p ≠ bo ∧ (Value.slice A1 L.length c1').ownBlock ≠ some p := by
        obtain ⟨p2, o2, hA, hp2, hp3, -⟩ := ht.term hlt
        injection hA with hA
        injection hA with e1 e2 _
        subst e1
        have := hbw.out
        exact ⟨by omega, fun e => by have := ownA.ge p e; omega⟩
      have hbq : (Value.slice A1 L.length c1').ownBlock ≠ some b := fun e => by have := ownA.ge b e; omega
      have HN2 : Hid (L ++ [ts[k]] = ts.take (k + 1)) := hid (by rw [HT.out, HL.out])
      clear c0
      generalize ts[k] = t at *
      obtain ⟨ce, fa⟩ := t
      dsimp only at h1 h2
      have q1 : (0 : Int) ≤ k := by omega
      have q2 : (k : Int) < ts.length := by omega
      go_wp2
      obtain ⟨wA, rfl⟩ : ∃ x : World, x = wr := ⟨_, rfl⟩
      have hSf : ∀ W : World, Bx W bo [.slice A1 L.length c1', .int .i64 bd] → wA.grownBy W (Value.slice A1 L.length c1').ownBlock → (W.cell? ⟨bo, 0, none⟩ = some (.slice A1 L.length c1') ∧ W.frozen? ⟨bo, 0, none⟩ = false ∧ W.cell? ⟨b, 0, none⟩ = some (.slice (some ⟨p, o, none⟩) ts.length c) ∧ W.cell? ⟨p, o + k * 2, none⟩ = some (.int .i64 ce) ∧ W.cell? ⟨p, o + k * 2 + 1, none⟩ = some (.int .i64 fa)) := fun W h g => ⟨h.cell (j := 0) rfl, h.free (j := 0) (by simp), (World.cell?_of_block (g.block b hgl (fun e => hbq e.symm))).trans d0, (World.cell?_of_block (g.block p h1b (fun e => hq.2 e.symm))).trans h1, (World.cell?_of_block (g.block p h1b (fun e => hq.2 e.symm))).trans h2⟩
      refine beginT 10 (S := fun W => W.cell? ⟨bo, 0, none⟩ = some (.slice A1 L.length c1') ∧ W.frozen? ⟨bo, 0, none⟩ = false ∧ W.cell? ⟨b, 0, none⟩ = some (.slice (some ⟨p, o, none⟩) ts.length c) ∧ W.cell? ⟨p, o + k * 2, none⟩ = some (.int .i64 ce) ∧ W.cell? ⟨p, o + k * 2 + 1, none⟩ = some (.int .i64 fa)) (by kernel_rfl) (hSf _ (hBA.keep rfl) ((Kp.refl _).drew.gb _)) (fun hHeld => ?_)
      refine take_atT 0 15 (v := ?_) rfl rfl (by kernel_rfl) (by kernel_rfl) (by kernel_rfl) (by kernel_rfl) (by kernel_rfl) (fun _ _ _ h => h) hHeld (Or.inl ⟨by kernel_rfl, ?_⟩) ?_
      rotate_left
      · intro w hSw; (try dsimp only at hSw); go_simp; try with_reducible rfl
      simp only [Act.put, List.setIfInBounds_toArray, List.set_cons_zero, List.set_cons_succ]
      refine take_atT 1 16 (v := ?_) rfl rfl (by kernel_rfl) (by kernel_rfl) (by kernel_rfl) (by kernel_rfl) (by kernel_rfl) (fun _ _ _ h => h) hHeld (Or.inl ⟨by kernel_rfl, ?_⟩) ?_
      rotate_left
      · intro w hSw; (try dsimp only at hSw); go_simp; try with_reducible rfl
      simp only [Act.put, List.setIfInBounds_toArray, List.set_cons_zero, List.set_cons_succ]
      refine take_atT 2 17 (v := ?_) rfl rfl (by kernel_rfl) (by kernel_rfl) (by kernel_rfl) (by kernel_rfl) (by kernel_rfl) (fun _ _ _ h => h) hHeld (Or.inl ⟨by kernel_rfl, ?_⟩) ?_
      rotate_left
      · intro w hSw; (try dsimp only at hSw); go_simp; try with_reducible rfl
      simp only [Act.put, List.setIfInBounds_toArray, List.set_cons_zero, List.set_cons_succ]
      refine take_atT 3 18 (v := ?_) rfl rfl (by kernel_rfl) (by kernel_rfl) (by kernel_rfl) (by kernel_rfl) (by kernel_rfl) (fun _ _ _ h => h) hHeld (Or.inl ⟨by kernel_rfl, ?_⟩) ?_
      rotate_left
      · intro w hSw; (try dsimp only at hSw); go_simp; try with_reducible rfl
      simp only [Act.put, List.setIfInBounds_toArray, List.set_cons_zero, List.set_cons_succ]
      refine take_atT 4 19 (v := ?_) rfl rfl (by kernel_rfl) (by kernel_rfl) (by kernel_rfl) (by kernel_rfl) (by kernel_rfl) (fun _ _ _ h => h) hHeld (Or.inl ⟨by kernel_rfl, ?_⟩) ?_
      rotate_left
      · intro w hSw; (try dsimp only at hSw); go_simp; try with_reducible rfl
      simp only [Act.put, List.setIfInBounds_toArray, List.set_cons_zero, List.set_cons_succ]
      refine take_atT 5 20 (v := ?_) rfl rfl (by kernel_rfl) (by kernel_rfl) (by kernel_rfl) (by kernel_rfl) (by kernel_rfl) (fun _ _ _ h => h) hHeld (Or.inl ⟨by kernel_rfl, ?_⟩) ?_
      rotate_left
      · intro w hSw; (try dsimp only at hSw); go_simp; try with_reducible rfl
      simp only [Act.put, List.setIfInBounds_toArray, List.set_cons_zero, List.set_cons_succ]
      refine take_atT 6 21 (v := ?_) rfl rfl (by kernel_rfl) (by kernel_rfl) (by kernel_rfl) (by kernel_rfl) (by kernel_rfl) (fun _ _ _ h => h) hHeld (Or.inl ⟨by kernel_rfl, ?_⟩) ?_
      rotate_left
      · intro w hSw; (try dsimp only at hSw); go_simp; try with_reducible rfl
      simp only [Act.put, List.setIfInBounds_toArray, List.set_cons_zero, List.set_cons_succ]
      refine stepT (i := 7) (o := _) (by kernel_rfl) rfl (fun K hK => ?_)
      go_simp
      have kC := ((Kp.refl wA).alloc (.cells #[.int .i64 ce, .int .i64 fa] 49)).drew
      have hBC := hBA.kp kC hbolA
      have ownC := ownA.kp kC
      have sC := (litT wA 49 ⟨ce, fa⟩).keep (pl_stable _) ((Kp.refl (wA.alloc (.cells #[.int .i64 ce, .int .i64 fa] 49))).drew)
      have hKC := hKA.trans (kC.kg bo)
      have hgC := kC.gb (Value.slice A1 L.length c1').ownBlock
      have zC := kC.size
      have zK := hKC.size
      refine hK.out _ _ (hSf _ hBC hgC) (fun hHeld2 => ?_)
      clear hK K hHeld
      have hHeld := hHeld2
      clear hHeld2
      clear hBA ownA hKA kC
      generalize (wA.alloc (.cells #[.int .i64 ce, .int .i64 fa] 49)).drew = wC at *
      refine stepT (i := 8) (o := _) (by kernel_rfl) rfl (fun K hK => ?_)
      refine step_append4 rfl (.tmp 16) (.tmp 22) rfl stTermM encTerm_len encTerm_one rfl ownC rfl sC (by simp; omega) (by simp; omega) (by omega) ?_
      intro v4 w4 hown4 hgrow4 hat4
      have hob := ownC.ge
      have hBD := hBC.grown hgrow4 (fun e => by have := hob bo e; omega) (by omega)
      have hKD := hKC.grown hgrow4 hob
      have hgD := World.grownBy.trans hgC hgrow4
      refine hK.out _ _ (hSf _ hBD hgD) (fun hHeld2 => ?_)
      clear hK K hHeld
      have hHeld := hHeld2
      clear hHeld2
      refine stepT (i := 9) (o := _) (by kernel_rfl) rfl (fun K hK => ?_)
      go_simp
      refine hK.out _ _ hHeld (fun hHeld2 => ?_)
      clear hK K hHeld
      have hHeld := hHeld2
      clear hHeld2
      have hBE := hBD.set (j := 0) (by simp) v4
      simp only [List.set_cons_zero, List.set_cons_succ] at hBE
      have hKE := hKD.set (p := ⟨bo, 0, none⟩) (.inl rfl) v4
      have hown5 := hown4.kg ((Kg.refl w4 bo).set (p := ⟨bo, 0, none⟩) (.inl rfl) v4) hz2
      obtain ⟨A4, c4, hv4, hc4, hm4⟩ := hown5.form
      clear hBC hBD hown4 hgrow4 hat4 ownC sC hKC hKD hSf hgC hgD hob
      obtain ⟨hc8, hf8, -⟩ := hHeld
      have hlen4 : (L ++ [(⟨ce, fa⟩ : Term)]).length ≤ k + 1 := by simp; omega
      generalize L ++ [(⟨ce, fa⟩ : Term)] = L4 at *
      subst hv4
      refine lastT (o := _) (by kernel_rfl) rfl (fun K hK => ?_)
      go_simp
      refine hK.out _ _ ?_
      clear hK K
      refine doneT (by kernel_rfl) ?_ _
      go_wp2
      go_roundw
      case rel => exact ⟨k + 1, L4, _, by omega, by go_num, hlen4, hBE, hown5, HN2, hKE⟩
      case measure => simp [intOf]; omega
    · have HE : Hid (L = ts) := hid (by rw [HL.out, List.take_of_length_le (by omega)])
      have hbz2 := hR.kg hKA (by omega) (by omega)
      have hBF := hbz2.set2 (.slice A1 L.length c1') (.int .i64 bd)
      have q0 := hBA.cell (j := 0) rfl
      have q1 := hBA.cell (j := 1) rfl
      have s0 := hbz2.cell (j := 0) rfl
      have s1 := hbz2.cell (j := 1) rfl
      have r0 := hbz2.free (j := 0) (by simp)
      have r1 := hbz2.free (j := 1) (by simp)
      have hzr : b + 1 < wr.heap.size := by omega
      have hkf : Kp w ((wr.setCell ⟨b + 1, 0, none⟩ (.slice A1 L.length c1')).setCell ⟨b + 1, 1, none⟩ (.int .i64 bd)) := (kwr.set (p := ⟨b + 1, 0, none⟩) (by have := hbw.out; show w.heap.size ≤ b + 1; omega) _).set (p := ⟨b + 1, 1, none⟩) (by have := hbw.out; show w.heap.size ≤ b + 1; omega) _
      have hkg : Kg wr ((wr.setCell ⟨b + 1, 0, none⟩ (.slice A1 L.length c1')).setCell ⟨b + 1, 1, none⟩ (.int .i64 bd)) (b + 1) := ((Kg.refl _ _).set (p := ⟨b + 1, 0, none⟩) (.inl rfl) _).set (p := ⟨b + 1, 1, none⟩) (.inl rfl) _
      have hof := (ownA.kg hkg (by omega)).less (base' := w.heap.size) (by have := hbw.out; omega)
      clear hBA ownA c0
      go_wp2
      refine bodyPost_ret (results_cell_bx rfl _ _ (b + 1) [.slice A1 L.length c1', .int .i64 bd] _ rfl hBF.range Try.underlying30 rfl (by kernel_rfl)) rfl ⟨.slice A1 L.length c1', rfl, ?_, hkf⟩
      rw [← HE.out]
      exact hof
end Go.Proofs.Ytfllmnaillilhaa
namespace Go.Proofs.Ytfllmnaillilhaa
set_option linter.unusedSimpArgs false
set_option linter.unusedVariables false
open Go.RowKit

theorem gcdI_nn (a b : Int) : 0 ≤ gcdI a b := by unfold gcdI; omega
set_option maxRecDepth 8000 in
set_option maxHeartbeats 16000000 in
theorem qNormal_any (vt : Value) (ts : List Term) (bd : Int) (w : World) (ht : Terms w vt ts) :
    Calls Try.prog 12 #[.agg #[vt, .int .i64 bd]] w fun e w' => ∃ v, e = .returned (.tuple #[.agg #[v, .int .i64 (NormalR ⟨ts, bd⟩).1.bound], .bool (NormalR ⟨ts, bd⟩).2]) ∧ Own encTerm 49 2 w.heap.size w' v (NormalR ⟨ts, bd⟩).1.terms ∧ Kp w w' := by
  obtain ⟨A, c, rfl, hc, hm⟩ := ht.form
  have HF : Hid (NormalR ⟨ts, bd⟩ = if fitsB 128 ⟨ts, bd⟩ then (normR ⟨ts, bd⟩, true) else (⟨[], 0⟩, false)) := hid rfl
  have k0 := ((Kp.refl w).alloc (.cells #[.slice A ts.length c, .int .i64 bd] 30)).alloc (.cells #[.slice none 0 0, .int .i64 0] 30)
  have c0 := ((Kp.refl _).alloc (.cells #[.slice none 0 0, .int .i64 0] 30)).cellS (alloc_cell w #[.slice A ts.length c, .int .i64 bd] 30 0 rfl)
  have c1 := ((Kp.refl _).alloc (.cells #[.slice none 0 0, .int .i64 0] 30)).cellS (alloc_cell w #[.slice A ts.length c, .int .i64 bd] 30 1 rfl)
  have hR := Bx.new (w.alloc (.cells #[.slice A ts.length c, .int .i64 bd] 30)) #[.slice none 0 0, .int .i64 0] 30
  have hz : ((w.alloc (.cells #[.slice A ts.length c, .int .i64 bd] 30)).alloc (.cells #[.slice none 0 0, .int .i64 0] 30)).heap.size = w.heap.size + 2 := by simp
  rw [World.size_alloc] at hR
  have ht0 := ht.keep (pl_stable _) k0
  go_enter Try.func12, Try.ntmps12
  go_wp2_with fail
  generalize (w.alloc (.cells #[.slice A ts.length c, .int .i64 bd] 30)).alloc (.cells #[.slice none 0 0, .int .i64 0] 30) = w0 at *
  generalize hbw : w.heap.size = b at *
  replace hbw := hid hbw
  have hzb : b + 1 < w0.heap.size := by omega
  clear hz
  refine (rRow_any 128 _ ts bd _ ht0).mono ?_
  rintro e wx ⟨rfl, kx⟩
  have d0 := kx.cellS c0
  have d1 := kx.cellS c1
  have hgl := block_lt_of_cell d0
  cases hf : fitsB 128 ⟨ts, bd⟩ with
  | false =>
    have HN : Hid (NormalR ⟨ts, bd⟩ = (⟨[], 0⟩, false)) := hid (by rw [HF.out, hf]; rfl)
    clear hf
    have hbz2 := hR.kp kx (by omega)
    have hBF := hbz2.set2 (.slice none 0 0) (.int .i64 0)
    have s0 := hbz2.cell (j := 0) rfl
    have s1 := hbz2.cell (j := 1) rfl
    have r0 := hbz2.free (j := 0) (by simp)
    have r1 := hbz2.free (j := 1) (by simp)
    have hzr : b + 1 < wx.heap.size := by have := kx.size; omega
    have hkf : Kp w ((wx.setCell ⟨b + 1, 0, none⟩ (.slice none 0 0)).setCell ⟨b + 1, 1, none⟩ (.int .i64 0)) := ((k0.trans kx).set (p := ⟨b + 1, 0, none⟩) (by have := hbw.out; show w.heap.size ≤ b + 1; omega) _).set (p := ⟨b + 1, 1, none⟩) (by have := hbw.out; show w.heap.size ≤ b + 1; omega) _
    clear hR hbz2
    go_wp2
    refine bodyPost_ret (results_cell_bx2 rfl _ _ (b + 1) [.slice none 0 0, .int .i64 0] _ rfl hBF.range Try.underlying30 rfl (by kernel_rfl)) rfl ⟨.slice none 0 0, by rw [HN.out]; rfl, ?_, hkf⟩
    rw [HN.out]
    exact Own.nil _ _ _ _ _
  | true =>
    have HN0 : Hid (NormalR ⟨ts, bd⟩ = (normR ⟨ts, bd⟩, true)) := hid (by rw [HF.out, hf]; rfl)
    have hsm := normal_small hf
    obtain ⟨-, fl, fb1, fb2⟩ := fitsB_ok (n := 128) hf
    dsimp only at fl fb1 fb2 hsm
    have HOK := hid hsm
    clear hf hsm
    by_cases hn : ts.length = 0
    · have hts : ts = [] := List.eq_nil_of_length_eq_zero hn
      have e1 : ((ts.length : Int) == 0) = true := by rw [hn]; rfl
      by_cases hneg : bd < 0
      · have e2 : decide (bd < 0) = true := decide_eq_true hneg
        have HN : Hid (NormalR ⟨ts, bd⟩ = (⟨[], -1⟩, true)) := hid (by rw [HN0.out]; unfold normR; rw [if_pos hts]; simp; omega)
        clear hn hts
        have hbz2 := hR.kp kx (by omega)
        have hBF := hbz2.set2 (.slice none 0 0) (.int .i64 (-1))
        have s0 := hbz2.cell (j := 0) rfl
        have s1 := hbz2.cell (j := 1) rfl
        have r0 := hbz2.free (j := 0) (by simp)
        have r1 := hbz2.free (j := 1) (by simp)
        have hzr : b + 1 < wx.heap.size := by have := kx.size; omega
        have hkf : Kp w ((wx.setCell ⟨b + 1, 0, none⟩ (.slice none 0 0)).setCell ⟨b + 1, 1, none⟩ (.int .i64 (-1))) := ((k0.trans kx).set (p := ⟨b + 1, 0, none⟩) (by have := hbw.out; show w.heap.size ≤ b + 1; omega) _).set (p := ⟨b + 1, 1, none⟩) (by have := hbw.out; show w.heap.size ≤ b + 1; omega) _
        clear hR hbz2
        go_wp2
        refine bodyPost_ret (results_cell_bx2 rfl _ _ (b + 1) [.slice none 0 0, .int .i64 (-1)] _ rfl hBF.range Try.underlying30 rfl (by kernel_rfl)) rfl ⟨.slice none 0 0, by rw [HN.out]; rfl, ?_, hkf⟩
        rw [HN.out]
        exact Own.nil _ _ _ _ _
      · have e2 : decide (bd < 0) = false := decide_eq_false hneg
        have HN : Hid (NormalR ⟨ts, bd⟩ = (⟨[], 0⟩, true)) := hid (by rw [HN0.out]; unfold normR; rw [if_pos hts]; simp; omega)
        clear hn hts
        have hbz2 := hR.kp kx (by omega)
        have hBF := hbz2.set2 (.slice none 0 0) (.int .i64 0)
        have s0 := hbz2.cell (j := 0) rfl
        have s1 := hbz2.cell (j := 1) rfl
        have r0 := hbz2.free (j := 0) (by simp)
        have r1 := hbz2.free (j := 1) (by simp)
        have hzr : b + 1 < wx.heap.size := by have := kx.size; omega
        have hkf : Kp w ((wx.setCell ⟨b + 1, 0, none⟩ (.slice none 0 0)).setCell ⟨b + 1, 1, none⟩ (.int .i64 0)) := ((k0.trans kx).set (p := ⟨b + 1, 0, none⟩) (by have := hbw.out; show w.heap.size ≤ b + 1; omega) _).set (p := ⟨b + 1, 1, none⟩) (by have := hbw.out; show w.heap.size ≤ b + 1; omega) _
        clear hR hbz2
        go_wp2
        refine bodyPost_ret (results_cell_bx2 rfl _ _ (b + 1) [.slice none 0 0, .int .i64 0] _ rfl hBF.range Try.underlying30 rfl (by kernel_rfl)) rfl ⟨.slice none 0 0, by rw [HN.out]; rfl, ?_, hkf⟩
        rw [HN.out]
        exact Own.nil _ _ _ _ _
    · have hne : ts ≠ [] := fun h => hn (by rw [h]; rfl)
      have HN : Hid (NormalR ⟨ts, bd⟩ = (⟨ts.map (divT (gcdL 0 ts)), bd / gcdL 0 ts⟩, true)) := hid (by rw [HN0.out]; unfold normR; rw [if_neg hne])
      obtain ⟨g1, g2, g3⟩ := gcdL_bd ts 0 (by omega) (by omega) (fun t h => HOK.out t h)
      replace g3 := g3 hne
      have e1 : ((ts.length : Int) == 0) = false := by simpa using hn
      clear hn hne HN0 HF
      have kw0 := k0.trans kx
      replace hR := hR.kp kx hzb
      have hzbx : b + 1 < wx.heap.size := by have := kx.size; omega
      clear c0 c1 k0
      go_wp2
      generalize hG : gcdL 0 ts = G at *
      replace hG := hid hG
      go_loopw [4, 5] (fun v i wr => ∃ (k : Nat) (g : Int), k ≤ ts.length ∧ i = .int .i64 k ∧ v = .int .i64 g ∧ 0 ≤ g ∧ g ≤ 1000 ∧ Hid (G = gcdL g (ts.drop k)) ∧ Kp wx wr) (fun _ i _ => ts.length - (intOf i).toNat)
      case atStart => exact ⟨0, 0, Nat.zero_le _, rfl, rfl, by omega, by omega, hG.out.symm, Kp.refl _⟩
      case round =>
        obtain ⟨k, g, hk, rfl, rfl, hg1, hg2, HG, hkr⟩ := hrel
        have kk := kw0.trans hkr
        have f0 := hkr.cellS d0
        have f1 := hkr.cellS d1
        have hd := block_lt_of_cell f0
        by_cases hlt : k < ts.length
        · obtain ⟨q, o, rfl, hq, h1, h2⟩ := (ht.keep (pl_stable _) kk).term hlt
          have HD := hid (List.drop_eq_getElem_cons hlt)
          obtain ⟨fa1, fa2, fa3⟩ := HOK.out ts[k] (List.getElem_mem hlt)
          clear d0 d1
          generalize ts[k] = t at *
          obtain ⟨ce, fa⟩ := t
          dsimp only at h1 h2 fa1 fa2 fa3
          obtain ⟨p1, p2⟩ := gcdI_bd g fa fa1 fa2 fa3
          have HF2 : Hid (G = gcdL (gcdI g fa) (ts.drop (k + 1))) := hid (by rw [HG.out, HD.out, gcdL])
          have hab := hid (gcdI_abs g fa)
          have z1 : (0 : Int) ≤ k := by omega
          have z2 : (k : Int) < ts.length := by omega
          by_cases hmx : fa < -fa
          · have hm2 : max fa (-fa) = -fa := by omega
            rw [hm2] at hab
            have hw : IntKind.i64.wrap (-fa) = -fa := IntWalk.i64_in _ (by omega)
            go_wp2
            have hSf : ∀ W, Kp wr W → (W.cell? ⟨b, 0, none⟩ = some (.slice (some ⟨q, o, none⟩) ts.length c) ∧ W.cell? ⟨q, o + k * 2 + 1, none⟩ = some (.int .i64 fa) ∧ Kp wr W) := fun W hk => ⟨hk.cellS f0, hk.cellS h2, hk⟩
            refine wp_region_held_drew (S := fun W => W.cell? ⟨b, 0, none⟩ = some (.slice (some ⟨q, o, none⟩) ts.length c) ∧ W.cell? ⟨q, o + k * 2 + 1, none⟩ = some (.int .i64 fa) ∧ Kp wr W) (by kernel_rfl) (hSf _ (Kp.refl _).drew) (fun hHeld => ?_)
            refine take_at 0 28 (v := ?_) rfl rfl (by kernel_rfl) (by kernel_rfl) (by kernel_rfl) (fun _ _ _ h => h) hHeld (Or.inl ⟨by kernel_rfl, ?_⟩) ?_
            rotate_left
            · intro w hSw; (try dsimp only at hSw); go_simp; try with_reducible rfl
            simp only [Act.put, List.setIfInBounds_toArray, List.set_cons_zero, List.set_cons_succ]
            refine take_at 1 29 (v := ?_) rfl rfl (by kernel_rfl) (by kernel_rfl) (by kernel_rfl) (fun _ _ _ h => h) hHeld (Or.inl ⟨by kernel_rfl, ?_⟩) ?_
            rotate_left
            · intro w hSw; (try dsimp only at hSw); go_simp; try with_reducible rfl
            simp only [Act.put, List.setIfInBounds_toArray, List.set_cons_zero, List.set_cons_succ]
            refine take_at 2 30 (v := ?_) rfl rfl (by kernel_rfl) (by kernel_rfl) (by kernel_rfl) (fun _ _ _ h => h) hHeld (Or.inl ⟨by kernel_rfl, ?_⟩) ?_
            rotate_left
            · intro w hSw; (try dsimp only at hSw); go_simp; try with_reducible rfl
            simp only [Act.put, List.setIfInBounds_toArray, List.set_cons_zero, List.set_cons_succ]
            refine take_at 3 31 (v := ?_) rfl rfl (by kernel_rfl) (by kernel_rfl) (by kernel_rfl) (fun _ _ _ h => h) hHeld (Or.inl ⟨by kernel_rfl, ?_⟩) ?_
            rotate_left
            · intro w hSw; (try dsimp only at hSw); go_simp; try with_reducible rfl
            simp only [Act.put, List.setIfInBounds_toArray, List.set_cons_zero, List.set_cons_succ]
            refine take_at 4 32 (v := ?_) rfl rfl (by kernel_rfl) (by kernel_rfl) (by kernel_rfl) (fun _ _ _ h => h) hHeld (Or.inl ⟨by kernel_rfl, ?_⟩) ?_
            rotate_left
            · intro w hSw; (try dsimp only at hSw); go_simp; try with_reducible rfl
            simp only [Act.put, List.setIfInBounds_toArray, List.set_cons_zero, List.set_cons_succ]
            refine take_at 5 33 (v := ?_) rfl rfl (by kernel_rfl) (by kernel_rfl) (by kernel_rfl) (fun _ _ _ h => h) hHeld (Or.inl ⟨by kernel_rfl, ?_⟩) ?_
            rotate_left
            · intro w hSw; (try dsimp only at hSw); go_simp; try with_reducible rfl
            simp only [Act.put, List.setIfInBounds_toArray, List.set_cons_zero, List.set_cons_succ]
            refine take_at 6 34 (v := ?_) rfl rfl (by kernel_rfl) (by kernel_rfl) (by kernel_rfl) (fun _ _ _ h => h) hHeld (Or.inl ⟨by kernel_rfl, ?_⟩) ?_
            rotate_left
            · intro w hSw; (try dsimp only at hSw); go_simp; try with_reducible rfl
            simp only [Act.put, List.setIfInBounds_toArray, List.set_cons_zero, List.set_cons_succ]
            refine take_at 7 35 (v := ?_) rfl rfl (by kernel_rfl) (by kernel_rfl) (by kernel_rfl) (fun _ _ _ h => h) hHeld (Or.inl ⟨by kernel_rfl, ?_⟩) ?_
            rotate_left
            · intro w hSw; (try dsimp only at hSw); go_simp; try with_reducible rfl
            simp only [Act.put, List.setIfInBounds_toArray, List.set_cons_zero, List.set_cons_succ]
            refine take_at 8 36 (v := ?_) rfl rfl (by kernel_rfl) (by kernel_rfl) (by kernel_rfl) (fun _ _ _ h => h) hHeld (Or.inl ⟨by kernel_rfl, ?_⟩) ?_
            rotate_left
            · intro w hSw; (try dsimp only at hSw); go_simp; try with_reducible rfl
            simp only [Act.put, List.setIfInBounds_toArray, List.set_cons_zero, List.set_cons_succ]
            refine take_at 9 37 (v := ?_) rfl rfl (by kernel_rfl) (by kernel_rfl) (by kernel_rfl) (fun _ _ _ h => h) hHeld (Or.inl ⟨by kernel_rfl, ?_⟩) ?_
            rotate_left
            · intro w hSw; (try dsimp only at hSw); go_simp; try with_reducible rfl
            simp only [Act.put, List.setIfInBounds_toArray, List.set_cons_zero, List.set_cons_succ]
            refine take_at 10 38 (v := ?_) rfl rfl (by kernel_rfl) (by kernel_rfl) (by kernel_rfl) (fun _ _ _ h => h) hHeld (Or.inl ⟨by kernel_rfl, ?_⟩) ?_
            rotate_left
            · intro w hSw; (try dsimp only at hSw); go_simp; try with_reducible rfl
            simp only [Act.put, List.setIfInBounds_toArray, List.set_cons_zero, List.set_cons_succ]
            refine take_at 11 39 (v := ?_) rfl rfl (by kernel_rfl) (by kernel_rfl) (by kernel_rfl) (fun _ _ _ h => h) hHeld (Or.inl ⟨by kernel_rfl, ?_⟩) ?_
            rotate_left
            · intro w hSw; (try dsimp only at hSw); go_simp; try with_reducible rfl
            simp only [Act.put, List.setIfInBounds_toArray, List.set_cons_zero, List.set_cons_succ]
            refine take_at 12 40 (v := ?_) rfl rfl (by kernel_rfl) (by kernel_rfl) (by kernel_rfl) (fun _ _ _ h => h) hHeld (Or.inl ⟨by kernel_rfl, ?_⟩) ?_
            rotate_left
            · intro w hSw; (try dsimp only at hSw); go_simp; try with_reducible rfl
            simp only [Act.put, List.setIfInBounds_toArray, List.set_cons_zero, List.set_cons_succ]
            refine take_at 13 41 (v := ?_) rfl rfl (by kernel_rfl) (by kernel_rfl) (by kernel_rfl) (fun _ _ _ h => h) hHeld (Or.inl ⟨by kernel_rfl, ?_⟩) ?_
            rotate_left
            · intro w hSw; (try dsimp only at hSw); go_simp; try with_reducible rfl
            simp only [Act.put, List.setIfInBounds_toArray, List.set_cons_zero, List.set_cons_succ]
            refine take_at 14 42 (v := ?_) rfl rfl (by kernel_rfl) (by kernel_rfl) (by kernel_rfl) (fun _ _ _ h => h) hHeld (Or.inl ⟨by kernel_rfl, ?_⟩) ?_
            rotate_left
            · intro w hSw; (try dsimp only at hSw); go_simp; try with_reducible rfl
            simp only [Act.put, List.setIfInBounds_toArray, List.set_cons_zero, List.set_cons_succ]
            clear hw
            refine wpAnyH_ready (rs := [15]) (by kernel_rfl) (by simp) ?_
            refine AllReadyH.cons (o := _) rfl (fun K hK => ?_) AllReadyH.nil
            go_simp
            skip
            refine (qDivisor_any g (-fa) _ (by omega) (by omega) (by omega) (by omega)).mono ?_
            rintro e w9 ⟨rfl, h9⟩
            rw [hab.out]
            refine hK.out _ _ (hSf _ (hHeld.2.2.trans h9)) (fun hHeld2 => ?_)
            clear hK K hHeld
            have hHeld := hHeld2
            clear hHeld2
            refine take_at 16 4 (v := ?_) rfl rfl (by kernel_rfl) (by kernel_rfl) (by kernel_rfl) (fun _ _ _ h => h) hHeld (Or.inl ⟨by kernel_rfl, ?_⟩) ?_
            rotate_left
            · intro w hSw; (try dsimp only at hSw); go_simp; try with_reducible rfl
            simp only [Act.put, List.setIfInBounds_toArray, List.set_cons_zero, List.set_cons_succ]
            refine wpAnyH_done (by kernel_rfl) ?_ _
            have kq := hkr.trans hHeld.2.2
            clear hHeld hSf f0 f1
            generalize gcdI g fa = g' at *
            go_wp2
            go_roundw
            case rel => exact ⟨k + 1, g', by omega, by go_num, rfl, by omega, p2, HF2, kq⟩
            case measure => simp [intOf]; omega
          · have hm2 : max fa (-fa) = fa := by omega
            rw [hm2] at hab
            have hw : IntKind.i64.wrap (-fa) = -fa := IntWalk.i64_in _ (by omega)
            go_wp2
            have hSf : ∀ W, Kp wr W → (W.cell? ⟨b, 0, none⟩ = some (.slice (some ⟨q, o, none⟩) ts.length c) ∧ W.cell? ⟨q, o + k * 2 + 1, none⟩ = some (.int .i64 fa) ∧ Kp wr W) := fun W hk => ⟨hk.cellS f0, hk.cellS h2, hk⟩
            refine wp_region_held_drew (S := fun W => W.cell? ⟨b, 0, none⟩ = some (.slice (some ⟨q, o, none⟩) ts.length c) ∧ W.cell? ⟨q, o + k * 2 + 1, none⟩ = some (.int .i64 fa) ∧ Kp wr W) (by kernel_rfl) (hSf _ (Kp.refl _).drew) (fun hHeld => ?_)
            refine take_at 0 28 (v := ?_) rfl rfl (by kernel_rfl) (by kernel_rfl) (by kernel_rfl) (fun _ _ _ h => h) hHeld (Or.inl ⟨by kernel_rfl, ?_⟩) ?_
            rotate_left
            · intro w hSw; (try dsimp only at hSw); go_simp; try with_reducible rfl
            simp only [Act.put, List.setIfInBounds_toArray, List.set_cons_zero, List.set_cons_succ]
            refine take_at 1 29 (v := ?_) rfl rfl (by kernel_rfl) (by kernel_rfl) (by kernel_rfl) (fun _ _ _ h => h) hHeld (Or.inl ⟨by kernel_rfl, ?_⟩) ?_
            rotate_left
            · intro w hSw; (try dsimp only at hSw); go_simp; try with_reducible rfl
            simp only [Act.put, List.setIfInBounds_toArray, List.set_cons_zero, List.set_cons_succ]
            refine take_at 2 30 (v := ?_) rfl rfl (by kernel_rfl) (by kernel_rfl) (by kernel_rfl) (fun _ _ _ h => h) hHeld (Or.inl ⟨by kernel_rfl, ?_⟩) ?_
            rotate_left
            · intro w hSw; (try dsimp only at hSw); go_simp; try with_reducible rfl
            simp only [Act.put, List.setIfInBounds_toArray, List.set_cons_zero, List.set_cons_succ]
            refine take_at 3 31 (v := ?_) rfl rfl (by kernel_rfl) (by kernel_rfl) (by kernel_rfl) (fun _ _ _ h => h) hHeld (Or.inl ⟨by kernel_rfl, ?_⟩) ?_
            rotate_left
            · intro w hSw; (try dsimp only at hSw); go_simp; try with_reducible rfl
            simp only [Act.put, List.setIfInBounds_toArray, List.set_cons_zero, List.set_cons_succ]
            refine take_at 4 32 (v := ?_) rfl rfl (by kernel_rfl) (by kernel_rfl) (by kernel_rfl) (fun _ _ _ h => h) hHeld (Or.inl ⟨by kernel_rfl, ?_⟩) ?_
            rotate_left
            · intro w hSw; (try dsimp only at hSw); go_simp; try with_reducible rfl
            simp only [Act.put, List.setIfInBounds_toArray, List.set_cons_zero, List.set_cons_succ]
            refine take_at 5 33 (v := ?_) rfl rfl (by kernel_rfl) (by kernel_rfl) (by kernel_rfl) (fun _ _ _ h => h) hHeld (Or.inl ⟨by kernel_rfl, ?_⟩) ?_
            rotate_left
            · intro w hSw; (try dsimp only at hSw); go_simp; try with_reducible rfl
            simp only [Act.put, List.setIfInBounds_toArray, List.set_cons_zero, List.set_cons_succ]
            refine take_at 6 34 (v := ?_) rfl rfl (by kernel_rfl) (by kernel_rfl) (by kernel_rfl) (fun _ _ _ h => h) hHeld (Or.inl ⟨by kernel_rfl, ?_⟩) ?_
            rotate_left
            · intro w hSw; (try dsimp only at hSw); go_simp; try with_reducible rfl
            simp only [Act.put, List.setIfInBounds_toArray, List.set_cons_zero, List.set_cons_succ]
            refine take_at 7 35 (v := ?_) rfl rfl (by kernel_rfl) (by kernel_rfl) (by kernel_rfl) (fun _ _ _ h => h) hHeld (Or.inl ⟨by kernel_rfl, ?_⟩) ?_
            rotate_left
            · intro w hSw; (try dsimp only at hSw); go_simp; try with_reducible rfl
            simp only [Act.put, List.setIfInBounds_toArray, List.set_cons_zero, List.set_cons_succ]
            refine take_at 8 36 (v := ?_) rfl rfl (by kernel_rfl) (by kernel_rfl) (by kernel_rfl) (fun _ _ _ h => h) hHeld (Or.inl ⟨by kernel_rfl, ?_⟩) ?_
            rotate_left
            · intro w hSw; (try dsimp only at hSw); go_simp; try with_reducible rfl
            simp only [Act.put, List.setIfInBounds_toArray, List.set_cons_zero, List.set_cons_succ]
            refine take_at 9 37 (v := ?_) rfl rfl (by kernel_rfl) (by kernel_rfl) (by kernel_rfl) (fun _ _ _ h => h) hHeld (Or.inl ⟨by kernel_rfl, ?_⟩) ?_
            rotate_left
            · intro w hSw; (try dsimp only at hSw); go_simp; try with_reducible rfl
            simp only [Act.put, List.setIfInBounds_toArray, List.set_cons_zero, List.set_cons_succ]
            refine take_at 10 38 (v := ?_) rfl rfl (by kernel_rfl) (by kernel_rfl) (by kernel_rfl) (fun _ _ _ h => h) hHeld (Or.inl ⟨by kernel_rfl, ?_⟩) ?_
            rotate_left
            · intro w hSw; (try dsimp only at hSw); go_simp; try with_reducible rfl
            simp only [Act.put, List.setIfInBounds_toArray, List.set_cons_zero, List.set_cons_succ]
            refine take_at 11 39 (v := ?_) rfl rfl (by kernel_rfl) (by kernel_rfl) (by kernel_rfl) (fun _ _ _ h => h) hHeld (Or.inl ⟨by kernel_rfl, ?_⟩) ?_
            rotate_left
            · intro w hSw; (try dsimp only at hSw); go_simp; try with_reducible rfl
            simp only [Act.put, List.setIfInBounds_toArray, List.set_cons_zero, List.set_cons_succ]
            refine take_at 12 40 (v := ?_) rfl rfl (by kernel_rfl) (by kernel_rfl) (by kernel_rfl) (fun _ _ _ h => h) hHeld (Or.inl ⟨by kernel_rfl, ?_⟩) ?_
            rotate_left
            · intro w hSw; (try dsimp only at hSw); go_simp; try with_reducible rfl
            simp only [Act.put, List.setIfInBounds_toArray, List.set_cons_zero, List.set_cons_succ]
            refine take_at 13 41 (v := ?_) rfl rfl (by kernel_rfl) (by kernel_rfl) (by kernel_rfl) (fun _ _ _ h => h) hHeld (Or.inl ⟨by kernel_rfl, ?_⟩) ?_
            rotate_left
            · intro w hSw; (try dsimp only at hSw); go_simp; try with_reducible rfl
            simp only [Act.put, List.setIfInBounds_toArray, List.set_cons_zero, List.set_cons_succ]
            refine take_at 14 42 (v := ?_) rfl rfl (by kernel_rfl) (by kernel_rfl) (by kernel_rfl) (fun _ _ _ h => h) hHeld (Or.inl ⟨by kernel_rfl, ?_⟩) ?_
            rotate_left
            · intro w hSw; (try dsimp only at hSw); go_simp; try with_reducible rfl
            simp only [Act.put, List.setIfInBounds_toArray, List.set_cons_zero, List.set_cons_succ]
            clear hw
            refine wpAnyH_ready (rs := [15]) (by kernel_rfl) (by simp) ?_
            refine AllReadyH.cons (o := _) rfl (fun K hK => ?_) AllReadyH.nil
            go_simp
            rw [if_neg (show ¬ fa < -fa by omega)]
            refine (qDivisor_any g (fa) _ (by omega) (by omega) (by omega) (by omega)).mono ?_
            rintro e w9 ⟨rfl, h9⟩
            skip
            refine hK.out _ _ (hSf _ (hHeld.2.2.trans h9)) (fun hHeld2 => ?_)
            clear hK K hHeld
            have hHeld := hHeld2
            clear hHeld2
            refine take_at 16 4 (v := ?_) rfl rfl (by kernel_rfl) (by kernel_rfl) (by kernel_rfl) (fun _ _ _ h => h) hHeld (Or.inl ⟨by kernel_rfl, ?_⟩) ?_
            rotate_left
            · intro w hSw; (try dsimp only at hSw); go_simp; try with_reducible rfl
            simp only [Act.put, List.setIfInBounds_toArray, List.set_cons_zero, List.set_cons_succ]
            refine wpAnyH_done (by kernel_rfl) ?_ _
            have kq := hkr.trans hHeld.2.2
            clear hHeld hSf f0 f1
            generalize gcdI g fa = g' at *
            go_wp2
            go_roundw
            case rel => exact ⟨k + 1, g', by omega, by go_num, rfl, by omega, p2, HF2, kq⟩
            case measure => simp [intOf]; omega
        · have hgg : g = G := by rw [HG.out, List.drop_of_length_le (by omega)]; rfl
          subst hgg
          clear HG
          have hfb := ediv_bd bd g (by omega) (by omega) (by omega)
          replace hR := hR.kp hkr hzbx
          have hzr : b + 1 < wr.heap.size := by have := hkr.size; omega
          clear d0 d1
          obtain ⟨wo, rfl⟩ : ∃ wo : World, wo = wr := ⟨_, rfl⟩
          go_wp2_with fail
          refine (rDown_any bd g _ (by omega) (by omega) (by omega) (by omega)).mono ?_
          rintro e w2 ⟨rfl, rfl⟩
          generalize hq : bd / g = q at *
          replace hq := hid hq
          have kn := (Kp.refl wo).alloc (.cells #[.slice none 0 0, .int .i64 q] 30)
          have hBo := Bx.new wo #[.slice none 0 0, .int .i64 q] 30
          have hz2 := alloc_lt wo (.cells #[.slice none 0 0, .int .i64 q] 30)
          have e0 := kn.cellS f0
          have hbz := hR.kp kn hzr
          have kw3 := kk.trans kn
          clear hR f0 f1 kn
          go_wp2
          generalize wo.alloc (.cells #[.slice none 0 0, .int .i64 q] 30) = w0 at *
          generalize hbo : wo.heap.size = bo at *
          replace hbo := hid hbo
          clear hfb
          go_loopw [7] (fun i wr => ∃ (k : Nat) (L : List Term) (v : Value), k ≤ ts.length ∧ i = .int .i64 k ∧ L.length ≤ k ∧ Bx wr bo [v, .int .i64 q] ∧ Own encTerm 49 2 w0.heap.size wr v L ∧ Hid (L = (ts.take k).map (divT g)) ∧ Kg w0 wr bo) (fun i _ => ts.length - (intOf i).toNat)
          case atStart => exact ⟨0, [], _, Nat.zero_le _, rfl, Nat.le_refl _, hBo, Own.nil _ _ _ _ _, hid (by simp), Kg.refl _ _⟩
          case round =>
            clear hBo
            obtain ⟨k, L, v, hk, rfl, hLk, hBA, ownA, HL, hKA⟩ := hrel
            obtain ⟨A1, c1', rfl, hc1, hm1⟩ := ownA.form
            have kwr : Kp w wr := Kg.to_kp kw3 hKA (by have := hbw.out; omega)
            have hsz := hKA.size
            have hbolA : bo < wr.heap.size := by omega
            have d0 := hKA.cellS e0 (by show b ≠ bo; omega)
            have hgl := block_lt_of_cell d0
            by_cases hlt : k < ts.length
            · obtain ⟨p, o, rfl, hp, h1, h2⟩ := (ht.keep (pl_stable _) kwr).term hlt
              have h1b := block_lt_of_cell h1
              have HT := hid (List.take_succ_eq_append_getElem hlt)
              have hq : p ≠ bo ∧ (Value.slice A1 L.length c1').ownBlock ≠ some p := by
                obtain ⟨p2, o2, hA, hp2, hp3, -⟩ := ht.term hlt
                injection hA with hA
                injection hA with e1 e2 _
                subst e1
                have := hbw.out
                exact ⟨by omega, fun e => by have := ownA.ge p e; omega⟩
              have hbq : (Value.slice A1 L.length c1').ownBlock ≠ some b := fun e => by have := ownA.ge b e; omega
              obtain ⟨fa1, fa2, fa3⟩ := HOK.out ts[k] (List.getElem_mem hlt)
              have HN2 : Hid (L ++ [divT g ts[k]] = (ts.take (k + 1)).map (divT g)) := hid (by rw [HT.out, HL.out, List.map_append]; rfl)
              clear e0
              generalize ts[k] = t at *
              obtain ⟨ce, fa⟩ := t
              dsimp only [divT] at h1 h2 fa1 fa2 fa3 HN2
              obtain ⟨t1, t2⟩ := tdiv_le fa g fa1 fa2
              have eg : (g == 0) = false := by rw [beq_eq_false_iff_ne]; omega
              have eg2 : g ≠ 0 := by omega
              have q1 : (0 : Int) ≤ k := by omega
              have q2 : (k : Int) < ts.length := by omega
              generalize hdv : fa.tdiv g = dv at *
              go_wp2
              obtain ⟨wA, rfl⟩ : ∃ x : World, x = wr := ⟨_, rfl⟩
              have hSf : ∀ W : World, Bx W bo [.slice A1 L.length c1', .int .i64 q] → wA.grownBy W (Value.slice A1 L.length c1').ownBlock → (W.cell? ⟨bo, 0, none⟩ = some (.slice A1 L.length c1') ∧ W.frozen? ⟨bo, 0, none⟩ = false ∧ W.cell? ⟨b, 0, none⟩ = some (.slice (some ⟨p, o, none⟩) ts.length c) ∧ W.cell? ⟨p, o + k * 2, none⟩ = some (.int .i64 ce) ∧ W.cell? ⟨p, o + k * 2 + 1, none⟩ = some (.int .i64 fa)) := fun W h g => ⟨h.cell (j := 0) rfl, h.free (j := 0) (by simp), (World.cell?_of_block (g.block b hgl (fun e => hbq e.symm))).trans d0, (World.cell?_of_block (g.block p h1b (fun e => hq.2 e.symm))).trans h1, (World.cell?_of_block (g.block p h1b (fun e => hq.2 e.symm))).trans h2⟩
              refine beginT 20 (S := fun W => W.cell? ⟨bo, 0, none⟩ = some (.slice A1 L.length c1') ∧ W.frozen? ⟨bo, 0, none⟩ = false ∧ W.cell? ⟨b, 0, none⟩ = some (.slice (some ⟨p, o, none⟩) ts.length c) ∧ W.cell? ⟨p, o + k * 2, none⟩ = some (.int .i64 ce) ∧ W.cell? ⟨p, o + k * 2 + 1, none⟩ = some (.int .i64 fa)) (by kernel_rfl) (hSf _ (hBA.keep rfl) ((Kp.refl _).drew.gb _)) (fun hHeld => ?_)
              refine take_atT 0 56 (v := ?_) rfl rfl (by kernel_rfl) (by kernel_rfl) (by kernel_rfl) (by kernel_rfl) (by kernel_rfl) (fun _ _ _ h => h) hHeld (Or.inl ⟨by kernel_rfl, ?_⟩) ?_
              rotate_left
              · intro w hSw; (try dsimp only at hSw); go_simp; try with_reducible rfl
              simp only [Act.put, List.setIfInBounds_toArray, List.set_cons_zero, List.set_cons_succ]
              refine take_atT 1 57 (v := ?_) rfl rfl (by kernel_rfl) (by kernel_rfl) (by kernel_rfl) (by kernel_rfl) (by kernel_rfl) (fun _ _ _ h => h) hHeld (Or.inl ⟨by kernel_rfl, ?_⟩) ?_
              rotate_left
              · intro w hSw; (try dsimp only at hSw); go_simp; try with_reducible rfl
              simp only [Act.put, List.setIfInBounds_toArray, List.set_cons_zero, List.set_cons_succ]
              refine take_atT 2 58 (v := ?_) rfl rfl (by kernel_rfl) (by kernel_rfl) (by kernel_rfl) (by kernel_rfl) (by kernel_rfl) (fun _ _ _ h => h) hHeld (Or.inl ⟨by kernel_rfl, ?_⟩) ?_
              rotate_left
              · intro w hSw; (try dsimp only at hSw); go_simp; try with_reducible rfl
              simp only [Act.put, List.setIfInBounds_toArray, List.set_cons_zero, List.set_cons_succ]
              refine take_atT 3 59 (v := ?_) rfl rfl (by kernel_rfl) (by kernel_rfl) (by kernel_rfl) (by kernel_rfl) (by kernel_rfl) (fun _ _ _ h => h) hHeld (Or.inl ⟨by kernel_rfl, ?_⟩) ?_
              rotate_left
              · intro w hSw; (try dsimp only at hSw); go_simp; try with_reducible rfl
              simp only [Act.put, List.setIfInBounds_toArray, List.set_cons_zero, List.set_cons_succ]
              refine take_atT 4 60 (v := ?_) rfl rfl (by kernel_rfl) (by kernel_rfl) (by kernel_rfl) (by kernel_rfl) (by kernel_rfl) (fun _ _ _ h => h) hHeld (Or.inl ⟨by kernel_rfl, ?_⟩) ?_
              rotate_left
              · intro w hSw; (try dsimp only at hSw); go_simp; try with_reducible rfl
              simp only [Act.put, List.setIfInBounds_toArray, List.set_cons_zero, List.set_cons_succ]
              refine take_atT 5 61 (v := ?_) rfl rfl (by kernel_rfl) (by kernel_rfl) (by kernel_rfl) (by kernel_rfl) (by kernel_rfl) (fun _ _ _ h => h) hHeld (Or.inl ⟨by kernel_rfl, ?_⟩) ?_
              rotate_left
              · intro w hSw; (try dsimp only at hSw); go_simp; try with_reducible rfl
              simp only [Act.put, List.setIfInBounds_toArray, List.set_cons_zero, List.set_cons_succ]
              refine take_atT 6 62 (v := ?_) rfl rfl (by kernel_rfl) (by kernel_rfl) (by kernel_rfl) (by kernel_rfl) (by kernel_rfl) (fun _ _ _ h => h) hHeld (Or.inl ⟨by kernel_rfl, ?_⟩) ?_
              rotate_left
              · intro w hSw; (try dsimp only at hSw); go_simp; try with_reducible rfl
              simp only [Act.put, List.setIfInBounds_toArray, List.set_cons_zero, List.set_cons_succ]
              refine take_atT 7 63 (v := ?_) rfl rfl (by kernel_rfl) (by kernel_rfl) (by kernel_rfl) (by kernel_rfl) (by kernel_rfl) (fun _ _ _ h => h) hHeld (Or.inl ⟨by kernel_rfl, ?_⟩) ?_
              rotate_left
              · intro w hSw; (try dsimp only at hSw); go_simp; try with_reducible rfl
              simp only [Act.put, List.setIfInBounds_toArray, List.set_cons_zero, List.set_cons_succ]
              refine take_atT 8 64 (v := ?_) rfl rfl (by kernel_rfl) (by kernel_rfl) (by kernel_rfl) (by kernel_rfl) (by kernel_rfl) (fun _ _ _ h => h) hHeld (Or.inl ⟨by kernel_rfl, ?_⟩) ?_
              rotate_left
              · intro w hSw; (try dsimp only at hSw); go_simp; try with_reducible rfl
              simp only [Act.put, List.setIfInBounds_toArray, List.set_cons_zero, List.set_cons_succ]
              refine take_atT 9 65 (v := ?_) rfl rfl (by kernel_rfl) (by kernel_rfl) (by kernel_rfl) (by kernel_rfl) (by kernel_rfl) (fun _ _ _ h => h) hHeld (Or.inl ⟨by kernel_rfl, ?_⟩) ?_
              rotate_left
              · intro w hSw; (try dsimp only at hSw); go_simp; try with_reducible rfl
              simp only [Act.put, List.setIfInBounds_toArray, List.set_cons_zero, List.set_cons_succ]
              refine take_atT 10 66 (v := ?_) rfl rfl (by kernel_rfl) (by kernel_rfl) (by kernel_rfl) (by kernel_rfl) (by kernel_rfl) (fun _ _ _ h => h) hHeld (Or.inl ⟨by kernel_rfl, ?_⟩) ?_
              rotate_left
              · intro w hSw; (try dsimp only at hSw); go_simp; try with_reducible rfl
              simp only [Act.put, List.setIfInBounds_toArray, List.set_cons_zero, List.set_cons_succ]
              refine take_atT 11 67 (v := ?_) rfl rfl (by kernel_rfl) (by kernel_rfl) (by kernel_rfl) (by kernel_rfl) (by kernel_rfl) (fun _ _ _ h => h) hHeld (Or.inl ⟨by kernel_rfl, ?_⟩) ?_
              rotate_left
              · intro w hSw; (try dsimp only at hSw); go_simp; try with_reducible rfl
              simp only [Act.put, List.setIfInBounds_toArray, List.set_cons_zero, List.set_cons_succ]
              refine take_atT 12 68 (v := ?_) rfl rfl (by kernel_rfl) (by kernel_rfl) (by kernel_rfl) (by kernel_rfl) (by kernel_rfl) (fun _ _ _ h => h) hHeld (Or.inl ⟨by kernel_rfl, ?_⟩) ?_
              rotate_left
              · intro w hSw; (try dsimp only at hSw); go_simp; try with_reducible rfl
              simp only [Act.put, List.setIfInBounds_toArray, List.set_cons_zero, List.set_cons_succ]
              refine take_atT 13 69 (v := ?_) rfl rfl (by kernel_rfl) (by kernel_rfl) (by kernel_rfl) (by kernel_rfl) (by kernel_rfl) (fun _ _ _ h => h) hHeld (Or.inl ⟨by kernel_rfl, ?_⟩) ?_
              rotate_left
              · intro w hSw; (try dsimp only at hSw); go_simp; try with_reducible rfl
              simp only [Act.put, List.setIfInBounds_toArray, List.set_cons_zero, List.set_cons_succ]
              refine take_atT 14 70 (v := ?_) rfl rfl (by kernel_rfl) (by kernel_rfl) (by kernel_rfl) (by kernel_rfl) (by kernel_rfl) (fun _ _ _ h => h) hHeld (Or.inl ⟨by kernel_rfl, ?_⟩) ?_
              rotate_left
              · intro w hSw; (try dsimp only at hSw); go_simp; try with_reducible rfl
              simp only [Act.put, List.setIfInBounds_toArray, List.set_cons_zero, List.set_cons_succ]
              have hw : IntKind.i64.wrap dv = dv := IntWalk.i64_in _ (by omega)
              refine take_atT 15 71 (v := ?_) rfl rfl (by kernel_rfl) (by kernel_rfl) (by kernel_rfl) (by kernel_rfl) (by kernel_rfl) (fun _ _ _ h => h) hHeld (Or.inl ⟨by kernel_rfl, ?_⟩) ?_
              rotate_left
              · intro w hSw; (try dsimp only at hSw); go_simp; try with_reducible rfl
              simp only [Act.put, List.setIfInBounds_toArray, List.set_cons_zero, List.set_cons_succ]
              clear hw
              refine take_atT 16 72 (v := ?_) rfl rfl (by kernel_rfl) (by kernel_rfl) (by kernel_rfl) (by kernel_rfl) (by kernel_rfl) (fun _ _ _ h => h) hHeld (Or.inl ⟨by kernel_rfl, ?_⟩) ?_
              rotate_left
              · intro w hSw; (try dsimp only at hSw); go_simp; try with_reducible rfl
              simp only [Act.put, List.setIfInBounds_toArray, List.set_cons_zero, List.set_cons_succ]
              refine stepT (i := 17) (o := _) (by kernel_rfl) rfl (fun K hK => ?_)
              go_simp
              have kC := ((Kp.refl wA).alloc (.cells #[.int .i64 ce, .int .i64 dv] 49)).drew
              have hBC := hBA.kp kC hbolA
              have ownC := ownA.kp kC
              have sC := (litT wA 49 ⟨ce, dv⟩).keep (pl_stable _) ((Kp.refl (wA.alloc (.cells #[.int .i64 ce, .int .i64 dv] 49))).drew)
              have hKC := hKA.trans (kC.kg bo)
              have hgC := kC.gb (Value.slice A1 L.length c1').ownBlock
              have zC := kC.size
              have zK := hKC.size
              refine hK.out _ _ (hSf _ hBC hgC) (fun hHeld2 => ?_)
              clear hK K hHeld
              have hHeld := hHeld2
              clear hHeld2
              clear hBA ownA hKA kC
              generalize (wA.alloc (.cells #[.int .i64 ce, .int .i64 dv] 49)).drew = wC at *
              refine stepT (i := 18) (o := _) (by kernel_rfl) rfl (fun K hK => ?_)
              refine step_append4 rfl (.tmp 57) (.tmp 73) rfl stTermM encTerm_len encTerm_one rfl ownC rfl sC (by simp; omega) (by simp; omega) (by omega) ?_
              intro v4 w4 hown4 hgrow4 hat4
              have hob := ownC.ge
              have hBD := hBC.grown hgrow4 (fun e => by have := hob bo e; omega) (by omega)
              have hKD := hKC.grown hgrow4 hob
              have hgD := World.grownBy.trans hgC hgrow4
              refine hK.out _ _ (hSf _ hBD hgD) (fun hHeld2 => ?_)
              clear hK K hHeld
              have hHeld := hHeld2
              clear hHeld2
              refine stepT (i := 19) (o := _) (by kernel_rfl) rfl (fun K hK => ?_)
              go_simp
              refine hK.out _ _ hHeld (fun hHeld2 => ?_)
              clear hK K hHeld
              have hHeld := hHeld2
              clear hHeld2
              have hBE := hBD.set (j := 0) (by simp) v4
              simp only [List.set_cons_zero, List.set_cons_succ] at hBE
              have hKE := hKD.set (p := ⟨bo, 0, none⟩) (.inl rfl) v4
              have hown5 := hown4.kg ((Kg.refl w4 bo).set (p := ⟨bo, 0, none⟩) (.inl rfl) v4) hz2
              obtain ⟨A4, c4, hv4, hc4, hm4⟩ := hown5.form
              clear hBC hBD hown4 hgrow4 hat4 ownC sC hKC hKD hSf hgC hgD hob
              obtain ⟨hc8, hf8, -⟩ := hHeld
              have hlen4 : (L ++ [(⟨ce, dv⟩ : Term)]).length ≤ k + 1 := by simp; omega
              generalize L ++ [(⟨ce, dv⟩ : Term)] = L4 at *
              subst hv4
              refine lastT (o := _) (by kernel_rfl) rfl (fun K hK => ?_)
              go_simp
              refine hK.out _ _ ?_
              clear hK K
              refine doneT (by kernel_rfl) ?_ _
              go_wp2
              go_roundw
              case rel => exact ⟨k + 1, L4, _, by omega, by go_num, hlen4, hBE, hown5, HN2, hKE⟩
              case measure => simp [intOf]; omega
            · have HE : Hid (L = ts.map (divT g)) := hid (by rw [HL.out, List.take_of_length_le (by omega)])
              have hbz2 := hbz.kg hKA (by omega) (by omega)
              have hBF := hbz2.set2 (.slice A1 L.length c1') (.int .i64 q)
              have q0 := hBA.cell (j := 0) rfl
              have q1 := hBA.cell (j := 1) rfl
              have s0 := hbz2.cell (j := 0) rfl
              have s1 := hbz2.cell (j := 1) rfl
              have r0 := hbz2.free (j := 0) (by simp)
              have r1 := hbz2.free (j := 1) (by simp)
              have hzr2 : b + 1 < wr.heap.size := by omega
              have hkf : Kp w ((wr.setCell ⟨b + 1, 0, none⟩ (.slice A1 L.length c1')).setCell ⟨b + 1, 1, none⟩ (.int .i64 q)) := (kwr.set (p := ⟨b + 1, 0, none⟩) (by have := hbw.out; show w.heap.size ≤ b + 1; omega) _).set (p := ⟨b + 1, 1, none⟩) (by have := hbw.out; show w.heap.size ≤ b + 1; omega) _
              have hkg : Kg wr ((wr.setCell ⟨b + 1, 0, none⟩ (.slice A1 L.length c1')).setCell ⟨b + 1, 1, none⟩ (.int .i64 q)) (b + 1) := ((Kg.refl _ _).set (p := ⟨b + 1, 0, none⟩) (.inl rfl) _).set (p := ⟨b + 1, 1, none⟩) (.inl rfl) _
              have hof := (ownA.kg hkg (by omega)).less (base' := w.heap.size) (by have := hbw.out; omega)
              clear hBA ownA e0
              go_wp2
              refine bodyPost_ret (results_cell_bx2 rfl _ _ (b + 1) [.slice A1 L.length c1', .int .i64 q] _ rfl hBF.range Try.underlying30 rfl (by kernel_rfl)) rfl ⟨.slice A1 L.length c1', ?_, ?_, hkf⟩
              · rw [HN.out, ← hq.out]; rfl
              · rw [HN.out]
                dsimp only
                rw [← HE.out]
                exact hof
end Go.Proofs.Ytfllmnaillilhaa
