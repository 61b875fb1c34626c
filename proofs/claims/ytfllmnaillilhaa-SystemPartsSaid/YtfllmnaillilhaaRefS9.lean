
/-
The reference's replace: the walk.
-/
import Derived.Test.YtfllmnaillilhaaSys21
import Derived.Test.YtfllmnaillilhaaTB
namespace Go.Proofs.Ytfllmnaillilhaa
set_option linter.unusedSimpArgs false
set_option linter.unusedVariables false
open Go.RowKit

set_option maxRecDepth 8000 in
set_option maxHeartbeats 8000000 in
theorem qReplace_any (vt : Value) (ts : List Term) (bd c x : Int) (w : World) (ht : Terms w vt ts) (hl : ts.length ≤ 128) (hf : ∀ t ∈ ts, -1000 ≤ t.factor ∧ t.factor ≤ 1000) (hb1 : -1000000000 ≤ bd) (hb2 : bd ≤ 1000000000) (hx1 : -1000000 ≤ x) (hx2 : x ≤ 1000000) :
    Calls Try.prog 61 #[.agg #[vt, .int .i64 bd], .int .i64 c, .int .i64 x] w fun e w' => ∃ v, e = .returned (.tuple #[.agg #[v, .int .i64 (subB c x bd ts)], .bool (inBd (subB c x bd ts))]) ∧ Own encTerm 49 2 w.heap.size w' v (dropC c ts) ∧ Kp w w' := by
  obtain ⟨A, ca, rfl, hca, hma⟩ := ht.form
  have HF := hid hf
  clear hf
  have k0 := (((Kp.refl w).alloc (.cells #[.slice A ts.length ca, .int .i64 bd] 30)).alloc (.cells #[.slice none 0 0, .int .i64 0] 30)).alloc (.cells #[.slice none 0 0, .int .i64 bd] 30)
  have c0 := (((Kp.refl _).alloc (.cells #[.slice none 0 0, .int .i64 0] 30)).alloc (.cells #[.slice none 0 0, .int .i64 bd] 30)).cellS (alloc_cell w #[.slice A ts.length ca, .int .i64 bd] 30 0 rfl)
  have hR := (Bx.new (w.alloc (.cells #[.slice A ts.length ca, .int .i64 bd] 30)) #[.slice none 0 0, .int .i64 0] 30).kp ((Kp.refl _).alloc (.cells #[.slice none 0 0, .int .i64 bd] 30)) (by simp)
  have hB := Bx.new ((w.alloc (.cells #[.slice A ts.length ca, .int .i64 bd] 30)).alloc (.cells #[.slice none 0 0, .int .i64 0] 30)) #[.slice none 0 0, .int .i64 bd] 30
  have hz : (((w.alloc (.cells #[.slice A ts.length ca, .int .i64 bd] 30)).alloc (.cells #[.slice none 0 0, .int .i64 0] 30)).alloc (.cells #[.slice none 0 0, .int .i64 bd] 30)).heap.size = w.heap.size + 1 + 1 + 1 := by simp
  simp only [World.size_alloc] at hR hB
  have hp1 : w.heap.size < (((w.alloc (.cells #[.slice A ts.length ca, .int .i64 bd] 30)).alloc (.cells #[.slice none 0 0, .int .i64 0] 30)).alloc (.cells #[.slice none 0 0, .int .i64 bd] 30)).heap.size := by omega
  go_enter Try.func61, Try.ntmps61
  go_wp2
  generalize ((w.alloc (.cells #[.slice A ts.length ca, .int .i64 bd] 30)).alloc (.cells #[.slice none 0 0, .int .i64 0] 30)).alloc (.cells #[.slice none 0 0, .int .i64 bd] 30) = w0 at *
  generalize hpp : w.heap.size = p at *
  replace hpp := hid hpp
  go_loopw [9] (fun i wr => ∃ (k : Nat) (v : Value) (cur : Int), k ≤ ts.length ∧ i = .int .i64 k ∧ Bx wr (p + 1 + 1) [v, .int .i64 cur] ∧ Own encTerm 49 2 (p + 1 + 1 + 1) wr v (dropC c (ts.take k)) ∧ Hid (subB c x bd ts = subB c x cur (ts.drop k)) ∧ -1000000000 * ((k : Int) + 1) ≤ cur ∧ cur ≤ 1000000000 * ((k : Int) + 1) ∧ Kg w0 wr (p + 1 + 1)) (fun i _ => ts.length - (intOf i).toNat)
  case atStart => exact ⟨0, _, bd, Nat.zero_le _, rfl, hB, Own.nil _ _ _ _ _, rfl, by omega, by omega, Kg.refl _ _⟩
  case round =>
    clear hB
    obtain ⟨k, v, cur, hk, rfl, hB, own, HS, hc1, hc2, hkg⟩ := hrel
    have kw := Kg.to_kp k0 hkg (by have := hpp.out; omega)
    have hsz := hkg.size
    obtain ⟨Av, cv, rfl, _, _⟩ := own.form
    have d0 := hkg.cellS c0 (by show p ≠ p + 1 + 1; omega)
    have hgl := block_lt_of_cell d0
    by_cases hlt : k < ts.length
    · obtain ⟨g, o, rfl, hg, h1', h2'⟩ := ht.term hlt
      have h1 := kw.cellS h1'
      have h2 := kw.cellS h2'
      have hff := HF.out ts[k] (List.getElem_mem hlt)
      have HD := hid (List.drop_eq_getElem_cons hlt)
      have HC := hid (dropC_snoc c ts k hlt)
      have hdl : (dropC c (ts.take k)).length ≤ k := Nat.le_trans (List.length_filter_le _ _) (List.length_take_le _ _)
      clear h1' h2' HF
      generalize ts[k] = t at *
      obtain ⟨tc, tf⟩ := t
      dsimp only at h1 h2 hff
      have hmb := mul_bd tf x (by omega) (by omega) (by omega) (by omega)
      have q1 : (0 : Int) ≤ k := by omega
      have q2 : (k : Int) < ts.length := by omega
      have hzb : p + 1 + 1 < wr.heap.size := by omega
      have h1b := block_lt_of_cell h1
      by_cases hcc : tc = c
      · have e1 : (tc == c) = true := by simpa using hcc
        have HS2 : Hid (subB c x bd ts = subB c x (cur - tf * x) (ts.drop (k + 1))) := hid (by rw [HS.out, HD.out, subB, if_pos hcc])
        have HC2 : Hid (dropC c (ts.take (k + 1)) = dropC c (ts.take k)) := hid (by rw [HC.out, if_pos hcc]; simp)
        clear HS HD HC hcc
        have w1 : wrap64 (tf * x) = tf * x := IntWalk.wrap64_in _ (by omega)
        have w2 : IntKind.i64.wrap (tf * x) = tf * x := IntWalk.i64_in _ (by omega)
        have w3 : wrap64 (cur - tf * x) = cur - tf * x := IntWalk.wrap64_in _ (by omega)
        have w4 : IntKind.i64.wrap (cur - tf * x) = cur - tf * x := IntWalk.i64_in _ (by omega)
        have hd1 : -1000000000 * (((k + 1 : Nat) : Int) + 1) ≤ cur - tf * x := by omega
        have hd2 : cur - tf * x ≤ 1000000000 * (((k + 1 : Nat) : Int) + 1) := by omega
        clear hmb
        have y0 := hB.cell (j := 0) rfl
        have y1 := hB.cell (j := 1) rfl
        go_wp2
        refine wp_region_kw_tail 11 (by kernel_rfl) (by kernel_rfl) ?_
        simp only [List.take_succ_cons, List.take_zero, List.drop_succ_cons, List.drop_zero]
        repeat (go_big_quiet_step ((fail)))
        refine wpQuiet_nil ?_
        intro _ hw'
        obtain ⟨u, hw''⟩ := hw'
        subst hw''
        have kU := kw_kp wr u
        have hB1 := hB.kp kU hzb
        have own1 := own.kp kU
        have hk1 := hkg.trans (kU.kg (p + 1 + 1))
        have b1 := hB1.cell (j := 1) rfl
        have fb1 := hB1.free (j := 1) (by simp)
        have hB2 := hB1.set (j := 1) (by simp) (.int .i64 (cur - tf * x))
        simp only [List.set_cons_zero, List.set_cons_succ] at hB2
        have own2 := own1.kg (g := p + 1 + 1) (w' := (Kw wr u).setCell ⟨p + 1 + 1, 1, none⟩ (.int .i64 (cur - tf * x))) ((Kg.refl _ _).set (.inl rfl) _) (by omega)
        have hk2 := hk1.set (p := ⟨p + 1 + 1, 1, none⟩) (.inl rfl) (.int .i64 (cur - tf * x))
        clear hB hB1 own own1 hkg hk1 hc1 hc2 kU
        generalize Kw wr u = w7 at *
        go_wp2
        go_roundw
        case rel => exact ⟨k + 1, _, cur - tf * x, by omega, by go_num, hB2, by rw [HC2.out]; exact own2, HS2, hd1, hd2, hk2⟩
        case measure => simp [intOf]; omega
      · have e1 : (tc == c) = false := by simpa using hcc
        have HS2 : Hid (subB c x bd ts = subB c x cur (ts.drop (k + 1))) := hid (by rw [HS.out, HD.out, subB, if_neg hcc])
        have HC2 : Hid (dropC c (ts.take (k + 1)) = dropC c (ts.take k) ++ [⟨tc, tf⟩]) := hid (by rw [HC.out, if_neg hcc])
        clear HS HD HC hcc
        have hgp : g < p := by have := hpp.out; omega
        generalize hL : dropC c (ts.take k) = L at *
        replace hL := hid hL
        have hgz : g ≠ p + 1 + 1 := by omega
        have hpz : p ≠ p + 1 + 1 := by omega
        have hgo : (Value.slice Av L.length cv).ownBlock ≠ some g := fun e => by have := own.ge g e; omega
        have hbq : (Value.slice Av L.length cv).ownBlock ≠ some p := fun e => by have := own.ge p e; omega
        clear hmb c0 hR hgp
        generalize hbo : p + 1 + 1 = bo at *
        replace hbo := hid hbo
        obtain ⟨A1, hA1⟩ : ∃ A1, A1 = Av := ⟨_, rfl⟩
        subst hA1
        obtain ⟨c1', hc1'⟩ : ∃ c1', c1' = cv := ⟨_, rfl⟩
        subst hc1'
        have hBA := hB
        have ownA : Own encTerm 49 2 w0.heap.size wr (.slice A1 L.length c1') L := by rw [hz]; exact own
        have hz2 : bo < w0.heap.size := by omega
        replace hz := hid hz
        have hKA := hkg
        have hbolA := hzb
        clear hB own hkg
        go_wp2
        obtain ⟨wA, rfl⟩ : ∃ x : World, x = wr := ⟨_, rfl⟩
        have hSf : ∀ W : World, Bx W bo [.slice A1 L.length c1', .int .i64 cur] → wA.grownBy W (Value.slice A1 L.length c1').ownBlock → (W.cell? ⟨bo, 0, none⟩ = some (.slice A1 L.length c1') ∧ W.frozen? ⟨bo, 0, none⟩ = false ∧ W.cell? ⟨p, 0, none⟩ = some (.slice (some ⟨g, o, none⟩) ts.length ca) ∧ W.cell? ⟨g, o + k * 2, none⟩ = some (.int .i64 tc) ∧ W.cell? ⟨g, o + k * 2 + 1, none⟩ = some (.int .i64 tf)) := fun W h gg => ⟨h.cell (j := 0) rfl, h.free (j := 0) (by simp), (World.cell?_of_block (gg.block p hgl (fun e => hbq e.symm))).trans d0, (World.cell?_of_block (gg.block g h1b (fun e => hgo e.symm))).trans h1, (World.cell?_of_block (gg.block g h1b (fun e => hgo e.symm))).trans h2⟩
        refine beginT 10 (S := fun W => W.cell? ⟨bo, 0, none⟩ = some (.slice A1 L.length c1') ∧ W.frozen? ⟨bo, 0, none⟩ = false ∧ W.cell? ⟨p, 0, none⟩ = some (.slice (some ⟨g, o, none⟩) ts.length ca) ∧ W.cell? ⟨g, o + k * 2, none⟩ = some (.int .i64 tc) ∧ W.cell? ⟨g, o + k * 2 + 1, none⟩ = some (.int .i64 tf)) (by kernel_rfl) (hSf _ (hBA.keep rfl) ((Kp.refl _).drew.gb _)) (fun hHeld => ?_)
        refine take_atT 0 40 (v := ?_) rfl rfl (by kernel_rfl) (by kernel_rfl) (by kernel_rfl) (by kernel_rfl) (by kernel_rfl) (fun _ _ _ h => h) hHeld (Or.inl ⟨by kernel_rfl, ?_⟩) ?_
        rotate_left
        · intro w hSw; (try dsimp only at hSw); go_simp; try with_reducible rfl
        simp only [Act.put, List.setIfInBounds_toArray, List.set_cons_zero, List.set_cons_succ]
        refine take_atT 1 41 (v := ?_) rfl rfl (by kernel_rfl) (by kernel_rfl) (by kernel_rfl) (by kernel_rfl) (by kernel_rfl) (fun _ _ _ h => h) hHeld (Or.inl ⟨by kernel_rfl, ?_⟩) ?_
        rotate_left
        · intro w hSw; (try dsimp only at hSw); go_simp; try with_reducible rfl
        simp only [Act.put, List.setIfInBounds_toArray, List.set_cons_zero, List.set_cons_succ]
        refine take_atT 2 42 (v := ?_) rfl rfl (by kernel_rfl) (by kernel_rfl) (by kernel_rfl) (by kernel_rfl) (by kernel_rfl) (fun _ _ _ h => h) hHeld (Or.inl ⟨by kernel_rfl, ?_⟩) ?_
        rotate_left
        · intro w hSw; (try dsimp only at hSw); go_simp; try with_reducible rfl
        simp only [Act.put, List.setIfInBounds_toArray, List.set_cons_zero, List.set_cons_succ]
        refine take_atT 3 43 (v := ?_) rfl rfl (by kernel_rfl) (by kernel_rfl) (by kernel_rfl) (by kernel_rfl) (by kernel_rfl) (fun _ _ _ h => h) hHeld (Or.inl ⟨by kernel_rfl, ?_⟩) ?_
        rotate_left
        · intro w hSw; (try dsimp only at hSw); go_simp; try with_reducible rfl
        simp only [Act.put, List.setIfInBounds_toArray, List.set_cons_zero, List.set_cons_succ]
        refine take_atT 4 44 (v := ?_) rfl rfl (by kernel_rfl) (by kernel_rfl) (by kernel_rfl) (by kernel_rfl) (by kernel_rfl) (fun _ _ _ h => h) hHeld (Or.inl ⟨by kernel_rfl, ?_⟩) ?_
        rotate_left
        · intro w hSw; (try dsimp only at hSw); go_simp; try with_reducible rfl
        simp only [Act.put, List.setIfInBounds_toArray, List.set_cons_zero, List.set_cons_succ]
        refine take_atT 5 45 (v := ?_) rfl rfl (by kernel_rfl) (by kernel_rfl) (by kernel_rfl) (by kernel_rfl) (by kernel_rfl) (fun _ _ _ h => h) hHeld (Or.inl ⟨by kernel_rfl, ?_⟩) ?_
        rotate_left
        · intro w hSw; (try dsimp only at hSw); go_simp; try with_reducible rfl
        simp only [Act.put, List.setIfInBounds_toArray, List.set_cons_zero, List.set_cons_succ]
        refine take_atT 6 46 (v := ?_) rfl rfl (by kernel_rfl) (by kernel_rfl) (by kernel_rfl) (by kernel_rfl) (by kernel_rfl) (fun _ _ _ h => h) hHeld (Or.inl ⟨by kernel_rfl, ?_⟩) ?_
        rotate_left
        · intro w hSw; (try dsimp only at hSw); go_simp; try with_reducible rfl
        simp only [Act.put, List.setIfInBounds_toArray, List.set_cons_zero, List.set_cons_succ]
        refine stepT (i := 7) (o := _) (by kernel_rfl) rfl (fun K hK => ?_)
        go_simp
        have kC := ((Kp.refl wA).alloc (.cells #[.int .i64 tc, .int .i64 tf] 49)).drew
        have hBC := hBA.kp kC hbolA
        have ownC := ownA.kp kC
        have sC := (litT wA 49 ⟨tc, tf⟩).keep (pl_stable _) ((Kp.refl (wA.alloc (.cells #[.int .i64 tc, .int .i64 tf] 49))).drew)
        have hKC := hKA.trans (kC.kg bo)
        have hgC := kC.gb (Value.slice A1 L.length c1').ownBlock
        have zC := kC.size
        have zK := hKC.size
        refine hK.out _ _ (hSf _ hBC hgC) (fun hHeld2 => ?_)
        clear hK K hHeld
        have hHeld := hHeld2
        clear hHeld2
        clear hBA ownA hKA kC
        generalize (wA.alloc (.cells #[.int .i64 tc, .int .i64 tf] 49)).drew = wC at *
        refine stepT (i := 8) (o := _) (by kernel_rfl) rfl (fun K hK => ?_)
        refine step_append4 rfl (.tmp 41) (.tmp 47) rfl stTermM encTerm_len encTerm_one rfl ownC rfl sC (by simp; omega) (by simp; omega) (by omega) ?_
        intro v4 w4 hown4 hgrow4 hat4
        have hob := ownC.ge
        have hBD := hBC.grown hgrow4 (fun e => by have := hob bo e; omega) (by omega)
        have hKD := hKC.grown hgrow4 hob
        have hgD := World.grownBy.trans hgC hgrow4
        refine hK.out _ _ (hSf _ hBD hgD) (fun hHeld2 => ?_)
        clear hK K hHeld
        have hHeld := hHeld2
        clear hHeld2
        refine stepT (i := 9) (o := _) (by kernel_rfl) rfl (fun K hK => ?_)
        go_simp
        refine hK.out _ _ hHeld (fun hHeld2 => ?_)
        clear hK K hHeld
        have hHeld := hHeld2
        clear hHeld2
        have hBE := hBD.set (j := 0) (by simp) v4
        simp only [List.set_cons_zero, List.set_cons_succ] at hBE
        have hKE := hKD.set (p := ⟨bo, 0, none⟩) (.inl rfl) v4
        have hown5 := hown4.kg ((Kg.refl w4 bo).set (p := ⟨bo, 0, none⟩) (.inl rfl) v4) hz2
        obtain ⟨A4, c4, hv4, hc4, hm4⟩ := hown5.form
        clear hBC hBD hown4 hgrow4 hat4 ownC sC hKC hKD hSf hgC hgD hob
        obtain ⟨hc8, hf8, -⟩ := hHeld
        generalize L ++ [(⟨tc, tf⟩ : Term)] = L4 at *
        subst hv4
        refine lastT (o := _) (by kernel_rfl) rfl (fun K hK => ?_)
        go_simp
        refine hK.out _ _ ?_
        clear hK K
        refine doneT (by kernel_rfl) ?_ _
        go_wp2
        go_roundw
        case rel => exact ⟨k + 1, _, cur, by omega, by go_num, hBE, by rw [HC2.out]; rw [hz.out] at hown5; exact hown5, HS2, by omega, by omega, hKE⟩
        case measure => simp [intOf]; omega
    · have HS2 : Hid (subB c x bd ts = cur) := hid (by rw [HS.out, List.drop_of_length_le (by omega)]; rfl)
      have HC2 : Hid (dropC c (ts.take k) = dropC c ts) := hid (by rw [List.take_of_length_le (by omega)])
      have hR1 := hR.kg hkg (by omega) (by omega)
      have hp1r : p + 1 < wr.heap.size := by omega
      have b0 := hB.cell (j := 0) rfl
      have b1 := hB.cell (j := 1) rfl
      go_wp2
      cases hq : decide (-1000000000 ≤ cur) with
      | true =>
        have HQ := hid hq
        clear hq
        refine G2.wp_region_growG (rpG p (.slice Av (dropC c (ts.take k)).length cv) (.int .i64 cur)) [] 10 59 (rpPV p (.slice Av (dropC c (ts.take k)).length cv) (.int .i64 cur) cur true) (by kernel_rfl) (by kernel_rfl) rfl (rpG_refl _ _ _) (rpG_trans _ _ _) (rpG_drew _ _ _ _ hp1r) (fun _ _ _ _ _ h => h) (rpPV_keep _ _ _ _ _) ?_ (fun i hi => by cases hi) ?_
        · intro i hi
          have hi' : i = 0 ∨ i = 1 ∨ i = 2 ∨ i = 3 ∨ i = 4 ∨ i = 5 ∨ i = 6 ∨ i = 7 ∨ i = 8 ∨ i = 9 := by omega
          rcases hi' with rfl | rfl | rfl | rfl | rfl | rfl | rfl | rfl | rfl | rfl
          · intro a w' hk hF hD K hK
            simp only [List.getElem?_toArray, List.getElem?_cons_zero, List.getElem?_cons_succ, Option.map_some, Option.getD_some]
            have h8 : a.tmps[8]?.getD undef = .pointer (some ⟨p + 1 + 1, 0, none⟩) := hF 8 (by kernel_rfl)
            have d0 := hk.1.cellS b0 (by show p + 1 + 1 ≠ p + 1; omega)
            have d1 := hk.1.cellS b1 (by show p + 1 + 1 ≠ p + 1; omega)
            clear hF hD
            go_simp
            exact hK.out _ _ (rpG_refl _ _ _ _) rfl
          · intro a w' hk hF hD K hK
            simp only [List.getElem?_toArray, List.getElem?_cons_zero, List.getElem?_cons_succ, Option.map_some, Option.getD_some]
            have h8 : a.tmps[8]?.getD undef = .pointer (some ⟨p + 1 + 1, 0, none⟩) := hF 8 (by kernel_rfl)
            clear hF hD
            go_simp
            exact hK.out _ _ (rpG_refl _ _ _ _) rfl
          · intro a w' hk hF hD K hK
            simp only [List.getElem?_toArray, List.getElem?_cons_zero, List.getElem?_cons_succ, Option.map_some, Option.getD_some]
            have h41 : a.tmps[51]?.getD undef = .pointer (some ⟨p + 1 + 1, 1, none⟩) := hD 1 (by kernel_rfl)
            have d1 := hk.1.cellS b1 (by show p + 1 + 1 ≠ p + 1; omega)
            clear hF hD
            go_simp
            exact hK.out _ _ (rpG_refl _ _ _ _) rfl
          · intro a w' hk hF hD K hK
            simp only [List.getElem?_toArray, List.getElem?_cons_zero, List.getElem?_cons_succ, Option.map_some, Option.getD_some]
            have h42 : a.tmps[52]?.getD undef = .int .i64 cur := hD 2 (by kernel_rfl)
            have hq := HQ.out
            clear hF hD
            go_simp
            exact hK.out _ _ (rpG_refl _ _ _ _) rfl
          · intro a w' hk hF hD K hK
            simp only [List.getElem?_toArray, List.getElem?_cons_zero, List.getElem?_cons_succ, Option.map_some, Option.getD_some]
            have h43 : a.tmps[53]?.getD undef = .bool true := hD 3 (by kernel_rfl)
            clear hF hD
            go_simp
            exact hK.out _ _ (rpG_refl _ _ _ _) rfl
          · intro a w' hk hF hD K hK
            simp only [List.getElem?_toArray, List.getElem?_cons_zero, List.getElem?_cons_succ, Option.map_some, Option.getD_some]
            have h44 : a.tmps[54]?.getD undef = .bool true := hD 4 (by kernel_rfl)
            have h44s := some_of_getD h44
            have h8 : a.tmps[8]?.getD undef = .pointer (some ⟨p + 1 + 1, 0, none⟩) := hF 8 (by kernel_rfl)
            clear hF hD
            go_simp
            exact hK.out _ _ (rpG_refl _ _ _ _) rfl
          · intro a w' hk hF hD K hK
            simp only [List.getElem?_toArray, List.getElem?_cons_zero, List.getElem?_cons_succ, Option.map_some, Option.getD_some]
            have h44 : a.tmps[54]?.getD undef = .bool true := hD 4 (by kernel_rfl)
            have h44s := some_of_getD h44
            have h45 : a.tmps[55]?.getD undef = if true then .pointer (some ⟨p + 1 + 1, 1, none⟩) else undef := hD 5 (by kernel_rfl)
            have d1 := hk.1.cellS b1 (by show p + 1 + 1 ≠ p + 1; omega)
            simp only [if_true, Bool.false_eq_true, if_false] at h45
            clear hF hD
            go_simp
            exact hK.out _ _ (rpG_refl _ _ _ _) rfl
          · intro a w' hk hF hD K hK
            simp only [List.getElem?_toArray, List.getElem?_cons_zero, List.getElem?_cons_succ, Option.map_some, Option.getD_some]
            have h44 : a.tmps[54]?.getD undef = .bool true := hD 4 (by kernel_rfl)
            have h44s := some_of_getD h44
            have h46 : a.tmps[56]?.getD undef = if true then .int .i64 cur else undef := hD 6 (by kernel_rfl)
            simp only [if_true, Bool.false_eq_true, if_false] at h46
            clear hF hD
            go_simp
            exact hK.out _ _ (rpG_refl _ _ _ _) rfl
          · intro a w' hk hF hD K hK
            simp only [List.getElem?_toArray, List.getElem?_cons_zero, List.getElem?_cons_succ, Option.map_some, Option.getD_some]
            have h44 : a.tmps[54]?.getD undef = .bool true := hD 4 (by kernel_rfl)
            have h44s := some_of_getD h44
            have h47 : a.tmps[57]?.getD undef = if true then .bool (decide (cur ≤ 1000000000)) else undef := hD 7 (by kernel_rfl)
            simp only [if_true, Bool.false_eq_true, if_false] at h47
            clear hF hD
            go_simp
            exact hK.out _ _ (rpG_refl _ _ _ _) rfl
          · intro a w' hk hF hD K hK
            simp only [List.getElem?_toArray, List.getElem?_cons_zero, List.getElem?_cons_succ, Option.map_some, Option.getD_some]
            have h6 : a.tmps[6]?.getD undef = .pointer (some ⟨p + 1, 0, none⟩) := hF 6 (by kernel_rfl)
            have h40 : a.tmps[50]?.getD undef = .agg #[.slice Av (dropC c (ts.take k)).length cv, .int .i64 cur] := hD 0 (by kernel_rfl)
            obtain ⟨y0, y1, hBy⟩ := hk.2.2 ⟨_, _, hR1⟩
            have u0 := hBy.cell (j := 0) rfl
            have u1 := hBy.cell (j := 1) rfl
            have u2 := hBy.free (j := 0) (by simp)
            have u3 := hBy.free (j := 1) (by simp)
            have hBz := hBy.set2 (.slice Av (dropC c (ts.take k)).length cv) (.int .i64 cur)
            have hKz : Kg w' ((w'.setCell ⟨p + 1, 0, none⟩ (.slice Av (dropC c (ts.take k)).length cv)).setCell ⟨p + 1, 1, none⟩ (.int .i64 cur)) (p + 1) := ((Kg.refl _ _).set (p := ⟨p + 1, 0, none⟩) (.inl rfl) _).set (p := ⟨p + 1, 1, none⟩) (.inl rfl) _
            clear hF hD hBy
            go_simp
            exact hK.out undef _ ⟨hKz, fun _ => hBz, fun _ => ⟨_, _, hBz⟩⟩ hBz
        · intro v w3 k3 hv
          have hBF := hv 9 (by omega)
          have h48 : v 8 = .bool (true && decide (cur ≤ 1000000000)) := hv 8 (by omega)
          clear hv
          simp only [G2.growPut, G2.gSlot, List.getElem?_toArray, List.getElem?_cons_zero, List.getElem?_cons_succ, Option.bind_some, List.setIfInBounds_toArray, List.set_cons_zero, List.set_cons_succ, List.drop_succ_cons, List.drop_zero, h48]
          have ownF := (own.kg k3.1 (by omega)).less (base' := p) (by omega)
          have kF := Kg.to_kp kw k3.1 (by have := hpp.out; omega)
          rw [HC2.out] at *
          go_wp2
          refine bodyPost_ret (results_cell_bx2 rfl _ _ (p + 1) [.slice Av (dropC c ts).length cv, .int .i64 cur] _ rfl hBF.range Try.underlying30 rfl (by kernel_rfl)) rfl ?_
          refine ⟨.slice Av (dropC c ts).length cv, ?_, ?_, kF⟩
          · rw [HS2.out]
            unfold inBd
            rw [HQ.out]
            rfl
          · rw [hpp.out]
            exact ownF
      | false =>
        have HQ := hid hq
        clear hq
        refine G2.wp_region_growG (rpG p (.slice Av (dropC c (ts.take k)).length cv) (.int .i64 cur)) [] 10 59 (rpPV p (.slice Av (dropC c (ts.take k)).length cv) (.int .i64 cur) cur false) (by kernel_rfl) (by kernel_rfl) rfl (rpG_refl _ _ _) (rpG_trans _ _ _) (rpG_drew _ _ _ _ hp1r) (fun _ _ _ _ _ h => h) (rpPV_keep _ _ _ _ _) ?_ (fun i hi => by cases hi) ?_
        · intro i hi
          have hi' : i = 0 ∨ i = 1 ∨ i = 2 ∨ i = 3 ∨ i = 4 ∨ i = 5 ∨ i = 6 ∨ i = 7 ∨ i = 8 ∨ i = 9 := by omega
          rcases hi' with rfl | rfl | rfl | rfl | rfl | rfl | rfl | rfl | rfl | rfl
          · intro a w' hk hF hD K hK
            simp only [List.getElem?_toArray, List.getElem?_cons_zero, List.getElem?_cons_succ, Option.map_some, Option.getD_some]
            have h8 : a.tmps[8]?.getD undef = .pointer (some ⟨p + 1 + 1, 0, none⟩) := hF 8 (by kernel_rfl)
            have d0 := hk.1.cellS b0 (by show p + 1 + 1 ≠ p + 1; omega)
            have d1 := hk.1.cellS b1 (by show p + 1 + 1 ≠ p + 1; omega)
            clear hF hD
            go_simp
            exact hK.out _ _ (rpG_refl _ _ _ _) rfl
          · intro a w' hk hF hD K hK
            simp only [List.getElem?_toArray, List.getElem?_cons_zero, List.getElem?_cons_succ, Option.map_some, Option.getD_some]
            have h8 : a.tmps[8]?.getD undef = .pointer (some ⟨p + 1 + 1, 0, none⟩) := hF 8 (by kernel_rfl)
            clear hF hD
            go_simp
            exact hK.out _ _ (rpG_refl _ _ _ _) rfl
          · intro a w' hk hF hD K hK
            simp only [List.getElem?_toArray, List.getElem?_cons_zero, List.getElem?_cons_succ, Option.map_some, Option.getD_some]
            have h41 : a.tmps[51]?.getD undef = .pointer (some ⟨p + 1 + 1, 1, none⟩) := hD 1 (by kernel_rfl)
            have d1 := hk.1.cellS b1 (by show p + 1 + 1 ≠ p + 1; omega)
            clear hF hD
            go_simp
            exact hK.out _ _ (rpG_refl _ _ _ _) rfl
          · intro a w' hk hF hD K hK
            simp only [List.getElem?_toArray, List.getElem?_cons_zero, List.getElem?_cons_succ, Option.map_some, Option.getD_some]
            have h42 : a.tmps[52]?.getD undef = .int .i64 cur := hD 2 (by kernel_rfl)
            have hq := HQ.out
            clear hF hD
            go_simp
            exact hK.out _ _ (rpG_refl _ _ _ _) rfl
          · intro a w' hk hF hD K hK
            simp only [List.getElem?_toArray, List.getElem?_cons_zero, List.getElem?_cons_succ, Option.map_some, Option.getD_some]
            have h43 : a.tmps[53]?.getD undef = .bool false := hD 3 (by kernel_rfl)
            clear hF hD
            go_simp
            exact hK.out _ _ (rpG_refl _ _ _ _) rfl
          · intro a w' hk hF hD K hK
            simp only [List.getElem?_toArray, List.getElem?_cons_zero, List.getElem?_cons_succ, Option.map_some, Option.getD_some]
            have h44 : a.tmps[54]?.getD undef = .bool false := hD 4 (by kernel_rfl)
            have h44s := some_of_getD h44
            have h8 : a.tmps[8]?.getD undef = .pointer (some ⟨p + 1 + 1, 0, none⟩) := hF 8 (by kernel_rfl)
            clear hF hD
            go_simp
            exact hK.out _ _ (rpG_refl _ _ _ _) rfl
          · intro a w' hk hF hD K hK
            simp only [List.getElem?_toArray, List.getElem?_cons_zero, List.getElem?_cons_succ, Option.map_some, Option.getD_some]
            have h44 : a.tmps[54]?.getD undef = .bool false := hD 4 (by kernel_rfl)
            have h44s := some_of_getD h44
            have h45 : a.tmps[55]?.getD undef = if false then .pointer (some ⟨p + 1 + 1, 1, none⟩) else undef := hD 5 (by kernel_rfl)
            have d1 := hk.1.cellS b1 (by show p + 1 + 1 ≠ p + 1; omega)
            simp only [if_true, Bool.false_eq_true, if_false] at h45
            clear hF hD
            go_simp
            exact hK.out _ _ (rpG_refl _ _ _ _) rfl
          · intro a w' hk hF hD K hK
            simp only [List.getElem?_toArray, List.getElem?_cons_zero, List.getElem?_cons_succ, Option.map_some, Option.getD_some]
            have h44 : a.tmps[54]?.getD undef = .bool false := hD 4 (by kernel_rfl)
            have h44s := some_of_getD h44
            have h46 : a.tmps[56]?.getD undef = if false then .int .i64 cur else undef := hD 6 (by kernel_rfl)
            simp only [if_true, Bool.false_eq_true, if_false] at h46
            clear hF hD
            go_simp
            exact hK.out _ _ (rpG_refl _ _ _ _) rfl
          · intro a w' hk hF hD K hK
            simp only [List.getElem?_toArray, List.getElem?_cons_zero, List.getElem?_cons_succ, Option.map_some, Option.getD_some]
            have h44 : a.tmps[54]?.getD undef = .bool false := hD 4 (by kernel_rfl)
            have h44s := some_of_getD h44
            have h47 : a.tmps[57]?.getD undef = if false then .bool (decide (cur ≤ 1000000000)) else undef := hD 7 (by kernel_rfl)
            simp only [if_true, Bool.false_eq_true, if_false] at h47
            clear hF hD
            go_simp
            exact hK.out _ _ (rpG_refl _ _ _ _) rfl
          · intro a w' hk hF hD K hK
            simp only [List.getElem?_toArray, List.getElem?_cons_zero, List.getElem?_cons_succ, Option.map_some, Option.getD_some]
            have h6 : a.tmps[6]?.getD undef = .pointer (some ⟨p + 1, 0, none⟩) := hF 6 (by kernel_rfl)
            have h40 : a.tmps[50]?.getD undef = .agg #[.slice Av (dropC c (ts.take k)).length cv, .int .i64 cur] := hD 0 (by kernel_rfl)
            obtain ⟨y0, y1, hBy⟩ := hk.2.2 ⟨_, _, hR1⟩
            have u0 := hBy.cell (j := 0) rfl
            have u1 := hBy.cell (j := 1) rfl
            have u2 := hBy.free (j := 0) (by simp)
            have u3 := hBy.free (j := 1) (by simp)
            have hBz := hBy.set2 (.slice Av (dropC c (ts.take k)).length cv) (.int .i64 cur)
            have hKz : Kg w' ((w'.setCell ⟨p + 1, 0, none⟩ (.slice Av (dropC c (ts.take k)).length cv)).setCell ⟨p + 1, 1, none⟩ (.int .i64 cur)) (p + 1) := ((Kg.refl _ _).set (p := ⟨p + 1, 0, none⟩) (.inl rfl) _).set (p := ⟨p + 1, 1, none⟩) (.inl rfl) _
            clear hF hD hBy
            go_simp
            exact hK.out undef _ ⟨hKz, fun _ => hBz, fun _ => ⟨_, _, hBz⟩⟩ hBz
        · intro v w3 k3 hv
          have hBF := hv 9 (by omega)
          have h48 : v 8 = .bool (false && decide (cur ≤ 1000000000)) := hv 8 (by omega)
          clear hv
          simp only [G2.growPut, G2.gSlot, List.getElem?_toArray, List.getElem?_cons_zero, List.getElem?_cons_succ, Option.bind_some, List.setIfInBounds_toArray, List.set_cons_zero, List.set_cons_succ, List.drop_succ_cons, List.drop_zero, h48]
          have ownF := (own.kg k3.1 (by omega)).less (base' := p) (by omega)
          have kF := Kg.to_kp kw k3.1 (by have := hpp.out; omega)
          rw [HC2.out] at *
          go_wp2
          refine bodyPost_ret (results_cell_bx2 rfl _ _ (p + 1) [.slice Av (dropC c ts).length cv, .int .i64 cur] _ rfl hBF.range Try.underlying30 rfl (by kernel_rfl)) rfl ?_
          refine ⟨.slice Av (dropC c ts).length cv, ?_, ?_, kF⟩
          · rw [HS2.out]
            unfold inBd
            rw [HQ.out]
            rfl
          · rw [hpp.out]
            exact ownF
end Go.Proofs.Ytfllmnaillilhaa
