
/-
Search: the law's own example returns true.
-/
import Derived.Test.YtlbhidiliogflaaGreatSfA
import Derived.ArgAppend
namespace Go.Proofs.YtlbhidiliogflaaGreat
set_option linter.unusedSimpArgs false
set_option linter.unusedVariables false
open Go.RowKit

/-- an append onto a full row: a new one is made, nothing old changes -/
theorem wpl_append_full {P : Program} {α : Type} {enc : α → List Value} {e size bytes t : Nat} {w : World} {l m : List α} {ops : Array Oper} {rest : List Oper} {o : Oper} {a : Act} {Q : Exit → Act → World → Prop} (hgd : o.guard = none) (s x : Operand)
    (ho : o.op = .call { callee := .builtin .append, args := #[s, x], argTypes := #[t, t] }) (hT : SliceT P t e size bytes) (he : ∀ x, (enc x).length = size) (h1 : ∀ x, ∀ u ∈ enc x, u.oneCell' = true)
    {g n : Nat} (hs : a.eval s = .slice (some ⟨g, 0, none⟩) n n) (hl : Sl (Pl enc) size w (.slice (some ⟨g, 0, none⟩) n n) l) (hn : n = l.length) {ad : Addr} {k c : Nat} (hx : a.eval x = .slice (some ad) k c) (hsrc : Sl (Pl enc) size w (.slice (some ad) k c) m) (hk : k = m.length) (hm : 0 < m.length)
    (hlen : l.length + m.length ≤ 1000000) (hby : (l.length + m.length) * bytes ≤ 140737488355328)
    (h : ∀ v' w', Own enc e size w.heap.size w' v' (l ++ m) → Kp w w' → wpList P ops Q rest (a.put o.dst v') w') : wpList P ops Q (o :: rest) a w := by
  obtain ⟨i, z, hi, hz, hs2, hb, hzs⟩ := hT.info
  have hx1 : ∀ u ∈ flat enc m, u.oneCell' = true := by
    intro u hu
    obtain ⟨x, _, hxu⟩ := List.mem_flatMap.1 hu
    exact h1 x u hxu
  subst hn hk
  refine wpList_append_grows w hgd s x t ho e i z size bytes hT.ht hi hz hs2 hb hzs hT.pos (some ⟨g, 0, none⟩) l.length l.length (flat enc l) hs (fun h => by cases h) (flat_length he l) (fun b hb => by
    injection hb with hb
    subst hb
    exact hl.flat_cells he hT.pos) ad m.length c (flat enc m) hx (flat_length he m) (hsrc.flat_cells he hT.pos) hx1 (by omega) (by unfold maxLen; omega) hby ?_
  intro v' w' g1 g2
  refine h v' w' ?_ ((Kp.refl w).grown g2 (fun k hk => by cases hk))
  unfold Own
  rw [List.length_append, flat_append]
  exact g1
theorem Sl.set_ne {α : Type} {enc : α → List Value} {size : Nat} {w : World} {v : Value} {l : List α} (h : Sl (Pl enc) size w v l) {p : Addr} {u0 : Value} (u : Value) (hp : w.cell? p = some u0) (hne : ∀ x, u0 ∉ enc x) : Sl (Pl enc) size (w.setCell p u) v l := by
  obtain ⟨A, c, rfl, h1, h2, h3⟩ := h
  refine ⟨A, c, rfl, h1, h2, fun k hk => ?_⟩
  obtain ⟨b, o, cs, hA, had, hcs, hc, hr⟩ := h3 k hk
  refine ⟨b, o, cs, hA, by rw [set_size]; exact had, hcs, fun j y hy => ?_, hr⟩
  have hq := hc j y hy
  rw [World.cell?_setCell_other _ _ _ _ (fun e => ?_)]
  · exact hq
  · rw [← e, hp] at hq
    injection hq with hq
    unfold Pl at hr
    exact hne l[k] (by rw [hq, ← hr]; exact List.mem_of_getElem? hy)
theorem litS (w : World) (t : TypeId) (l : List Stp) (cs : Array Value) (h : cs.toList = flat encStp l) (hl : l.length ≤ 1000) (n : Nat) (hn : n = l.length) : Stps (w.alloc (.cells cs t)) (.slice (some ⟨w.heap.size, 0, none⟩) n n) l := by
  subst hn
  exact (Own.lit (base := w.heap.size) encStp (e := t) (size := 3) w cs l (Nat.le_refl _) (by omega) (by have h2 := congrArg List.length h; rw [flat_length encStp_len] at h2; simpa using h2) h).sl encStp_len
/-- a found answer's form -/
theorem Find_form (va : Value) (s : Sys) (bud : Int) (w : World) (hs : SysV w va s) (kd ce sp er : Int) (vs : List Int) (t : Tr) (hX : Hid (findR s bud = (⟨kd, ce, vs, t, sp⟩, er))) :
    Calls Tryz.prog 6 #[va, .int .i64 bud] w fun e w' => ∃ A c p0 A1 n1 c1 p2 p3 A4 n4 c4, e = .returned (.tuple #[.agg #[.int .i64 kd, .int .i64 ce, .slice A vs.length c, .int .i64 p0, .slice A1 n1 c1, .int .i64 p2, .int .i64 p3, .slice A4 n4 c4, .int .i64 sp], .int .i64 er]) ∧
      rdAns w' [.int .i64 kd, .int .i64 ce, .slice A vs.length c, .int .i64 p0, .slice A1 n1 c1, .int .i64 p2, .int .i64 p3, .slice A4 n4 c4, .int .i64 sp] ⟨kd, ce, vs, t, sp⟩ ∧ Ints w' (.slice A vs.length c) vs ∧ n1 = (stepsT t).length ∧ Kp w w' := by
  refine (Find_any va s bud w hs).mono ?_
  rw [hX.out]
  rintro e w' ⟨cs, rfl, h, k⟩
  have h0 := h
  obtain ⟨vv, y0, y1, y2, y3, y4, rfl, hv, ht⟩ := h
  obtain ⟨p0, p2, p3, A1, A4, n1, c1, n4, c4, rfl, rfl, rfl, rfl, rfl⟩ := rdTr_form ht
  obtain ⟨A, c, rfl, -, -⟩ := hv.form
  refine ⟨A, c, p0, A1, n1, c1, p2, p3, A4, n4, c4, rfl, h0, hv, ?_, k⟩
  dsimp only at ht
  obtain ⟨k', ss, c', a', ks⟩ := t
  obtain ⟨us, vk, e, h1, h2⟩ := ht
  simp only [List.cons.injEq, and_true] at e
  obtain ⟨A', c2, e2, -⟩ := h1.form
  rw [e2] at e
  have e3 := e.2.1
  injection e3 with _ e4 _
theorem ans_eta (X : Ans × Int) : X = (⟨X.1.kind, X.1.case, X.1.values, X.1.tree, X.1.steps⟩, X.2) := rfl
theorem ex_f8 : ∃ ce t, Hid (findR exS 8 = (⟨0, ce, [3, 0], t, 8⟩, 0)) := by
  obtain ⟨h1, h2, h3, h4⟩ := ex_find8
  have h := ans_eta (findR exS 8)
  rw [h1, h2, h3, h4] at h
  exact ⟨_, _, hid h⟩
theorem ex_f7 : ∃ ce vs t sp, Hid (findR exS 7 = (⟨2, ce, vs, t, sp⟩, 0)) := by
  obtain ⟨h1, h2⟩ := ex_find7
  have h := ans_eta (findR exS 7)
  rw [h1, h2] at h
  exact ⟨_, _, _, _, hid h⟩
theorem ex_fr : ∃ ce vs t sp, Hid (findR exS2 100 = (⟨1, ce, vs, t, sp⟩, 0)) ∧ 0 < (stepsT t).length := by
  obtain ⟨h1, h2, h3⟩ := ex_ref
  have h := ans_eta (findR exS2 100)
  rw [h1, h3] at h
  exact ⟨_, _, _, _, hid h, h2⟩
theorem ex_al : ∃ L, Hid (allR exS 1 = (L, 0)) ∧ L.length = 1 := by
  obtain ⟨h1, h2⟩ := ex_all
  have h : allR exS 1 = ((allR exS 1).1, (allR exS 1).2) := rfl
  rw [h2] at h
  exact ⟨_, hid h, h1⟩
set_option maxRecDepth 8000 in
set_option maxHeartbeats 8000000 in
theorem awake20_any (w : World) : Calls Tryz.prog 4 #[] w fun e w' => e = .returned (.bool true) ∧ Kp w w' := by
  obtain ⟨ce8, tr8, h8⟩ := ex_f8
  obtain ⟨ce7, vs7, tr7, sp7, h7⟩ := ex_f7
  obtain ⟨ceR, vsR, trR, spR, hR, hRp⟩ := ex_fr
  obtain ⟨L, hAl, hAl1⟩ := ex_al
  replace hRp := hid hRp
  go_enter Tryz.func4, Tryz.ntmps4
  go_wp2_with fail
  refine (example_any w).mono ?_
  rintro e w1 ⟨Ab, cb, gr, rfl, hE, k1⟩
  have BS2 := Bx.new w1 #[.slice Ab 2 cb, .slice (some ⟨gr, 0, none⟩) 3 3, .slice none 0 0, .slice none 0 0] 27
  have kb1 := (Kp.refl w1).alloc (.cells #[.slice Ab 2 cb, .slice (some ⟨gr, 0, none⟩) 3 3, .slice none 0 0, .slice none 0 0] 27)
  have hE2 := hE.keep kb1
  have k2 := k1.trans kb1
  go_upto_region 2 with (fail)
  generalize w1.alloc (.cells #[.slice Ab 2 cb, .slice (some ⟨gr, 0, none⟩) 3 3, .slice none 0 0, .slice none 0 0] 27) = w2 at *
  obtain ⟨p1, hp1⟩ : ∃ p1, p1 = w1.heap.size := ⟨_, rfl⟩
  rw [← hp1] at BS2 ⊢
  replace hp1 := hid hp1
  have hl2 := BS2.lt (by simp)
  have HE1 := hid hE
  have hkw1 := hid k1
  have hw1p : w.heap.size ≤ p1 := by rw [hp1.out]; exact k1.size
  clear hE k1
  have a0 := (BS2).cell (j := 0) rfl
  have a1 := (BS2).cell (j := 1) rfl
  have a2 := (BS2).cell (j := 2) rfl
  have a3 := (BS2).cell (j := 3) rfl
  obtain ⟨Ab', cb', Ar', cr', Ag', cg', Ac', cc', eE, hEb, hEr, hEg, hEc⟩ := hE2
  have hE2 : SysV w2 (.agg #[.slice Ab 2 cb, .slice (some ⟨gr, 0, none⟩) 3 3, .slice none 0 0, .slice none 0 0]) exS := ⟨Ab', cb', Ar', cr', Ag', cg', Ac', cc', eE, hEb, hEr, hEg, hEc⟩
  have eE2 : Value.slice Ab 2 cb = .slice Ab' exS.box.length cb' := by
    have := congrArg (fun v => match v with | Value.agg cs => cs.getD 0 undef | _ => undef) eE
    exact this
  rw [← eE2] at hEb
  clear eE eE2 hEr hEg hEc
  go_wp2_with fail
  refine (Propagate_any _ _ exS exS.box 10 w2 hE2 hEb).mono ?_
  rw [ex_prop]
  rintro e w3 ⟨v1, v2, rfl, hst, hbx, k23⟩
  dsimp only at hst hbx
  obtain ⟨As, cs, rfl, -, -⟩ := hst.form
  obtain ⟨Av, cv, rfl, -, -⟩ := hbx.form
  replace hst := hid hst
  replace hbx := hid hbx
  have BS3 := BS2.kp k23 hl2
  have hE3 := hE2.keep k23
  clear hEb a0 a1 a2 a3
  have a0 := (BS3).cell (j := 0) rfl
  have a1 := (BS3).cell (j := 1) rfl
  have a2 := (BS3).cell (j := 2) rfl
  have a3 := (BS3).cell (j := 3) rfl
  have hl3 := BS3.lt (by simp)
  go_wp2_with fail
  refine (Find_form _ exS 8 w3 hE3 _ _ _ _ _ _ h8).mono ?_
  rintro e w4 ⟨Ax, cx, p0x, A1x, n1x, c1x, p2x, p3x, A4x, n4x, c4x, rfl, -, hvx, hnx, kc⟩
  have BXx := Bx.new w4 #[.int .i64 0, .int .i64 ce8, .slice Ax 2 cx, .int .i64 p0x, .slice A1x n1x c1x, .int .i64 p2x, .int .i64 p3x, .slice A4x n4x c4x, .int .i64 8] 36
  have hk34 := hid kc.size
  have kb := (Kp.refl w4).alloc (.cells #[.int .i64 0, .int .i64 ce8, .slice Ax 2 cx, .int .i64 p0x, .slice A1x n1x c1x, .int .i64 p2x, .int .i64 p3x, .slice A4x n4x c4x, .int .i64 8] 36)
  have k35 := kc.trans kb
  replace hvx := hid (hvx.keep (pl_stable _) kb)
  replace hnx := hid hnx
  go_upto_region 4 with (fail)
  generalize w4.alloc (.cells #[.int .i64 0, .int .i64 ce8, .slice Ax 2 cx, .int .i64 p0x, .slice A1x n1x c1x, .int .i64 p2x, .int .i64 p3x, .slice A4x n4x c4x, .int .i64 8] 36) = w5 at *
  obtain ⟨tx, htx⟩ : ∃ tx, tx = w4.heap.size := ⟨_, rfl⟩
  rw [← htx] at BXx ⊢
  replace htx := hid htx
  have BS5 := BS3.kp k35 (BS3.lt (by simp))
  have hE5 := hE3.keep k35
  clear kc kb a0 a1 a2 a3
  have a0 := (BS5).cell (j := 0) rfl
  have a1 := (BS5).cell (j := 1) rfl
  have a2 := (BS5).cell (j := 2) rfl
  have a3 := (BS5).cell (j := 3) rfl
  have hl5 := BS5.lt (by simp)
  go_wp2_with fail
  refine (Find_form _ exS 7 w5 hE5 _ _ _ _ _ _ h7).mono ?_
  rintro e w6 ⟨Ay, cy, p0y, A1y, n1y, c1y, p2y, p3y, A4y, n4y, c4y, rfl, -, hvy, hny, kc⟩
  have BXy := Bx.new w6 #[.int .i64 2, .int .i64 ce7, .slice Ay vs7.length cy, .int .i64 p0y, .slice A1y n1y c1y, .int .i64 p2y, .int .i64 p3y, .slice A4y n4y c4y, .int .i64 sp7] 36
  have hk56 := hid kc.size
  have kb := (Kp.refl w6).alloc (.cells #[.int .i64 2, .int .i64 ce7, .slice Ay vs7.length cy, .int .i64 p0y, .slice A1y n1y c1y, .int .i64 p2y, .int .i64 p3y, .slice A4y n4y c4y, .int .i64 sp7] 36)
  have k57 := kc.trans kb
  replace hvy := hid (hvy.keep (pl_stable _) kb)
  replace hny := hid hny
  go_upto_region 5 with (fail)
  generalize w6.alloc (.cells #[.int .i64 2, .int .i64 ce7, .slice Ay vs7.length cy, .int .i64 p0y, .slice A1y n1y c1y, .int .i64 p2y, .int .i64 p3y, .slice A4y n4y c4y, .int .i64 sp7] 36) = w7 at *
  obtain ⟨ty, hty⟩ : ∃ ty, ty = w6.heap.size := ⟨_, rfl⟩
  rw [← hty] at BXy ⊢
  replace hty := hid hty
  have BS7 := BS5.kp k57 (BS5.lt (by simp))
  have hE7 := hE5.keep k57
  clear kc kb a0 a1 a2 a3
  have a0 := (BS7).cell (j := 0) rfl
  have a1 := (BS7).cell (j := 1) rfl
  have a2 := (BS7).cell (j := 2) rfl
  have a3 := (BS7).cell (j := 3) rfl
  have hl7 := BS7.lt (by simp)
  go_wp2_with fail
  refine (All_any _ exS 1 w7 hE7).mono ?_
  rw [hAl.out]
  rintro e w8 ⟨v8, rfl, h8', k78⟩
  dsimp only at h8'
  obtain ⟨A8, c8, rfl, -, -⟩ := h8'.form
  rw [hAl1]
  have BS8 := BS7.kp k78 hl7
  clear a0 a1 a2 a3 h8' hE7
  have a0 := (BS8).cell (j := 0) rfl
  have a1 := (BS8).cell (j := 1) rfl
  have a2 := (BS8).cell (j := 2) rfl
  have a3 := (BS8).cell (j := 3) rfl
  have hl8 := BS8.lt (by simp)
  go_upto_region 6 with (fail)
  have K38 := k35.trans (k57.trans k78)
  have K18 := kb1.trans (k23.trans K38)
  obtain ⟨Ab2, cb2, Ar2, cr2, Ag2, cg2, Ac2, cc2, eE, hEb, hEr, -, -⟩ := HE1.out
  have eE2 : Value.slice Ab 2 cb = .slice Ab2 exS.box.length cb2 := congrArg (fun v => match v with | Value.agg cs => cs.getD 0 undef | _ => undef) eE
  have eE3 : Value.slice (some ⟨gr, 0, none⟩) 3 3 = .slice Ar2 exS.rows.length cr2 := congrArg (fun v => match v with | Value.agg cs => cs.getD 1 undef | _ => undef) eE
  rw [← eE2] at hEb
  rw [← eE3] at hEr
  clear eE eE2 eE3
  obtain ⟨css, hcs, hcl, hce⟩ := sl_raw hEr rdRow_one
  have hcl : Hid (3 = css.length) := hid hcl.symm
  obtain ⟨t8, ht8⟩ : ∃ t8, t8 = w8.heap.size := ⟨_, rfl⟩
  obtain ⟨el, hel⟩ : ∃ el : Elm 2, el.val = [.slice (some ⟨t8, 0, none⟩) 1 1, .int .i64 2] := ⟨⟨[.slice (some ⟨t8, 0, none⟩) 1 1, .int .i64 2], rfl, by simp [Value.oneCell']⟩, rfl⟩
  have k9 := (Kp.refl w8).alloc (.cells #[.int .i64 0, .int .i64 1] 48)
  have hT := litT2 w8 48 [⟨0, 1⟩] #[.int .i64 0, .int .i64 1] rfl (by simp) 1 rfl
  have z9 := World.size_alloc w8 (.cells #[.int .i64 0, .int .i64 1] 48)
  have k10 := (Kp.refl (w8.alloc (.cells #[.int .i64 0, .int .i64 1] 48))).alloc (.cells #[.slice (some ⟨t8, 0, none⟩) 1 1, .int .i64 2] 51)
  have hsrc := Sl.one (R := Pl (encC (size := 2))) (w8.alloc (.cells #[.int .i64 0, .int .i64 1] 48)) [.slice (some ⟨t8, 0, none⟩) 1 1, .int .i64 2] 51 2 el rfl hel.symm
  rw [z9] at hsrc
  rw [← ht8] at hT hsrc
  have K810 := k9.trans k10
  have hcs10 := hcs.keep (pl_stable _) (K18.trans K810)
  have hp18 : p1 < t8 := by rw [ht8]; exact hl8
  replace HE1 := hid (And.intro hEb hce)
  clear hEb hEr hcs hce z9 k9
  replace ht8 := hid ht8
  have hL4 : Hid ((css ++ [el]).length = 4) := hid (by rw [List.length_append, ← hcl.out]; rfl)
  have hl10 : p1 < (w8.alloc (.cells #[.int .i64 0, .int .i64 1] 48)).heap.size + 1 := by rw [World.size_alloc]; omega
  go_upto_region 7 with (at_builtin; rw [← ht8.out]; refine wpl_append_full rfl (.tmp 40) (.tmp 44) rfl stRowC encC_len encC_one rfl hcs10 hcl.out rfl hsrc rfl (by simp) (by rw [← hcl.out]; simp) (by rw [← hcl.out]; simp) ?_; intro v11 w11 own11 k11; obtain ⟨A11, c11, e11, _, _⟩ := own11.form; rw [hL4.out] at e11; subst e11; have K811 := K810.trans k11; have BS11 := BS8.kp K811 hl8; have a1' := BS11.cell (j := 1) rfl; have f1' := BS11.free (j := 1) (by simp); have hl11 := BS11.lt (by simp); have hq11 := own11.ge; clear hcs10 hsrc a0 a1 a2 a3)
  have hge : ∀ q, (Value.slice A11 4 c11).ownBlock = some q → p1 < q := fun q hq => by
    have h1 := hq11 q hq
    simp only [World.size_alloc] at h1
    omega
  have BS12 := BS11.set (j := 1) (by simp) (.slice A11 4 c11)
  simp only [List.set_cons_zero, List.set_cons_succ, List.toList_toArray] at BS12
  have fx12 : Fx (fun q => q = p1) w11 (w11.setCell ⟨p1, 1, none⟩ (.slice A11 4 c11)) := (Fx.refl _ _).set1 ⟨p1, 1, none⟩ _ (.inl rfl)
  have own12 := own11.fx fx12 (fun q hq e => by have := hge q hq; omega)
  have hK1 : Kp w1 (w11.setCell ⟨p1, 1, none⟩ (.slice A11 4 c11)) := fx12.kp_of (K18.trans K811) (fun q e => by rw [e, hp1.out]; exact Nat.le_refl _)
  have hst12 := hid ((hst.out.keep (pl_stable _) (K38.trans K811)).set_ne (.slice A11 4 c11) a1' (fun x hx => by simp [encStp] at hx))
  have hbx12 := hid ((hbx.out.keep (pl_stable _) (K38.trans K811)).set_ne (.slice A11 4 c11) a1' (fun x hx => by simp [encRng] at hx))
  have K511 := (k57.trans k78).trans K811
  have K711 := k78.trans K811
  have hvx12 := hid ((hvx.out.keep (pl_stable _) K511).set_ne (.slice A11 4 c11) a1' (fun x hx => by simp [encInt] at hx))
  have hlx := BXx.lt (by simp)
  have hly := BXy.lt (by simp)
  have hnx : p1 < tx ∧ p1 < ty := by
    have h1 := htx.out
    have h2 := hty.out
    have h3 := hl3
    have h4 := hl5
    have h5 := hk34.out
    have h6 := hk56.out
    omega
  have BXx12 := (BXx.kp K511 hlx).fx fx12 (Nat.lt_of_lt_of_le hlx K511.size) (fun e => by have := hnx.1; omega)
  have BXy12 := (BXy.kp K711 hly).fx fx12 (Nat.lt_of_lt_of_le hly K711.size) (fun e => by have := hnx.2; omega)
  have hT12 := (hT.keep (pl_stable _) (k10.trans k11)).set_ne (.slice A11 4 c11) a1' (fun x hx => by simp [encTerm] at hx)
  generalize w11.setCell ⟨p1, 1, none⟩ (.slice A11 4 c11) = w12 at *
  have hE12 : SysV w12 (.agg #[.slice Ab 2 cb, .slice A11 4 c11, .slice none 0 0, .slice none 0 0]) exS2 := by
    refine ⟨Ab, cb, A11, c11, none, 0, none, 0, rfl, HE1.out.1.keep (pl_stable _) hK1, sl_of (own12.sl encC_len) hL4.out (fun k i1 i2 => ?_), Sl.nil _ _ _, Sl.nil _ _ _⟩
    by_cases hk : k < css.length
    · have hk3 : k < exS.rows.length := by rw [← hcl.out] at hk; exact hk
      have e1 : (css ++ [el])[k] = css[k] := List.getElem_append_left hk
      have e2 : exS2.rows[k] = exS.rows[k] := List.getElem_append_left hk3
      rw [e1, e2]
      exact rdRow_stable _ _ _ _ hK1 (HE1.out.2 k hk hk3)
    · have hk3 : k = 3 := by
        rw [hL4.out] at i1
        rw [← hcl.out] at hk
        omega
      subst hk3
      have e1 : (css ++ [el])[3] = el := by
        rw [List.getElem_append_right (by rw [← hcl.out]; exact Nat.le_refl _)]
        simp
      rw [e1]
      exact ⟨_, hel, hT12⟩
  have hl12 := BS12.lt (by simp)
  have kw12 : Kp w w12 := (Kp.refl w).trans (hkw1.out.trans hK1)
  clear a1' f1' BS11 own11 own12 hT12 hT BS8
  have a0 := (BS12).cell (j := 0) rfl
  have a1 := (BS12).cell (j := 1) rfl
  have a2 := (BS12).cell (j := 2) rfl
  have a3 := (BS12).cell (j := 3) rfl
  go_wp2_with fail
  refine (Find_form _ exS2 100 w12 hE12 _ _ _ _ _ _ hR).mono ?_
  rintro e w13 ⟨Az, cz, p0z, A1z, n1z, c1z, p2z, p3z, A4z, n4z, c4z, rfl, -, hvz, hnz, kc⟩
  have BXz := Bx.new w13 #[.int .i64 1, .int .i64 ceR, .slice Az vsR.length cz, .int .i64 p0z, .slice A1z n1z c1z, .int .i64 p2z, .int .i64 p3z, .slice A4z n4z c4z, .int .i64 spR] 36
  have hk1213 := hid kc.size
  have kb := (Kp.refl w13).alloc (.cells #[.int .i64 1, .int .i64 ceR, .slice Az vsR.length cz, .int .i64 p0z, .slice A1z n1z c1z, .int .i64 p2z, .int .i64 p3z, .slice A4z n4z c4z, .int .i64 spR] 36)
  have k1214 := kc.trans kb
  replace hvz := hid (hvz.keep (pl_stable _) kb)
  replace hnz := hid hnz
  go_upto_region 8 with (fail)
  generalize w13.alloc (.cells #[.int .i64 1, .int .i64 ceR, .slice Az vsR.length cz, .int .i64 p0z, .slice A1z n1z c1z, .int .i64 p2z, .int .i64 p3z, .slice A4z n4z c4z, .int .i64 spR] 36) = w14 at *
  obtain ⟨tz, htz⟩ : ∃ tz, tz = w13.heap.size := ⟨_, rfl⟩
  rw [← htz] at BXz ⊢
  replace htz := hid htz
  have BS14 := BS12.kp k1214 (BS12.lt (by simp))
  have hE14 := hE12.keep k1214
  clear kc kb a0 a1 a2 a3
  have a0 := (BS14).cell (j := 0) rfl
  have a1 := (BS14).cell (j := 1) rfl
  have a2 := (BS14).cell (j := 2) rfl
  have a3 := (BS14).cell (j := 3) rfl
  have hl14 := BS14.lt (by simp)
  have X14 := BXx12.kp k1214 (BXx12.lt (by simp))
  have Y14 := BXy12.kp k1214 (BXy12.lt (by simp))
  have kw14 := kw12.trans k1214
  have lS := litS w14 54 [⟨0, 2, 0⟩, ⟨0, 2, 1⟩] #[.int .i64 0, .int .i64 2, .int .i64 0, .int .i64 0, .int .i64 2, .int .i64 1] rfl (by simp) 2 rfl
  have kS := (Kp.refl w14).alloc (.cells #[.int .i64 0, .int .i64 2, .int .i64 0, .int .i64 0, .int .i64 2, .int .i64 1] 54)
  clear a0 a1 a2 a3 BXx12 BXy12 BXx BXy BS14 hE14
  go_wp2_with fail
  refine (EqualStp_refl _ _ [⟨0, 2, 0⟩, ⟨0, 2, 1⟩] _ (hst12.out.keep (pl_stable _) (k1214.trans kS)) lS).mono ?_
  rintro e w15 ⟨rfl, k15⟩
  have k1415 := kS.trans k15
  have lR := litR2 w15 57 [⟨2, 3⟩, ⟨0, 1⟩] #[.int .i64 2, .int .i64 3, .int .i64 0, .int .i64 1] rfl (by simp) 2 rfl
  have kR := (Kp.refl w15).alloc (.cells #[.int .i64 2, .int .i64 3, .int .i64 0, .int .i64 1] 57)
  clear lS kS k15
  go_wp2_with fail
  refine (EqualRange_any _ _ [⟨2, 3⟩, ⟨0, 1⟩] [⟨2, 3⟩, ⟨0, 1⟩] _ (hbx12.out.keep (pl_stable _) ((k1214.trans k1415).trans kR)) lR).mono ?_
  rintro e w16 ⟨rfl, k16⟩
  rw [(eqR_iff [⟨2, 3⟩, ⟨0, 1⟩] [⟨2, 3⟩, ⟨0, 1⟩]).2 rfl]
  have k1516 := kR.trans k16
  have k1416 := k1415.trans k1516
  have X16 := X14.kp k1416 (X14.lt (by simp))
  have x0 := X16.cell (j := 0) rfl
  have x2 := X16.cell (j := 2) rfl
  have hx16 := X16.lt (by simp)
  have lI := litI (w := w16) 3 [3, 0] #[.int .i64 3, .int .i64 0] rfl (by simp) 2 rfl
  have kI := (Kp.refl w16).alloc (.cells #[.int .i64 3, .int .i64 0] 3)
  clear lR kR k16
  go_wp2_with fail
  refine (EqualInt_any _ _ [3, 0] [3, 0] _ (hvx12.out.keep (pl_stable _) ((k1214.trans k1416).trans kI)) lI).mono ?_
  rintro e w17 ⟨rfl, k17⟩
  rw [(eqI_iff [3, 0] [3, 0]).2 rfl]
  have k1617 := kI.trans k17
  have k1417 := k1416.trans k1617
  have X17 := X16.kp k1617 hx16
  have Y17 := Y14.kp k1417 (Y14.lt (by simp))
  have Z17 := BXz.kp k1417 (BXz.lt (by simp))
  clear x0 x2
  have x8 := X17.cell (j := 8) rfl
  have y0 := Y17.cell (j := 0) rfl
  have z0 := Z17.cell (j := 0) rfl
  have z4 := Z17.cell (j := 4) rfl
  have hx17 := X17.lt (by simp)
  have hy17 := Y17.lt (by simp)
  have hz17 := Z17.lt (by simp)
  have hnp : 0 < n1z := by rw [hnz.out]; exact hRp.out
  have hn1 : decide (0 < n1z) = true := decide_eq_true hnp
  have hn2 : decide ((0 : Int) < (n1z : Int)) = true := decide_eq_true (by omega)
  have kEnd := kw14.trans k1417
  clear lI kI k17 X14 X16 Y14 BXz X17 Y17 Z17 hnp
  go_wp2
  go_ret
  exact ⟨rfl, kEnd⟩
end Go.Proofs.YtlbhidiliogflaaGreat
