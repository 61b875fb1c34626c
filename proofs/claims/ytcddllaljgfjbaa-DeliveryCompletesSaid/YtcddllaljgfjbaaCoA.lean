
/-
The clock of a closed set of events: the walk.
-/
import Derived.Test.YtcddllaljgfjbaaCoP
namespace Go.Proofs.Ytcddllaljgfjbaa
set_option linter.unusedSimpArgs false
set_option linter.unusedVariables false
open Go.RowKit

theorem Sl.preE {α : Type} {R : Rd α} {size : Nat} {w : World} {A : Option Addr} {n c : Nat} {l : List α} (h : Sl R size w (.slice A n c) l) (m : Nat) (hm : m ≤ l.length) : Sl R size w (.slice A m c) (l.take m) := by
  obtain ⟨A', c', he, h1, h2, h3⟩ := h
  injection he with e1 e2 e3
  subst e1 e3
  refine ⟨A, c, by rw [List.length_take, Nat.min_eq_left hm], by rw [List.length_take]; omega, h2, fun k hk => ?_⟩
  have hk' : k < l.length := by rw [List.length_take] at hk; omega
  obtain ⟨b, o, cs, hA, had, hcs, hc, hr⟩ := h3 k hk'
  exact ⟨b, o, cs, hA, had, hcs, hc, by rw [List.getElem_take]; exact hr⟩
/-- events, each with the value that reads as its past -/
theorem evs_esl {w : World} {v : Value} {l : List Ev} (h : Evs w v l) : ∃ xs : List EvS, EsL w v xs ∧ xs.map (·.e) = l ∧ ∀ x ∈ xs, Ints w x.v x.e.past := by
  obtain ⟨A, c, rfl, h1, h2, h3⟩ := h
  have h4 : ∀ k : Fin l.length, ∃ u : Option Addr × Nat, Ints w (.slice u.1 (l[k.1]).past.length u.2) (l[k.1]).past ∧ ∃ b o, A = some ⟨b, o, none⟩ ∧ b < w.heap.size ∧ ∀ j x, (evL l[k.1] (.slice u.1 (l[k.1]).past.length u.2))[j]? = some x → w.cell? ⟨b, o + k.1 * 13 + j, none⟩ = some x := fun k => by
    obtain ⟨b, o, cs, hA, had, hcs, hc, u, rfl, hp⟩ := h3 k.1 k.2
    obtain ⟨Au, cu, rfl, -, -⟩ := hp.form
    exact ⟨(Au, cu), hp, b, o, hA, had, hc⟩
  obtain ⟨F, hF⟩ : ∃ F : Fin l.length → Option Addr × Nat, ∀ k, Ints w (.slice (F k).1 (l[k.1]).past.length (F k).2) (l[k.1]).past ∧ ∃ b o, A = some ⟨b, o, none⟩ ∧ b < w.heap.size ∧ ∀ j x, (evL l[k.1] (.slice (F k).1 (l[k.1]).past.length (F k).2))[j]? = some x → w.cell? ⟨b, o + k.1 * 13 + j, none⟩ = some x := ⟨fun k => Classical.choose (h4 k), fun k => Classical.choose_spec (h4 k)⟩
  have hF1 := fun k => (hF k).1
  have hF2 := fun k => (hF k).2
  refine ⟨List.ofFn fun k : Fin l.length => ⟨l[k.1], (F k).1, (l[k.1]).past.length, (F k).2⟩, ⟨A, c, by simp, by simpa using h1, h2, fun k hk => ?_⟩, ?_, fun x hx => ?_⟩
  · have hk' : k < l.length := by simpa using hk
    obtain ⟨b, o, hA, had, hc⟩ := hF2 ⟨k, hk'⟩
    refine ⟨b, o, evL l[k] (.slice (F ⟨k, hk'⟩).1 (l[k]).past.length (F ⟨k, hk'⟩).2), hA, had, rfl, hc, ?_⟩
    unfold Pl
    rw [List.getElem_ofFn]
    rfl
  · apply List.ext_getElem
    · simp
    · intro k h1 h2
      simp
  · obtain ⟨k, rfl⟩ := List.mem_ofFn.1 hx
    exact hF1 k
/-- events onto events -/
theorem EsR.more {base b2 : Nat} {w w' : World} {v v2 v' : Value} {ys zs : List EvS} (h : EsR base w v ys) (h2 : EsR b2 w v2 zs) (hb : base ≤ b2) (hv : ∀ q, v.ownBlock = some q → q < b2)
    (hown : Own encEs 33 13 base w' v' (ys ++ zs)) (hgrow : w.grownBy w' v.ownBlock) (hat : v'.ownBlock = v.ownBlock ∨ v'.ownBlock = some w.heap.size) : EsR base w' v' (ys ++ zs) := by
  have key : ∀ z : EvS, Own encInt 3 1 base w z.v z.e.past → (∀ q, v.ownBlock = some q → z.v.ownBlock ≠ some q) → Own encInt 3 1 base w' z.v z.e.past ∧ ∀ q, v'.ownBlock = some q → z.v.ownBlock ≠ some q := fun z h1 h2 => by
    refine ⟨h1.owS w' hgrow.size fun q hq hl => hgrow.block q hl (fun e => h2 q e.symm hq), fun q hq e => ?_⟩
    rcases hat with h3 | h3
    · exact h2 q (h3 ▸ hq) e
    · rw [h3] at hq
      injection hq with hq
      have := h1.blt q e
      omega
  refine ⟨hown, fun z hz => ?_⟩
  rcases List.mem_append.1 hz with hz | hz
  · exact key z (h.pst z hz).1 (h.pst z hz).2
  · exact key z ((h2.pst z hz).1.less hb) fun q hq e => by
      have h3 := (h2.pst z hz).1.ge q e
      have h4 := hv q hq
      omega
/-- an Add, with the events' row -/
theorem bAddE {S : Nat → Prop} {W w : World} {b n : Nat} {s : BfS} (h : BfX S W w b n s) (kw : Kp W w) (ok : BfOk s.1 s.2) (e : Ev) (v : Value) (hp : Ints W v e.past) (hl : e.past.length ≤ 1000000000) :
    Calls Try.prog 12 #[.pointer (some ⟨b, 0, none⟩), evV e v] w fun x w' => ∃ (A : Option Addr) (c : Nat) (S' : Nat → Prop) (outs : List EvS) (B : Nat), x = .returned (.tuple #[.slice A outs.length c, .int .i64 (addE s e).2.2]) ∧ BfX S' W w' b n (addE s e).1 ∧ EsR B w' (.slice A outs.length c) outs ∧ outs.map (·.e) = (addE s e).2.1 ∧ w.heap.size ≤ B ∧ (∀ q, S' q → q < B) ∧ Fx S w w' ∧ Kp W w' ∧ ∀ q, S' q → S q ∨ w.heap.size ≤ q := by
  obtain ⟨base, cb, cc, mb, M, h1, h2, h3⟩ := h
  refine (bAdd_any h1 (fun q hq => (h3 q hq).2) h2 ok e v (kp_owF (fun w' k => hp.keep (pl_stable _) k) kw fun q hq => (h3 q hq).1) hl).mono fun x w' hx => ?_
  have hy := StepR.x hx kw h3
  obtain ⟨v, outs, M', S', cb', cc', B, rfl, hb, hM, hE, ho, fx, hS', hB1, hB2⟩ := hx
  obtain ⟨A, c, rfl, -, -⟩ := hE.own.form
  have kx : Kp W w' := ((kw.fx S).trans fx).kp fun q hq h => by have := (h3 q h).1; omega
  refine ⟨A, c, S', outs, B, rfl, ⟨base, cb', cc', mb, M', hb, hM, fun q hq => ?_⟩, hE, ho, hB1, fun q hq => ?_, fx, kx, fun q hq => ?_⟩
  · have h1 := kw.size
    rcases hS' q hq with h | h
    · have := h3 q h; have := fx.size; omega
    · omega
  · rcases hS' q hq with h | h
    · have := h3 q h; omega
    · omega
  · rcases hS' q hq with h | h
    · exact .inl h
    · exact .inr h.1
set_option maxRecDepth 8000 in
set_option maxHeartbeats 4000000 in
theorem eClock_any (l : List Ev) (v : Value) (w : World) (n : Nat) (hS : Evs w v l) (hcl0 : ClosedP l) (hw : ∀ e ∈ l, e.past.length = n) (hn1 : 1 ≤ n) (hn5 : n ≤ 5) :
    Calls Try.prog 36 #[.int .i64 (n : Int), v] w fun x w' => ∃ A c, x = .returned (.tuple #[.slice A n c, .int .i64 0]) ∧ Own encInt 3 1 w.heap.size w' (.slice A n c) (l.foldl mxStep (zeroC (n : Int))) ∧ Kp w w' := by
  obtain ⟨A, ca, rfl, hca, hma⟩ := hS.form
  obtain ⟨m, hm⟩ : ∃ m, m = l.length := ⟨_, rfl⟩
  rw [← hm] at hS hca ⊢
  have hm1 : m ≤ 1024 := by rw [hm]; exact hcl0.len
  replace hm := hid hm
  have HS := hid hS
  have HW := hid hw
  have HCL := hid hcl0
  clear hS hw hcl0
  have C1 := cZero_any n w
  obtain ⟨zc, hzc⟩ : ∃ zc, zc = zeroC (n : Int) := ⟨_, rfl⟩
  have zl : zc.length = n := by
    rw [hzc]
    unfold zeroC
    rw [if_neg (by omega), List.length_replicate]
    omega
  rw [← hzc] at C1 ⊢
  replace hzc := hid hzc
  replace zl := hid zl
  replace C1 := hid C1
  go_enter Try.func36, Try.ntmps36
  go_wp2_with fail
  refine C1.out.mono ?_
  rintro z w1 ⟨v1, rfl, own1, k1, -⟩
  obtain ⟨g, cg, rfl, hcg1, hcg2, hgw, hgs⟩ := own1.row (by rw [zl.out]; omega)
  rw [zl.out] at own1 hcg1 ⊢
  have hqn := fun (w : World) => Lib.run_eql_slice_nil (P := Try.prog) w 27 3 (some ⟨g, 0, none⟩) n cg 0 0 Try.underlying27
  have C2 := hid (eClosed_any l _ w1 (HS.out.keep rdEv_stable k1))
  clear C1
  go_wp2_with fail
  refine C2.out.mono ?_
  rintro z w2 ⟨cl, rfl, hcl, k2⟩
  obtain rfl : cl = true := hcl.2 HCL.out
  have kw2 := k1.trans k2
  have own2 := hid (own1.kp k2)
  have hgs2 : g < w2.heap.size := Nat.lt_of_lt_of_le hgs k2.size
  clear C2 hcl own1 k1 k2 hgs
  go_wp2_with fail
  go_loopw [20] (fun vi wr => ∃ (k : Nat) (c : List Int), k ≤ m ∧ vi = .int .i64 (k : Int) ∧ Hid (c = (l.take k).foldl mxStep zc) ∧ Hid (Own encInt 3 1 w.heap.size wr (.slice (some ⟨g, 0, none⟩) n cg) c) ∧ Hid (c.length = n) ∧ Kp w wr) (fun vi _ => m - (intOf vi).toNat)
  case atStart => exact ⟨0, zc, Nat.zero_le _, rfl, hid rfl, own2, zl, kw2⟩
  case round =>
    clear own2 kw2 hgs2
    obtain ⟨k, c, hk, rfl, hc, own, hcl, kr⟩ := hrel
    obtain ⟨wi, rfl⟩ : ∃ wi : World, wi = wr := ⟨_, rfl⟩
    by_cases hkm : k < m
    · have hkI : (k : Int) < (m : Int) := by omega
      have hql : k < l.length := by rw [← hm.out]; exact hkm
      obtain ⟨p, o, v, rfl, hpo, hr, hv⟩ := Sl.evAt HS.out hql
      have HT := hid (List.take_succ_eq_append_getElem hql)
      have f := formedE_fe (HCL.out.fe l[k] (List.getElem_mem hql))
      have hpl := HW.out l[k] (List.getElem_mem hql)
      generalize l[k] = e at *
      obtain ⟨Av, cv, rfl, -, -⟩ := hv.form
      rw [hpl] at hr hv
      obtain ⟨rr, hrr⟩ : ∃ rr : Nat, e.r = (rr : Int) := ⟨e.r.toNat, by have := f.r0; omega⟩
      have hrn : rr < n := by have := f.r1; omega
      obtain ⟨L, hL⟩ : ∃ L, L = evL e (.slice Av n cv) := ⟨_, rfl⟩
      have lL : L.length = 13 := by rw [hL]; rfl
      have oL : ∀ u ∈ L, u.oneCell' = true := by rw [hL]; simp [evL, Value.oneCell']
      have hL0 : L[0]? = some (.int .i64 (rr : Int)) := by rw [hL, ← hrr]; rfl
      have hL1 : L[1]? = some (.int .i64 e.n) := by rw [hL]; rfl
      have hL3 : L[3]? = some (.slice Av n cv) := by rw [hL]; rfl
      rw [← hL] at hr
      have hro := rangeAt_kp hr kr
      obtain ⟨hth, hBy, kx⟩ := ev_boxE wi L lL
      obtain ⟨w8, hw8⟩ : ∃ w8, w8 = (wi.alloc (.cells #[.int .i64 0, .int .i64 0, .int .i64 0, .slice none 0 0, .int .i64 0, .int .i64 0, .int .i64 0, .int .i64 0, .int .i64 0, .int .i64 0, .int .i64 0, .int .i64 0, .int .i64 0] 33)).setCells wi.heap.size 0 L := ⟨_, rfl⟩
      rw [← hw8] at hBy kx
      replace hw8 := hid hw8
      have e0 := hBy.cell (j := 0) hL0
      have e1 := hBy.cell (j := 1) hL1
      have e3 := hBy.cell (j := 3) hL3
      have own8 := own.out.kp kx
      obtain ⟨cur, hcur⟩ : ∃ cur, cur = c[rr]'(by rw [hcl.out]; exact hrn) := ⟨_, rfl⟩
      have d0 := own8.intCell (k := rr) hcl.out.symm (by rw [hcl.out]; exact hrn)
      rw [← hcur] at d0
      have kw := kr.trans kx
      obtain ⟨mx, hmx⟩ : ∃ mx, mx = max cur e.n := ⟨_, rfl⟩
      have hMX : Hid (c.set rr mx = mxStep c e) := hid (by
        unfold mxStep
        rw [hrr, Int.toNat_natCast, hmx, hcur, List.getD_eq_getElem?_getD, List.getElem?_eq_getElem]
        rfl)
      have hC2 : Hid (mxStep c e = (l.take (k + 1)).foldl mxStep zc) := hid (by
        rw [HT.out, List.foldl_append, ← hc.out]
        rfl)
      have hcl2 : Hid ((mxStep c e).length = n) := hid (by rw [mxStep_len]; exact hcl.out)
      have own80 := hid own8
      have hrnI : (rr : Int) < (n : Int) := by omega
      have hrn2 : decide ((n : Int) ≤ (rr : Int)) = false := decide_eq_false (by omega)
      have hrn3 : decide (n ≤ rr) = false := decide_eq_false (by omega)
      have hrn0 : (0 : Int) ≤ (rr : Int) := by omega
      have hmx2 : (if cur < e.n then e.n else cur) = mx := by rw [hmx]; split <;> omega
      have hmx3 : (if e.n < cur then cur else e.n) = mx := by rw [hmx]; split <;> omega
      replace hcur := hid hcur
      replace hrr := hid hrr
      replace hpl := hid hpl
      replace hL := hid hL
      have hmx4 := hmx.symm
      clear hmx
      clear hr hv own8 own
      have hnn : ((n : Int) != (n : Int)) = false := by simp
      go_upto_region 9 with (first | (refine wpList_load_mid rfl 33 (.tmp 22) rfl p (o + k * 13) rfl _ _ hro Try.underlying33 rfl (iEv lL) ?_) | (refine wpList_store_mid rfl 33 (.tmp 8) (.tmp 23) rfl wi.heap.size 0 L.toArray rfl rfl hth (iEv2 lL) (all_oneCell_toArray oL) ?_; rw [List.toList_toArray, ← hw8.out]))
      clear hro hth
      refine G2.wp_region_growT Kp [] 11 43 (G2.pvL [G2.eqv (.slice (some ⟨g, 0, none⟩) n cg), G2.eqv (.pointer (some ⟨wi.heap.size, 0, none⟩)), G2.eqv (.int .i64 (rr : Int)), G2.eqv (.slice (some ⟨g, 0, none⟩) n cg), G2.eqv (.pointer (some ⟨wi.heap.size, 0, none⟩)), G2.eqv (.int .i64 (rr : Int)), G2.eqv (.pointer (some ⟨g, rr, none⟩)), G2.eqv (.int .i64 cur), G2.eqv (.pointer (some ⟨wi.heap.size, 1, none⟩)), G2.eqv (.int .i64 e.n), G2.eqv (.int .i64 mx)]) (by kernel_rfl) (by kernel_rfl) rfl (fun x => Kp.refl x) (fun _ _ _ h k => h.trans k) (Kp.refl _).drew (by intro _ _ _ _ _ h; exact h) (G2.pvL_keep (G2.stabL_cons (G2.stab_eq _) (G2.stabL_cons (G2.stab_eq _) (G2.stabL_cons (G2.stab_eq _) (G2.stabL_cons (G2.stab_eq _) (G2.stabL_cons (G2.stab_eq _) (G2.stabL_cons (G2.stab_eq _) (G2.stabL_cons (G2.stab_eq _) (G2.stabL_cons (G2.stab_eq _) (G2.stabL_cons (G2.stab_eq _) (G2.stabL_cons (G2.stab_eq _) (G2.stabL_cons (G2.stab_eq _) (G2.stabL_nil))))))))))))) (G2.stepsT_cons 0 ?_ (G2.stepsT_cons 1 ?_ (G2.stepsT_cons 2 ?_ (G2.stepsT_cons 3 ?_ (G2.stepsT_cons 4 ?_ (G2.stepsT_cons 5 ?_ (G2.stepsT_cons 6 ?_ (G2.stepsT_cons 7 ?_ (G2.stepsT_cons 8 ?_ (G2.stepsT_cons 9 ?_ (G2.stepsT_cons 10 ?_ (G2.stepsT_nil _ _ _)))))))))))) ?_ ?_
      · intro a w' hk hF hD K hK
        have h6 : a.tmps[6]?.getD undef = .slice (some ⟨g, 0, none⟩) n cg := hF 6 (by kernel_rfl)
        clear hF hD
        go_simp
        exact hK.out _ _ (Kp.refl _) rfl
      · intro a w' hk hF hD K hK
        have h8 : a.tmps[8]?.getD undef = .pointer (some ⟨wi.heap.size, 0, none⟩) := hF 8 (by kernel_rfl)
        clear hF hD
        go_simp
        exact hK.out _ _ (Kp.refl _) rfl
      · intro a w' hk hF hD K hK
        have h30 : a.tmps[30]?.getD undef = .pointer (some ⟨wi.heap.size, 0, none⟩) := hD 1 (by kernel_rfl)
        clear hF hD
        have z0 := hk.cellS e0
        go_simp
        exact hK.out _ _ (Kp.refl _) rfl
      · intro a w' hk hF hD K hK
        have h6 : a.tmps[6]?.getD undef = .slice (some ⟨g, 0, none⟩) n cg := hF 6 (by kernel_rfl)
        clear hF hD
        go_simp
        exact hK.out _ _ (Kp.refl _) rfl
      · intro a w' hk hF hD K hK
        have h8 : a.tmps[8]?.getD undef = .pointer (some ⟨wi.heap.size, 0, none⟩) := hF 8 (by kernel_rfl)
        clear hF hD
        go_simp
        exact hK.out _ _ (Kp.refl _) rfl
      · intro a w' hk hF hD K hK
        have h33 : a.tmps[33]?.getD undef = .pointer (some ⟨wi.heap.size, 0, none⟩) := hD 4 (by kernel_rfl)
        clear hF hD
        have z0 := hk.cellS e0
        go_simp
        exact hK.out _ _ (Kp.refl _) rfl
      · intro a w' hk hF hD K hK
        have h32 : a.tmps[32]?.getD undef = .slice (some ⟨g, 0, none⟩) n cg := hD 3 (by kernel_rfl)
        have h34 : a.tmps[34]?.getD undef = .int .i64 (rr : Int) := hD 5 (by kernel_rfl)
        clear hF hD
        go_simp
        exact hK.out _ _ (Kp.refl _) rfl
      · intro a w' hk hF hD K hK
        have h35 : a.tmps[35]?.getD undef = .pointer (some ⟨g, rr, none⟩) := hD 6 (by kernel_rfl)
        clear hF hD
        have z0 := hk.cellS d0
        go_simp
        exact hK.out _ _ (Kp.refl _) rfl
      · intro a w' hk hF hD K hK
        have h8 : a.tmps[8]?.getD undef = .pointer (some ⟨wi.heap.size, 0, none⟩) := hF 8 (by kernel_rfl)
        clear hF hD
        go_simp
        exact hK.out _ _ (Kp.refl _) rfl
      · intro a w' hk hF hD K hK
        have h37 : a.tmps[37]?.getD undef = .pointer (some ⟨wi.heap.size, 1, none⟩) := hD 8 (by kernel_rfl)
        clear hF hD
        have z0 := hk.cellS e1
        go_simp
        exact hK.out _ _ (Kp.refl _) rfl
      · intro a w' hk hF hD K hK
        have h36 : a.tmps[36]?.getD undef = .int .i64 cur := hD 7 (by kernel_rfl)
        have h38 : a.tmps[38]?.getD undef = .int .i64 e.n := hD 9 (by kernel_rfl)
        clear hF hD
        have z0 := hmx2
        have z1 := hmx3
        have z2 := hmx4
        go_simp
        exact hK.out _ _ (Kp.refl _) rfl
      · exact fun i0 hi0 => by simp at hi0
      intro v w9 k9 hv
      have v0 : v 0 = .slice (some ⟨g, 0, none⟩) n cg := hv 0 (by omega)
      have v2 : v 2 = .int .i64 (rr : Int) := hv 2 (by omega)
      have v10 : v 10 = .int .i64 mx := hv 10 (by omega)
      clear hv
      simp only [G2.growPut, G2.gSlot, List.getElem?_toArray, List.getElem?_cons_zero, List.getElem?_cons_succ, Option.bind_some, List.setIfInBounds_toArray, List.set_cons_zero, List.set_cons_succ, List.drop_succ_cons, List.drop_zero, v0, v2, v10]
      have own9 := own80.out.kp k9
      have d9 := own9.intCell (k := rr) hcl.out.symm (by rw [hcl.out]; exact hrn)
      have fz := own9.frozen hcl.out.symm rr
      have hset := own9.intSet (k := rr) hcl.out.symm (by rw [hcl.out]; exact hrn) mx
      have kset := (kw.trans k9).set (p := ⟨g, rr, none⟩) (by show w.heap.size ≤ g; omega) (.int .i64 mx)
      rw [hMX.out] at hset
      replace hset := hid hset
      clear own9 e0 e1 e3 d0 hBy
      go_wp2
      go_roundw
      case rel => exact ⟨k + 1, _, by omega, by go_num, hC2, hset, hcl2, kset⟩
      case measure => simp [intOf]; omega
    · have hkI : ¬ (k : Int) < (m : Int) := by omega
      obtain rfl : k = m := by omega
      have hcf : c = l.foldl mxStep zc := by
        have := hc.out
        rw [hm.out, List.take_length] at this
        exact this
      have ownf := own.out
      rw [hcf] at ownf
      replace hcf := hid hcf
      clear own
      go_wp2
      go_ret2
      exact ⟨_, _, rfl, ownf, kr⟩
end Go.Proofs.Ytcddllaljgfjbaa
