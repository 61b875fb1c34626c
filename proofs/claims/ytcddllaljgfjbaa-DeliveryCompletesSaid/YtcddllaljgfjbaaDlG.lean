
/-
A clock is skipped by the causal buffer: the walk.
-/
import Derived.Test.YtcddllaljgfjbaaDlF
namespace Go.Proofs.Ytcddllaljgfjbaa
set_option linter.unusedSimpArgs false
set_option linter.unusedVariables false
open Go.RowKit

/-- while a range deletes what a clock contains -/
structure SkI (cj : List Int) (M Mc Ml : List EvS) : Prop where
  sub : Mc.Sublist M
  all : ∀ x ∈ M, x ∈ Mc ∨ hasC cj (nameE x.e) = true
  left : ∀ x ∈ Mc, x ∈ Ml ∨ hasC cj (nameE x.e) = false
theorem SkI.keep {cj : List Int} {M Mc Ml Mr : List EvS} {x : EvS} (h : SkI cj M Mc Ml) (hp : Ml.Perm (x :: Mr)) (hx : hasC cj (nameE x.e) = false) : SkI cj M Mc Mr :=
  ⟨h.sub, h.all, fun y hy => by
    rcases h.left y hy with h1 | h1
    · rcases List.mem_cons.1 (hp.mem_iff.1 h1) with rfl | h2
      · exact .inr hx
      · exact .inl h2
    · exact .inr h1⟩
theorem SkI.drop {cj : List Int} {M Mc Ml Mr : List EvS} {x : EvS} (h : SkI cj M Mc Ml) (hp : Ml.Perm (x :: Mr)) (hx : hasC cj (nameE x.e) = true) : SkI cj M (dropM x.e Mc) (dropM x.e Mr) where
  sub := List.filter_sublist.trans h.sub
  all := fun y hy => by
    rcases h.all y hy with h1 | h1
    · by_cases hn : nameE y.e = nameE x.e
      · exact .inr (by rw [hn]; exact hx)
      · exact .inl (List.mem_filter.2 ⟨h1, by simpa using hn⟩)
    · exact .inr h1
  left := fun y hy => by
    obtain ⟨h1, h2⟩ := List.mem_filter.1 hy
    rcases h.left y h1 with h3 | h3
    · rcases List.mem_cons.1 (hp.mem_iff.1 h3) with rfl | h4
      · simp at h2
      · exact .inl (List.mem_filter.2 ⟨h4, h2⟩)
    · exact .inr h3
theorem SkI.done {cj : List Int} {M Mc : List EvS} {H : List Ev} (h : SkI cj M Mc []) (hp : (M.map (·.e)).Perm H) (hn : H.Nodup) : (Mc.map (·.e)).Perm (keepE cj H) := by
  have hn2 : (M.map (·.e)).Nodup := hp.nodup_iff.2 hn
  refine (List.perm_ext_iff_of_nodup (List.Nodup.sublist (h.sub.map _) hn2) (List.Nodup.sublist List.filter_sublist hn)).2 fun e => ?_
  try unfold keepE
  rw [List.mem_filter, ← hp.mem_iff, List.mem_map, List.mem_map]
  constructor
  · rintro ⟨x, hx, rfl⟩
    refine ⟨⟨x, h.sub.subset hx, rfl⟩, ?_⟩
    rcases h.left x hx with h1 | h1
    · simp at h1
    · rw [h1]; rfl
  · rintro ⟨⟨x, hx, rfl⟩, h1⟩
    rcases h.all x hx with h2 | h2
    · exact ⟨x, h2, rfl⟩
    · rw [h2] at h1; cases h1
theorem delL_perm {d : Dt} {l m : List (Dt × Value)} (h : l.Perm m) : (delL d l).Perm (delL d m) := h.filter _
theorem BfW.delete {S : Nat → Prop} {base : Nat} {w w' : World} {b cb cc mb n : Nat} {c : List Int} {M : List EvS} {e : Ev} (h : BfW S base w b cb cc mb n c M) (k : Fx (fun q => q = mb) w w') (hm : MapL dtV w' mb (entL (dropM e M))) : BfW S base w' b cb cc mb n c (dropM e M) :=
  ⟨h.box.fx k h.blt h.n2, h.len, h.clk.fx k (fun q hq => by
    obtain rfl : cb = q := by simpa [Value.ownBlock] using hq
    exact h.n3), hm, fun x hx => by
    obtain ⟨g1, g2⟩ := h.past x (List.mem_filter.1 hx).1
    exact ⟨g1.fx k fun q hq hm => (g2 q hq).2.2.2 hm, g2⟩, h.n1, h.n2, h.n3, h.lb, h.lm, h.sb, h.sc, h.sm⟩
set_option maxRecDepth 8000 in
set_option maxHeartbeats 4000000 in
theorem bSkip_any {S : Nat → Prop} {base : Nat} {w : World} {b cb cc mb n : Nat} {c : List Int} {M : List EvS} (h : BfW S base w b cb cc mb n c M) (hS : ∀ q, S q → q < w.heap.size) {H : List Ev} (hH : (M.map (·.e)).Perm H) (ok : BfOk c H) (d : List Int) (v : Value) (hd0 : OwF S w fun W => Ints W v d) :
    Calls Try.prog 17 #[.pointer (some ⟨b, 0, none⟩), v] w (StepR S base w b mb n (skipE (c, H) d)) := by
  have hd := hd0.here
  obtain ⟨Av, cv, rfl, hcv1, hcv2⟩ := hd.form
  have C1 := hid (cValid_any d _ w hd)
  replace hH := hid hH
  have zb := h.blt
  have zc := h.clt
  have zm := h.mlt
  have hlen := hid h.len
  obtain ⟨m, hm⟩ : ∃ m, m = d.length := ⟨_, rfl⟩
  rw [← hm] at hd hd0 hcv1 C1 ⊢
  replace hm := hid hm
  go_enter Try.func17, Try.ntmps17
  go_wp2_with fail
  refine C1.out.mono ?_
  rintro z w1 ⟨rfl, k1⟩
  clear C1
  have y0 := k1.cellS (h.box.cell (j := 0) rfl)
  have zb1 := Nat.lt_of_lt_of_le zb k1.size
  cases hv : validC d with
  | false =>
    have HX : Hid (skipE (c, H) d = ((c, H), [], 1)) := hid (by unfold skipE; rw [if_pos (by simp [hv])])
    replace hv := hid hv
    go_wp2
    go_ret2
    rw [HX.out]
    exact ⟨_, [], M, S, cb, cc, w.heap.size, rfl, h.kp k1, hH.out, EsR.nil _ _, rfl, (k1).fx _, fun q hq => .inl hq, Nat.le_refl _, (k1).size⟩
  | true =>
    by_cases hmn : m = n
    · subst hmn
      have hdl : d.length = c.length := by rw [← hm.out, hlen.out]
      have hdv : validC d = true := hv
      replace hv := hid hv
      obtain ⟨j1, j2, j3, j4⟩ := joinC_ok ok.clk hv.out hdl
      have hc5 := (validC_iff.1 ok.clk).2
      have hL := isL2 w1 (h.clkI.keep (pl_stable _) k1) (hd.keep (pl_stable _) k1)
      have k2 := (Kp.refl w1).alloc (.cells #[.slice (some ⟨cb, 0, none⟩) m cc, .slice Av m cv] 27)
      have C2 := hid (cJoin_any c d w1.heap.size 2 _ hL)
      have hb1 := hid (h.kp (k1.trans k2))
      have k12 := k1.trans k2
      have hwz : w.heap.size ≤ w1.heap.size := k1.size
      have hz2 : (w1.alloc (.cells #[.slice (some ⟨cb, 0, none⟩) m cc, .slice Av m cv] 27)).heap.size = w1.heap.size + 1 := World.size_alloc _ _
      have hjl : (joinC c d).length = m := by rw [j2, hlen.out]
      have HJ := hid j4
      have hjv := hid j3
      have hm1 : 1 ≤ m := by have := hlen.out; omega
      replace hjl := hid hjl
      clear j1 j2 j3 j4 hL k2 h hd hcv1
      obtain ⟨cj, hcj⟩ : ∃ cj, cj = joinC c d := ⟨_, rfl⟩
      rw [← hcj] at hjl hjv C2
      replace hcj := hid hcj
      go_wp2_with fail
      refine C2.out.mono ?_
      rintro z w2 ⟨v2, rfl, own2, k2⟩
      obtain ⟨cb2, cc2, rfl, hcc1, hcc2, hge2, hlt2⟩ := own2.row (by have := hjl.out; omega)
      rw [hjl.out] at own2 ⊢
      have hb2 := hb1.out.kp k2
      have kw2 := k12.trans k2
      have y0 := hb2.box.cell (j := 0) rfl
      have f0 := hb2.box.free (j := 0) (by simp)
      have zb2 := hb2.blt
      have hbx3 := hb2.box.set (j := 0) (by simp) (.slice (some ⟨cb2, 0, none⟩) m cc2)
      simp only [List.set_cons_zero] at hbx3
      have fx3 : Fx (fun q => q = b) w2 (w2.setCell ⟨b, 0, none⟩ (.slice (some ⟨cb2, 0, none⟩) m cc2)) := (Fx.refl _ w2).setX ⟨b, 0, none⟩ _ (.inl rfl)
      have hz3 : (w2.setCell ⟨b, 0, none⟩ (.slice (some ⟨cb2, 0, none⟩) m cc2)).heap.size = w2.heap.size := set_size _ _ _
      have hcbn : w.heap.size ≤ cb2 := by omega
      have hz02 := kw2.size
      have hb3 : BfW (fun q => S q ∨ q = cb2) base (w2.setCell ⟨b, 0, none⟩ (.slice (some ⟨cb2, 0, none⟩) m cc2)) b cb2 cc2 mb m cj M :=
        ⟨hbx3, hjl.out, (own2.less (by have := hb2.lb; omega)).fx fx3 (fun q hq hx => by
          obtain rfl : cb2 = q := by simpa [Value.ownBlock] using hq
          omega), hb2.map.keep (fx3.block mb hb2.mlt (fun e => hb2.n2 e.symm)), fun x hx => by
          obtain ⟨g1, g2⟩ := hb2.past x hx
          exact ⟨g1.fx fx3 fun q hq hm => (g2 q hq).2.1 hm, fun q hq => ⟨.inl (g2 q hq).1, (g2 q hq).2.1, by have := hS q (g2 q hq).1; omega, (g2 q hq).2.2.2⟩⟩, by omega, hb2.n2, by omega, hb2.lb, hb2.lm, .inl hb2.sb, .inr rfl, .inl hb2.sm⟩
      have fxw : Fx S w (w2.setCell ⟨b, 0, none⟩ (.slice (some ⟨cb2, 0, none⟩) m cc2)) := (kw2.fx S).trans (fx3.mono fun q _ hq => by subst hq; exact hb2.sb)
      have hsb := hb2.sb
      have hsm := hb2.sm
      clear hb1 C2 own2 hbx3 fx3 hb2 k2 k12 kw2 k1
      go_upto_region 4 with (fail)
      generalize w2.setCell ⟨b, 0, none⟩ (.slice (some ⟨cb2, 0, none⟩) m cc2) = w3 at *
      have hcb3 : cb2 < w3.heap.size := by omega
      clear y0 f0 hlt2 hge2 hz2 hz02 zb1 zb2
      have y1 := hb3.box.cell (j := 1) rfl
      have hbl3 := hb3.blt
      have hmp := hb3.map
      replace hz3 := hid hz3
      go_wp2_with (at_range; refine wpl_range rfl 93 (.tmp 33) rfl rfl hmp Try.underlying93 ?_; intro ob hrg)
      go_frame
      have k4 := (Kp.refl w3).alloc ob
      have hz4 : (w3.alloc ob).heap.size = w3.heap.size + 1 := by simp
      have hb4 := hb3.kp k4
      have fx4 := fxw.trans (k4.fx S)
      generalize w3.alloc ob = w4 at *
      clear hb3 fxw y1 hmp k4
      have hbd3 := hid hb4.lm
      go_loopw [] (fun wr => ∃ (left : List (Dt × Value)) (Mc Ml : List EvS), Rng dtV wr mb w3.heap.size (entL Mc) left ∧ Hid (left.Perm (entL Ml)) ∧ Hid (SkI cj M Mc Ml) ∧ BfW (fun q => S q ∨ q = cb2) base wr b cb2 cc2 mb m cj Mc ∧ Fx S w wr ∧ w3.heap.size + 1 ≤ wr.heap.size) (fun wr => leftN wr mb w3.heap.size)
      case atStart => exact ⟨_, M, M, hrg, hid (.refl _), hid ⟨List.Sublist.refl _, fun x hx => .inl hx, fun x hx => .inl hx⟩, hb4, fx4, by omega⟩
      case round =>
        clear hrg hb4 fx4 hz4
        obtain ⟨left, Mc, Ml, hrg, HL, HI, hb, fx, hzr⟩ := hrel
        obtain ⟨wo, rfl⟩ : ∃ wo : World, wo = wr := ⟨_, rfl⟩
        go_wp2_with (at_next; refine wpl_next rfl (.tmp 34) rfl rfl hrg ?_ ?_)
        · intro hl0
          have hMl0 : Ml = [] := by
            have := HL.out.length_eq
            rw [hl0] at this
            unfold entL at this
            rw [List.length_map, List.length_nil] at this
            exact List.eq_nil_of_length_eq_zero this.symm
          subst hMl0
          have hpm := HI.out.done hH.out ok.sort.nodup
          have okj : BfOk cj (keepE cj H) := ⟨hjv.out, ok.sort.filter _, ok.names.sub List.filter_sublist, fun x hx => by
            have h1 := ok.ev x (List.mem_filter.1 hx).1
            exact ⟨h1.1, by rw [h1.2, hlen.out, hjl.out]⟩, Nat.le_trans (List.length_filter_le _ _) ok.len⟩
          have hwo := fx.size
          have C9 := hid (bSettle_any hb (fun q hq => by
            rcases hq with hq | rfl
            · have := hS q hq; omega
            · omega) hpm okj)
          have HX : Hid (skipE (c, H) d = (((settleE (keepE cj H).length cj (keepE cj H)).1, (settleE (keepE cj H).length cj (keepE cj H)).2.1), (settleE (keepE cj H).length cj (keepE cj H)).2.2, 0)) := hid (by
            unfold skipE
            rw [if_neg (by simp [hdv, hdl]), hcj.out])
          replace hl0 := hid hl0
          replace hpm := hid hpm
          replace okj := hid okj
          clear hrg HL HI
          go_wp2_with fail
          refine C9.out.mono ?_
          rintro z w9 ⟨v9, outs, M9, rfl, hb9, hp9, hE9, ho9, fx9⟩
          have fxf : Fx S w w9 := ((fx.mono (Y := fun q => S q ∨ q = cb2) fun q _ hq => .inl hq).trans (fx9.mono fun q _ hq => by rcases hq with rfl | rfl; exact .inl hsm; exact .inr rfl)).mono fun q hq hx => by
            rcases hx with hx | rfl
            · exact hx
            · omega
          have hz9 := fx9.size
          replace hp9 := hid hp9
          replace ho9 := hid ho9
          go_wp2
          go_ret2
          rw [HX.out]
          exact ⟨_, outs, M9, _, cb2, cc2, wo.heap.size, rfl, hb9, hp9.out, hE9, ho9.out, fxf, fun q hq => hq.imp id (fun h => by subst h; omega), hwo, hz9⟩
        · intro kr kn v left' w5 hp2 hmem hrg2 kg2 hz5 hen
          obtain ⟨x, Mr, hkn, rfl, hpx, hlp⟩ := entL_take (hp2.symm.trans HL.out)
          have HLN : Hid (left.length = left'.length + 1) := hid (by have := hp2.length_eq; simpa using this)
          have hleft := hrg.leftN
          obtain ⟨rfl, rfl⟩ : kr = x.e.r ∧ kn = x.e.n := by simpa [nameE] using hkn
          have fxi : Fx (fun q => q = w3.heap.size) wo w5 := kg2.fx (.inl rfl)
          have hb5 := hb.fx fxi (fun q hq hx => by
            rcases hq with hq | rfl
            · have := hS q hq; omega
            · omega)
          have hwo := fx.size
          have fx5 : Fx S w w5 := ((fx.mono (Y := fun q => S q ∨ q = w3.heap.size) fun q _ hq => .inl hq).trans (fxi.mono fun q _ hq => .inr hq)).mono fun q hq hx => by
            rcases hx with hx | rfl
            · exact hx
            · have := hz3.out; omega
          have hpx' := hid hpx
          have hlp' := hid hlp
          replace hz5 := hid hz5
          clear hp2 hmem hpx hlp hrg HL hb kg2 fxi fx hkn
          have k6 := (Kp.refl w5).alloc (.cells #[.int .i64 x.e.r, .int .i64 x.e.n] 66)
          have hB6 := Bx.new w5 #[.int .i64 x.e.r, .int .i64 x.e.n] 66
          have hrg6 := hrg2.keep (k6.block hrg2.map.lt) (k6.block hrg2.lt)
          have hb6 := hb5.kp k6
          have fx6 := fx5.trans (k6.fx S)
          have hz56 := k6.size
          clear k6 hb5 fx5 hrg2
          go_upto_region 7 with (fail)
          generalize w5.alloc (.cells #[.int .i64 x.e.r, .int .i64 x.e.n] 66) = w6 at *
          obtain ⟨db, hdb⟩ : ∃ db, db = w5.heap.size := ⟨_, rfl⟩
          rw [← hdb] at hB6 ⊢
          have hdl6 := hB6.lt (by simp)
          have d0 := hB6.cell (j := 0) rfl
          have d1 := hB6.cell (j := 1) rfl
          have y0 := hb6.box.cell (j := 0) rfl
          have y1 := hb6.box.cell (j := 1) rfl
          have hbl6 := hb6.blt
          have hz5o := hz5.out
          have hit : w3.heap.size < db := by omega
          replace hdb := hid hdb
          obtain ⟨hs, hhs⟩ : ∃ hs, hs = hasC cj (nameE x.e) := ⟨_, rfl⟩
          have HH : Hid (∀ W, Kp w6 W → Calls Try.prog 28 #[.slice (some ⟨cb2, 0, none⟩) m cc2, .agg #[.int .i64 x.e.r, .int .i64 x.e.n]] W fun z w' => z = .returned (.bool hs) ∧ Kp W w') := hid fun W k => by
            rw [hhs]
            exact cHas_any cj x.e.r x.e.n _ W (hb6.clkI.keep (pl_stable _) k)
          have hhs' := hid hhs
          clear hhs
          replace hz5o := hid hz5o
          refine G2.wp_region_growT Kp [] 5 52 (G2.pvL [G2.eqv (.pointer (some ⟨b, 0, none⟩)), G2.eqv (.pointer (some ⟨b, 0, none⟩)), G2.eqv (.pointer (some ⟨b, 0, none⟩)), G2.eqv (.slice (some ⟨cb2, 0, none⟩) m cc2), G2.eqv (.agg #[.int .i64 x.e.r, .int .i64 x.e.n])]) (by kernel_rfl) (by kernel_rfl) rfl (fun x => Kp.refl x) (fun _ _ _ h k => h.trans k) (Kp.refl _).drew (by intro _ _ _ _ _ h; exact h) (G2.pvL_keep (G2.stabL_cons (G2.stab_eq _) (G2.stabL_cons (G2.stab_eq _) (G2.stabL_cons (G2.stab_eq _) (G2.stabL_cons (G2.stab_eq _) (G2.stabL_cons (G2.stab_eq _) (G2.stabL_nil))))))) (G2.stepsT_cons 0 ?_ (G2.stepsT_cons 1 ?_ (G2.stepsT_cons 2 ?_ (G2.stepsT_cons 3 ?_ (G2.stepsT_cons 4 ?_ (G2.stepsT_nil _ _ _)))))) ?_ ?_
          · intro a w' hk hF hD K hK
            have h0 : a.tmps[0]?.getD undef = .pointer (some ⟨b, 0, none⟩) := hF 0 (by kernel_rfl)
            clear hF hD
            go_simp
            exact hK.out _ _ (Kp.refl _) rfl
          · intro a w' hk hF hD K hK
            have h39 : a.tmps[39]?.getD undef = .pointer (some ⟨b, 0, none⟩) := hD 0 (by kernel_rfl)
            clear hF hD
            go_simp
            exact hK.out _ _ (Kp.refl _) rfl
          · intro a w' hk hF hD K hK
            have h40 : a.tmps[40]?.getD undef = .pointer (some ⟨b, 0, none⟩) := hD 1 (by kernel_rfl)
            clear hF hD
            go_simp
            exact hK.out _ _ (Kp.refl _) rfl
          · intro a w' hk hF hD K hK
            have h41 : a.tmps[41]?.getD undef = .pointer (some ⟨b, 0, none⟩) := hD 2 (by kernel_rfl)
            clear hF hD
            have z0 := hk.cellS y0
            go_simp
            exact hK.out _ _ (Kp.refl _) rfl
          · intro a w' hk hF hD K hK
            have h6 : a.tmps[6]?.getD undef = .pointer (some ⟨db, 0, none⟩) := hF 6 (by kernel_rfl)
            clear hF hD
            have z0 := hk.cellS d0
            have z1 := hk.cellS d1
            go_simp
            exact hK.out _ _ (Kp.refl _) rfl
          · exact fun i0 hi0 => by simp at hi0
          intro v w9 k9 hv
          have v3 : v 3 = .slice (some ⟨cb2, 0, none⟩) m cc2 := hv 3 (by omega)
          have v4 : v 4 = .agg #[.int .i64 x.e.r, .int .i64 x.e.n] := hv 4 (by omega)
          clear hv
          simp only [G2.growPut, G2.gSlot, List.getElem?_toArray, List.getElem?_cons_zero, List.getElem?_cons_succ, Option.bind_some, List.setIfInBounds_toArray, List.set_cons_zero, List.set_cons_succ, List.drop_succ_cons, List.drop_zero, v3, v4]
          go_wp2_with fail
          refine (HH.out _ k9).mono ?_
          rintro z w8 ⟨rfl, k8⟩
          have k68 := k9.trans k8
          clear k9 k8 HH y0
          have hb8 := hb6.kp k68
          have hrg8 := hrg6.keep (k68.block hrg6.map.lt) (k68.block hrg6.lt)
          have fx8 := fx6.trans (k68.fx S)
          have hz68 := k68.size
          clear hb6 hrg6 fx6
          cases hs with
          | false =>
            have HI2 := hid (HI.out.keep hpx'.out hhs'.out.symm)
            clear d0 d1 y1
            go_wp2
            go_roundw
            case rel => exact ⟨left', Mc, Mr, hrg8, hlp', HI2, hb8, fx8, by omega⟩
            case measure => rw [hrg8.leftN, hleft, HLN.out]; omega
          | true =>
            have HI2 := hid (HI.out.drop hpx'.out hhs'.out.symm)
            have d0 := k68.cellS d0
            have d1 := k68.cellS d1
            have y1 := k68.cellS y1
            have hbl8 := hb8.blt
            have hdl8 := Nat.lt_of_lt_of_le hdl6 k68.size
            go_upto_region 8 with (fail)
            refine G2.wp_region_growT Kp [] 5 52 (G2.pvL [G2.eqv (.pointer (some ⟨b, 0, none⟩)), G2.eqv (.pointer (some ⟨b, 0, none⟩)), G2.eqv (.pointer (some ⟨b, 1, none⟩)), G2.eqv (.map (some mb)), G2.eqv (.agg #[.int .i64 x.e.r, .int .i64 x.e.n])]) (by kernel_rfl) (by kernel_rfl) rfl (fun x => Kp.refl x) (fun _ _ _ h k => h.trans k) (Kp.refl _).drew (by intro _ _ _ _ _ h; exact h) (G2.pvL_keep (G2.stabL_cons (G2.stab_eq _) (G2.stabL_cons (G2.stab_eq _) (G2.stabL_cons (G2.stab_eq _) (G2.stabL_cons (G2.stab_eq _) (G2.stabL_cons (G2.stab_eq _) (G2.stabL_nil))))))) (G2.stepsT_cons 0 ?_ (G2.stepsT_cons 1 ?_ (G2.stepsT_cons 2 ?_ (G2.stepsT_cons 3 ?_ (G2.stepsT_cons 4 ?_ (G2.stepsT_nil _ _ _)))))) ?_ ?_
            · intro a w' hk hF hD K hK
              have h0 : a.tmps[0]?.getD undef = .pointer (some ⟨b, 0, none⟩) := hF 0 (by kernel_rfl)
              clear hF hD
              go_simp
              exact hK.out _ _ (Kp.refl _) rfl
            · intro a w' hk hF hD K hK
              have h45 : a.tmps[45]?.getD undef = .pointer (some ⟨b, 0, none⟩) := hD 0 (by kernel_rfl)
              clear hF hD
              go_simp
              exact hK.out _ _ (Kp.refl _) rfl
            · intro a w' hk hF hD K hK
              have h46 : a.tmps[46]?.getD undef = .pointer (some ⟨b, 0, none⟩) := hD 1 (by kernel_rfl)
              clear hF hD
              go_simp
              exact hK.out _ _ (Kp.refl _) rfl
            · intro a w' hk hF hD K hK
              have h47 : a.tmps[47]?.getD undef = .pointer (some ⟨b, 1, none⟩) := hD 2 (by kernel_rfl)
              clear hF hD
              have z0 := hk.cellS y1
              go_simp
              exact hK.out _ _ (Kp.refl _) rfl
            · intro a w' hk hF hD K hK
              have h6 : a.tmps[6]?.getD undef = .pointer (some ⟨db, 0, none⟩) := hF 6 (by kernel_rfl)
              clear hF hD
              have z0 := hk.cellS d0
              have z1 := hk.cellS d1
              go_simp
              exact hK.out _ _ (Kp.refl _) rfl
            · exact fun i0 hi0 => by simp at hi0
            intro v w9 k9 hv
            have v3 : v 3 = .map (some mb) := hv 3 (by omega)
            have v4 : v 4 = .agg #[.int .i64 x.e.r, .int .i64 x.e.n] := hv 4 (by omega)
            clear hv
            simp only [G2.growPut, G2.gSlot, List.getElem?_toArray, List.getElem?_cons_zero, List.getElem?_cons_succ, Option.bind_some, List.setIfInBounds_toArray, List.set_cons_zero, List.set_cons_succ, List.drop_succ_cons, List.drop_zero, v3, v4]
            have hb9 := hb8.kp k9
            have hrg9 := hrg8.keep (k9.block hrg8.map.lt) (k9.block hrg8.lt)
            obtain ⟨wA, r1, r2, r3, r4⟩ := hrg9.del keyDt Try.underlying93 (nameE x.e) 0
            rw [entL_del] at r2
            refine wpl_mapdel0 rfl rfl (.tmp 48) (.tmp 49) 93 66 rfl rfl rfl r1 ?_
            have fxA : Fx (fun q => q = mb) w9 wA := r3.fx (.inl rfl)
            have hbA := hb9.delete fxA r2.map
            have fxA2 := (fx8.trans (k9.fx S)).trans (fxA.mono fun q _ hq => by subst hq; exact hsm)
            have hlA : Hid ((delL (nameE x.e) left').Perm (entL (dropM x.e Mr))) := hid (by
              rw [← entL_del]
              exact delL_perm hlp'.out)
            have hlen2 : (delL (nameE x.e) left').length ≤ left'.length := List.length_filter_le _ _
            have hzA := fxA.size
            have hz9 := k9.size
            clear r1 r3 r4 hb9 hrg9 hb8 hrg8 fx8 k9 d0 d1 y1
            go_wp2
            go_roundw
            case rel => exact ⟨_, _, _, r2, hlA, HI2, hbA, fxA2, by omega⟩
            case measure => rw [r2.leftN, hleft, HLN.out]; omega
    · have HX : Hid (skipE (c, H) d = ((c, H), [], 1)) := hid (by
        unfold skipE
        rw [if_pos]
        have : ¬ d.length = c.length := by rw [← hm.out, hlen.out]; exact hmn
        simp [this])
      have hmn' : ¬ (m : Int) = (n : Int) := by omega
      replace hv := hid hv
      go_wp2
      go_ret2
      rw [HX.out]
      exact ⟨_, [], M, S, cb, cc, w.heap.size, rfl, h.kp k1, hH.out, EsR.nil _ _, rfl, (k1).fx _, fun q hq => .inl hq, Nat.le_refl _, (k1).size⟩
end Go.Proofs.Ytcddllaljgfjbaa
