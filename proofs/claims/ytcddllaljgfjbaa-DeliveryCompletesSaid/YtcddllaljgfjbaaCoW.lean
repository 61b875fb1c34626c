
/-
DeliveryCompletes: when all of a closed set has arrived, all is delivered in an order that respects the pasts: the walk.
-/
import Derived.Test.YtcddllaljgfjbaaCoA
namespace Go.Proofs.Ytcddllaljgfjbaa
set_option linter.unusedSimpArgs false
set_option linter.unusedVariables false
open Go.RowKit

/-- events that the call owns, off a buffer's blocks -/
structure GotR (S : Nat → Prop) (gb : Nat) (w : World) (v : Value) (ys : List EvS) : Prop where
  es : EsR gb w v ys
  off : ∀ q, v.ownBlock = some q → ¬ S q
  pst : ∀ y ∈ ys, ∀ q, y.v.ownBlock = some q → ¬ S q
theorem GotR.nil (S : Nat → Prop) (gb : Nat) (w : World) : GotR S gb w (.slice none 0 0) [] := ⟨EsR.nil _ _, fun q hq => by simp [Value.ownBlock] at hq, by simp⟩
theorem GotR.kp {S : Nat → Prop} {gb : Nat} {w w' : World} {v : Value} {ys : List EvS} (h : GotR S gb w v ys) (k : Kp w w') : GotR S gb w' v ys := ⟨h.es.kp k, h.off, h.pst⟩
theorem GotR.step {S S' : Nat → Prop} {W w w1 w2 : World} {v v2 v' : Value} {ys zs : List EvS} {B b n : Nat} {s' : BfS} (h : GotR S W.heap.size w v ys) (fx : Fx S w w1) (ht : ∀ q, S' q → S q ∨ w.heap.size ≤ q) (hb : BfX S' W w1 b n s') (kw : Kp W w1)
    (h2 : EsR B w1 v2 zs) (hwB : w.heap.size ≤ B) (hSB : ∀ q, S' q → q < B) (hw0 : W.heap.size ≤ w.heap.size) (hown : Own encEs 33 13 W.heap.size w2 v' (ys ++ zs)) (hgrow : w1.grownBy w2 v.ownBlock) (hat : v'.ownBlock = v.ownBlock ∨ v'.ownBlock = some w1.heap.size) :
    GotR S' W.heap.size w2 v' (ys ++ zs) ∧ BfX S' W w2 b n s' ∧ Kp W w2 := by
  have hoff : ∀ q, v.ownBlock = some q → ¬ S' q := fun q hq hs => by
    rcases ht q hs with h1 | h1
    · exact h.off q hq h1
    · have := h.es.own.blt q hq; omega
  have hpst : ∀ y ∈ ys, ∀ q, y.v.ownBlock = some q → ¬ S' q := fun y hy q hq hs => by
    rcases ht q hs with h1 | h1
    · exact h.pst y hy q hq h1
    · have := (h.es.pst y hy).1.blt q hq; omega
  have hes : EsR W.heap.size w1 v ys := ⟨h.es.own.fx fx h.off, fun y hy => ⟨(h.es.pst y hy).1.fx fx (h.pst y hy), (h.es.pst y hy).2⟩⟩
  have fg : Fx (fun q => v.ownBlock = some q) w1 w2 := ⟨hgrow.os, hgrow.tape, hgrow.output, hgrow.size, fun i hi hx => hgrow.block i hi (fun e => hx e.symm)⟩
  refine ⟨⟨hes.more h2 (by omega) (fun q hq => ?_) hown hgrow hat, fun q hq hs => ?_, fun y hy q hq => ?_⟩, hb.fx fg fun q hq hx => hoff q hx hq, ((kw.fx _).trans fg).kp fun q hq hx => ?_⟩
  · have := h.es.own.blt q hq; omega
  · rcases hat with h3 | h3
    · exact hoff q (h3 ▸ hq) hs
    · rw [h3] at hq
      injection hq with hq
      have := (hb.lt q hs).2
      omega
  · rcases List.mem_append.1 hy with hy | hy
    · exact hpst y hy q hq
    · intro hs
      have h4 := (h2.pst y hy).1.ge q hq
      have h5 := hSB q hs
      omega
  · have := h.es.own.ge q hx; omega
theorem zeroC_nat' {n : Nat} (h1 : 1 ≤ n) (h2 : n ≤ 5) : (zeroC (n : Int)).length = n ∧ validC (zeroC (n : Int)) = true ∧ ∀ k, (zeroC (n : Int)).getD k 0 = 0 := by
  have e : zeroC (n : Int) = List.replicate n 0 := by
    unfold zeroC
    rw [if_neg (by omega), Int.toNat_natCast]
  rw [e]
  refine ⟨List.length_replicate, validC_iff.2 ⟨fun x hx => ?_, by rw [List.length_replicate]; exact ⟨h1, h2⟩⟩, fun k => ?_⟩
  · have := List.eq_of_mem_replicate hx
    omega
  · rw [List.getD_eq_getElem?_getD, List.getElem?_replicate]
    split <;> rfl
set_option maxRecDepth 8000 in
set_option maxHeartbeats 8000000 in
theorem completes_walk (l : List Ev) (sm : List Int) (vl vs : Value) (W : World) (hl : Evs W vl l) (hs : U8s W vs sm) : Calls Try.prog 8 #[vl, vs] W fun e W' => e = .returned (.bool true) ∧ Kp W W' := by
  obtain ⟨A, ca, rfl, hca, hma⟩ := hl.form
  obtain ⟨As, cs, rfl, hcs, hms⟩ := hs.form
  obtain ⟨m, hm⟩ : ∃ m, m = l.length := ⟨_, rfl⟩
  obtain ⟨ms, hmS⟩ : ∃ ms, ms = sm.length := ⟨_, rfl⟩
  rw [← hm] at hl hca ⊢
  rw [← hmS] at hs hcs ⊢
  replace hm := hid hm
  replace hmS := hid hmS
  have HL := hid hl
  have HS := hid hs
  clear hl hs
  have C0 := hid (awake33_any W)
  go_enter Try.func8, Try.ntmps8
  go_wp2_with fail
  refine C0.out.mono ?_
  rintro z w1 ⟨rfl, k1⟩
  clear C0
  have C1 := hid (rFew32_zero l _ w1 (HL.out.keep rdEv_stable k1))
  go_wp2_with fail
  refine C1.out.mono ?_
  rintro z w2 ⟨fw, rfl, hfw, k2⟩
  have kw2 := k1.trans k2
  clear C1 k1 k2
  cases fw with
  | false =>
    go_wp2
    go_ret
    exact ⟨rfl, kw2⟩
  | true =>
    replace hfw := hid (hfw rfl)
    by_cases hm0 : m = 0
    · subst hm0
      go_wp2
      go_ret
      exact ⟨rfl, kw2⟩
    have m1 : ((m : Int) == 0) = false := by simp; omega
    have m2 : (m == 0) = false := by simp; omega
    have m3 : ¬ (m : Int) = 0 := by omega
    have mp : 0 < m := by omega
    have mpI : (0 : Int) < (m : Int) := by omega
    by_cases hm40 : m ≤ 40
    case neg =>
      have e1 : decide ((40 : Int) < (m : Int)) = true := decide_eq_true (by omega)
      go_wp2
      go_ret
      exact ⟨rfl, kw2⟩
    have m4 : decide ((40 : Int) < (m : Int)) = false := decide_eq_false (by omega)
    by_cases hs60 : ms ≤ 60
    case neg =>
      have e1 : decide ((60 : Int) < (ms : Int)) = true := decide_eq_true (by omega)
      go_wp2
      go_ret
      exact ⟨rfl, kw2⟩
    have s4 : decide ((60 : Int) < (ms : Int)) = false := decide_eq_false (by omega)
    have C2 := hid (eClosed_any l _ w2 (HL.out.keep rdEv_stable kw2))
    go_wp2_with fail
    refine C2.out.mono ?_
    rintro z w3 ⟨cl, rfl, hcl, k3⟩
    have kw3 := kw2.trans k3
    clear C2 k3 kw2
    cases cl with
    | false =>
      go_wp2
      go_ret
      exact ⟨rfl, kw3⟩
    | true =>
      have HCL := hid (hcl.1 rfl)
      clear hcl
      obtain ⟨p, o, v0, rfl, hpo, hr0, hv0⟩ := Sl.evAt HL.out (k := 0) (by rw [← hm.out]; exact mp)
      obtain ⟨n, hn⟩ : ∃ n, n = (l[0]'(by rw [← hm.out]; exact mp)).past.length := ⟨_, rfl⟩
      obtain ⟨A0, c0, rfl, hc0, hm0'⟩ := hv0.form
      have i3w := hr0 3 _ rfl
      have f0 := formedE_fe (HCL.out.fe _ (List.getElem_mem (l := l) (n := 0) (by rw [← hm.out]; exact mp)))
      have hn5 : 1 ≤ n ∧ n ≤ 5 := by rw [hn]; exact (validC_iff.1 f0.past).2
      rw [← hn] at hv0 hc0 i3w
      have HW : Hid (∀ e ∈ l, e.past.length = n) := hid (fun e he => by rw [hn]; exact HCL.out.width e he _ (List.getElem_mem _))
      replace hn := hid hn
      have HI3 := hid i3w
      have i3 := kw3.cellS i3w
      clear i3w hr0 hv0 f0
      have C5 := hid (cZero_any n w3)
      go_wp2_with fail
      refine C5.out.mono ?_
      rintro z w6 ⟨v6, rfl, own6, k6, -⟩
      obtain ⟨zl, zv, zz⟩ := zeroC_nat' hn5.1 hn5.2
      obtain ⟨zc, hzc⟩ : ∃ zc, zc = zeroC (n : Int) := ⟨_, rfl⟩
      rw [← hzc] at zl zv zz own6
      have HZC := hid hzc
      clear hzc
      replace zl := hid zl
      replace zv := hid zv
      replace zz := hid zz
      have kw6 := kw3.trans k6
      clear C5 i3
      have C6 := hid (bNewX kw6 zc v6 (own6.sl encInt_len))
      go_wp2_with fail
      refine C6.out.mono ?_
      rintro z w7 ⟨k7, ⟨hv, rfl⟩ | ⟨-, b, S1, rfl, hb1, hS1⟩⟩
      · rw [zv.out] at hv
        cases hv
      rw [zl.out] at hb1
      have kw7 := kw6.trans k7
      have hsk : CoS l zc (fun _ => False) (zc, []) [] := CoS.start zv.out (fun e he => (HW.out e he).trans zl.out.symm) HCL.out
      clear C6 own6 k6 kw6 k7 hS1
      go_wp2_with fail
      go_loopw [7, 62] (fun v7 vi wr => ∃ (j : Nat) (T : Ev → Prop) (s : BfS) (S : Nat → Prop) (G : List Ev) (ys : List EvS) (Ag : Option Addr) (cg : Nat), j ≤ ms ∧ vi = .int .i64 (j : Int) ∧ v7 = .slice Ag ys.length cg ∧ BfX S W wr b n s ∧ Hid (CoS l zc T s G) ∧ Hid (ys.map (·.e) = G) ∧ GotR S W.heap.size wr (.slice Ag ys.length cg) ys ∧ Kp W wr) (fun _ vi _ => ms - (intOf vi).toNat)
      case atStart => exact ⟨0, _, _, S1, [], [], none, 0, Nat.zero_le _, rfl, rfl, hb1, hid hsk, hid rfl, GotR.nil _ _ _, kw7⟩
      case round =>
        clear hb1 hsk kw7
        obtain ⟨j, T, s, S, G, ys, Ag, cg, hj, rfl, rfl, hb, hsk, hyG, hgot, kr⟩ := hrel
        obtain ⟨wo, rfl⟩ : ∃ wo : World, wo = wr := ⟨_, rfl⟩
        have hw0 := kr.size
        by_cases hjl : j < ms
        · have hjI : (j : Int) < (ms : Int) := by omega
          obtain ⟨ps, os, rfl, hps, y0, hx0, hx1⟩ := Sl.u8 (HS.out.keep rdU8_stable kr) (k := j) (by rw [← hmS.out]; exact hjl)
          generalize sm[j]'(by rw [← hmS.out]; exact hjl) = x at *
          obtain ⟨q, hq, hqm⟩ := tmod_nat hx0 mp
          have hqI : (q : Int) < (m : Int) := by omega
          have hql : q < l.length := by rw [← hm.out]; exact hqm
          obtain ⟨p', o', v, hA1, hpo', hr, hv⟩ := Sl.evAt HL.out hql
          obtain ⟨rfl, rfl⟩ : p' = _ ∧ o' = _ := by
            injection hA1 with h1
            injection h1 with h2 h3
            exact ⟨h2.symm, h3.symm⟩
          have HE : Hid (l[q] ∈ l) := hid (List.getElem_mem hql)
          generalize l[q] = e at *
          obtain ⟨L, hL⟩ : ∃ L, L = evL e v := ⟨_, rfl⟩
          have lL : L.length = 13 := by rw [hL]; rfl
          rw [← hL] at hr
          have hro := rangeAt_kp hr kr
          obtain ⟨hsk2, -⟩ := hsk.out.add (by rw [← hm.out]; omega) HE.out
          have hel : e.past.length ≤ 1000000000 := by rw [HW.out e HE.out]; omega
          have CA := bAddE hb kr hsk.out.sk.ok e v hv hel
          obtain ⟨R, hR⟩ : ∃ R, R = addE s e := ⟨_, rfl⟩
          rw [show evV e v = .agg L.toArray by rw [hL], ← hR] at CA
          rw [← hR] at hsk2
          replace CA := hid CA
          have hlen := hsk2.len
          rw [← hm.out, List.length_append] at hlen
          replace hsk2 := hid hsk2
          replace hR := hid hR
          replace hL := hid hL
          clear hv hr hA1
          go_wp2_with (refine wpList_load_mid rfl 33 (.tmp 74) rfl p' (o' + q * 13) rfl _ _ hro Try.underlying33 rfl (iEv lL) ?_)
          refine CA.out.mono ?_
          rintro z w10 ⟨A1, c1, S', outs, B, rfl, hb1', hE1, ho1, hB1, hSB, fx1, kw10, hs1⟩
          have hl1 : ys.length + outs.length ≤ 40 := by
            have h1 := congrArg List.length hyG.out
            have h2 := congrArg List.length ho1
            rw [List.length_map] at h1 h2
            omega
          have hga := hgot.es.own.fx fx1 hgot.off
          have hsrc := hE1.own.sl encEs_len
          replace ho1 := hid ho1
          have hw10 := kw10.size
          clear CA hro hlen hb
          go_wp2_with (at_builtin; refine wpl_append_flat rfl (.tmp 79) (.tmp 80) rfl stEvs encEs_len encEs_one rfl hga rfl hsrc (by omega) (by omega) (by omega) ?_; intro v8 w8 hown8 hgrow8 hat8 hnil8)
          replace hgrow8 : w10.grownBy w8 (Value.slice Ag ys.length cg).ownBlock := hgrow8
          obtain ⟨hg2, hb2, kw2'⟩ := hgot.step fx1 hs1 hb1' kw10 hE1 hB1 hSB hw0 hown8 hgrow8 hat8
          obtain ⟨A8, c8, rfl, -, -⟩ := hown8.form
          obtain ⟨ys2, hys2⟩ : ∃ ys2, ys2 = ys ++ outs := ⟨_, rfl⟩
          have hyG2 : Hid (ys2.map (·.e) = G ++ R.2.1) := hid (by rw [hys2, List.map_append, hyG.out, ho1.out])
          rw [← hys2] at hg2 ⊢
          replace hys2 := hid hys2
          clear hown8 hgrow8 hat8 hnil8 hga hsrc hE1 fx1 hb1' hgot hq
          go_wp2
          go_roundw
          case rel => exact ⟨j + 1, _, _, _, _, ys2, A8, c8, by omega, by go_num, rfl, hb2, hsk2, hyG2, hg2, kw2'⟩
          case measure => simp [intOf]; omega
        · have hjI : ¬ (j : Int) < (ms : Int) := by omega
          go_wp2_with fail
          go_loopw [7, 85] (fun v7 vi wr => ∃ (j : Nat) (T : Ev → Prop) (s : BfS) (S : Nat → Prop) (G : List Ev) (ys : List EvS) (Ag : Option Addr) (cg : Nat), j ≤ m ∧ vi = .int .i64 (j : Int) ∧ v7 = .slice Ag ys.length cg ∧ BfX S W wr b n s ∧ Hid (CoS l zc T s G) ∧ Hid (ys.map (·.e) = G) ∧ GotR S W.heap.size wr (.slice Ag ys.length cg) ys ∧ Hid (∀ x ∈ l.take j, T x) ∧ Kp W wr) (fun _ vi _ => m - (intOf vi).toNat)
          case atStart => exact ⟨0, _, _, _, _, ys, Ag, cg, Nat.zero_le _, rfl, rfl, hb, hsk, hyG, hgot, hid (by simp), kr⟩
          case round =>
            clear hb hsk kr hw0 hyG hgot
            obtain ⟨k, T, s, S, G, ys, Ag, cg, hk, rfl, rfl, hb, hsk, hyG, hgot, hT, kr⟩ := hrel
            obtain ⟨wi, rfl⟩ : ∃ wi : World, wi = wr := ⟨_, rfl⟩
            by_cases hkl : k < m
            · have hkI : (k : Int) < (m : Int) := by omega
              have hql : k < l.length := by rw [← hm.out]; exact hkl
              obtain ⟨p', o', v, hA1, hpo', hr, hv⟩ := Sl.evAt HL.out hql
              obtain ⟨rfl, rfl⟩ : p' = _ ∧ o' = _ := by
                injection hA1 with h1
                injection h1 with h2 h3
                exact ⟨h2.symm, h3.symm⟩
              have HE : Hid (l[k] ∈ l) := hid (List.getElem_mem hql)
              have HT := hid (List.take_succ_eq_append_getElem hql)
              generalize l[k] = e at *
              obtain ⟨Av, cv, rfl, -, -⟩ := hv.form
              obtain ⟨L, hL⟩ : ∃ L, L = evL e (.slice Av e.past.length cv) := ⟨_, rfl⟩
              have lL : L.length = 13 := by rw [hL]; rfl
              have oL : ∀ u ∈ L, u.oneCell' = true := by rw [hL]; simp [evL, Value.oneCell']
              rw [← hL] at hr
              have hro := rangeAt_kp hr kr
              obtain ⟨hsk2, hcode⟩ := hsk.out.add (by rw [← hm.out]; omega) HE.out
              have hel : e.past.length ≤ 1000000000 := by rw [HW.out e HE.out]; omega
              obtain ⟨R, hR⟩ : ∃ R, R = addE s e := ⟨_, rfl⟩
              obtain ⟨hth, hBy, kx⟩ := ev_boxE wi L lL
              obtain ⟨w8, hw8⟩ : ∃ w8, w8 = (wi.alloc (.cells #[.int .i64 0, .int .i64 0, .int .i64 0, .slice none 0 0, .int .i64 0, .int .i64 0, .int .i64 0, .int .i64 0, .int .i64 0, .int .i64 0, .int .i64 0, .int .i64 0, .int .i64 0] 33)).setCells wi.heap.size 0 L := ⟨_, rfl⟩
              rw [← hw8] at hBy kx
              replace hw8 := hid hw8
              have hb8 := hb.kp kx
              have kr8 := kr.trans kx
              have hgot8 := hgot.kp kx
              have hw0 := kr8.size
              have CA := bAddE hb8 kr8 hsk.out.sk.ok e _ hv hel
              rw [show evV e (.slice Av e.past.length cv) = .agg L.toArray by rw [hL], ← hR] at CA
              rw [← hR] at hsk2 hcode
              have hT2 : Hid (∀ x ∈ l.take (k + 1), T x ∨ x = e) := hid (fun x hx => by
                rw [HT.out] at hx
                rcases List.mem_append.1 hx with hx | hx
                · exact .inl (hT.out x hx)
                · exact .inr (by simpa using hx))
              obtain ⟨rs, r1, r2⟩ := R
              dsimp only at hsk2 hcode CA
              replace CA := hid CA
              have hlen := hsk2.len
              rw [← hm.out, List.length_append] at hlen
              replace hsk2 := hid hsk2
              replace hR := hid hR
              replace hL := hid hL
              clear hv hr hA1 hb hgot
              go_wp2_with (first | (refine wpList_load_mid rfl 33 (.tmp 87) rfl p' (o' + k * 13) rfl _ _ hro Try.underlying33 rfl (iEv lL) ?_) | (refine wpList_store_mid rfl 33 (.tmp 13) (.tmp 88) rfl wi.heap.size 0 L.toArray rfl rfl hth (iEv2 lL) (all_oneCell_toArray oL) ?_; rw [List.toList_toArray, ← hw8.out]) | (refine wpl_load_mid_g (by simp [Region.wanted, yielded]) 33 (.tmp 13) rfl wi.heap.size 0 rfl _ _ hBy.range Try.underlying33 rfl (iEv lL) ?_))
              refine CA.out.mono ?_
              rintro z w10 ⟨A1, c1, S', outs, B, rfl, hb1', hE1, ho1, hB1, hSB, fx1, kw10, hs1⟩
              have hl1 : ys.length + outs.length ≤ 40 := by
                have h1 := congrArg List.length hyG.out
                have h2 := congrArg List.length ho1
                rw [List.length_map] at h1 h2
                omega
              have hga := hgot8.es.own.fx fx1 hgot8.off
              have hsrc := hE1.own.sl encEs_len
              replace ho1 := hid ho1
              have hw10 := kw10.size
              clear CA hro hlen hBy hth hb8
              rcases hcode with rfl | rfl
              · go_wp2_with (at_builtin; refine wpl_append_flat rfl (.tmp 101) (.tmp 102) rfl stEvs encEs_len encEs_one rfl hga rfl hsrc (by omega) (by omega) (by omega) ?_; intro v8 w8 hown8 hgrow8 hat8 hnil8)
                replace hgrow8 : w10.grownBy w8 (Value.slice Ag ys.length cg).ownBlock := hgrow8
                obtain ⟨hg2, hb2, kw2'⟩ := hgot8.step fx1 hs1 hb1' kw10 hE1 hB1 hSB hw0 hown8 hgrow8 hat8
                obtain ⟨A8, c8, rfl, -, -⟩ := hown8.form
                obtain ⟨ys2, hys2⟩ : ∃ ys2, ys2 = ys ++ outs := ⟨_, rfl⟩
                have hyG2 : Hid (ys2.map (·.e) = G ++ r1) := hid (by rw [hys2, List.map_append, hyG.out, ho1.out])
                rw [← hys2] at hg2 ⊢
                replace hys2 := hid hys2
                clear hown8 hgrow8 hat8 hnil8 hga hsrc hE1 fx1 hb1' hgot8
                go_wp2
                go_roundw
                case rel => exact ⟨k + 1, _, _, _, _, ys2, A8, c8, by omega, by go_num, rfl, hb2, hsk2, hyG2, hg2, hT2, kw2'⟩
                case measure => simp [intOf]; omega
              · go_wp2_with (at_builtin; refine wpl_append_flat rfl (.tmp 101) (.tmp 102) rfl stEvs encEs_len encEs_one rfl hga rfl hsrc (by omega) (by omega) (by omega) ?_; intro v8 w8 hown8 hgrow8 hat8 hnil8)
                replace hgrow8 : w10.grownBy w8 (Value.slice Ag ys.length cg).ownBlock := hgrow8
                obtain ⟨hg2, hb2, kw2'⟩ := hgot8.step fx1 hs1 hb1' kw10 hE1 hB1 hSB hw0 hown8 hgrow8 hat8
                obtain ⟨A8, c8, rfl, -, -⟩ := hown8.form
                obtain ⟨ys2, hys2⟩ : ∃ ys2, ys2 = ys ++ outs := ⟨_, rfl⟩
                have hyG2 : Hid (ys2.map (·.e) = G ++ r1) := hid (by rw [hys2, List.map_append, hyG.out, ho1.out])
                rw [← hys2] at hg2 ⊢
                replace hys2 := hid hys2
                clear hown8 hgrow8 hat8 hnil8 hga hsrc hE1 fx1 hb1' hgot8
                go_wp2
                go_roundw
                case rel => exact ⟨k + 1, _, _, _, _, ys2, A8, c8, by omega, by go_num, rfl, hb2, hsk2, hyG2, hg2, hT2, kw2'⟩
                case measure => simp [intOf]; omega
            · have hkI : ¬ (k : Int) < (m : Int) := by omega
              obtain rfl : k = m := by omega
              obtain ⟨hH, hPm, hCk⟩ := hsk.out.over zz.out (by
                have := hT.out
                rw [hm.out, List.take_length] at this
                exact this)
              have hym : ys.length = k := by
                have h1 := congrArg List.length hyG.out
                have h2 := hPm.length_eq
                rw [List.length_map] at h1
                rw [hm.out]
                omega
              rw [hym] at hgot ⊢
              have CK := eClock_any l _ wi n (HL.out.keep rdEv_stable kr) HCL.out HW.out hn5.1 hn5.2
              rw [← HZC.out, ← hCk] at CK
              replace CK := hid CK
              replace hPm := hid hPm
              replace hCk := hid hCk
              replace hH := hid hH
              replace hym := hid hym
              have i3 := kr.cellS HI3.out
              have hkk : ((k : Int) != (k : Int)) = false := by simp
              clear hT
              go_wp2_with fail
              refine CK.out.mono ?_
              rintro z w9 ⟨Ab, cb, rfl, ownb, k9⟩
              have hb9 := hb.kp k9
              have CH := bHeldX hb9 hsk.out.sk.ok
              rw [hH.out] at CH
              replace CH := hid CH
              clear CK i3 hb
              go_wp2_with fail
              refine CH.out.mono ?_
              rintro z w10 ⟨A10, c10, rfl, -, k10⟩
              have hb10 := hb9.kp k10
              have CM := bMissingX hb10 hsk.out.sk.ok
              rw [show missE s = [] by rw [show s = (s.1, []) from Prod.ext rfl hH.out]; exact missE_nil _] at CM
              replace CM := hid CM
              clear CH hb9
              go_wp2_with fail
              refine CM.out.mono ?_
              rintro z w11 ⟨v11, rfl, own11, k11⟩
              obtain ⟨A11, c11, rfl, -, -⟩ := own11.form
              have hb11 := hb10.kp k11
              have CC := hid (bClockX hb11 (by omega))
              clear CM hb10 own11
              go_wp2_with fail
              refine CC.out.mono ?_
              rintro z w12 ⟨A12, c12, rfl, own12, k12⟩
              have k912 := (k10.trans k11).trans k12
              have CE := EqualI_any _ _ s.1 s.1 w12 (own12.sl encInt_len) ((ownb.kp k912).sl encInt_len)
              rw [show decide (s.1 = s.1) = true by simp] at CE
              replace CE := hid CE
              clear CC own12 hb11
              go_wp2_with fail
              refine CE.out.mono ?_
              rintro z w13 ⟨rfl, k13⟩
              have kall := (k9.trans k912).trans k13
              have kw13 := kr.trans kall
              have hg13 := hgot.kp kall
              have HEv : Hid (Evs w13 (.slice Ag k cg) G) := hid (by
                have := hg13.es.evs
                rw [hyG.out] at this
                exact this)
              have HEl := hid (hg13.es.own.sl encEs_len)
              have HPs : Hid (∀ x ∈ ys, Ints w13 x.v x.e.past) := hid fun x hx => (hg13.es.pst x hx).1.sl encInt_len
              have HGl : Hid (G.length = k) := hid (by rw [← hyG.out, List.length_map, hym.out])
              obtain ⟨gg, cg', hfe, hkc, hcm, -, -⟩ := hg13.es.own.row (by rw [hym.out]; omega)
              obtain ⟨rfl, rfl⟩ : Ag = some ⟨gg, 0, none⟩ ∧ cg' = cg := by
                injection hfe with h1 h2 h3
                exact ⟨h1, h3.symm⟩
              rw [hym.out] at hkc
              clear hfe CE ownb hgot k912 k13 k9 k10 k11 k12 kall hg13 kr
              go_wp2_with fail
              go_loopw [145] (fun vi wr => ∃ (i : Nat), i ≤ k ∧ vi = .int .i64 (i : Int) ∧ Kp w13 wr) (fun vi _ => k - (intOf vi).toNat)
              case atStart => exact ⟨0, Nat.zero_le _, rfl, Kp.refl _⟩
              case round =>
                obtain ⟨i, hi, rfl, ki⟩ := hrel
                obtain ⟨wj, rfl⟩ : ∃ wj : World, wj = wr := ⟨_, rfl⟩
                by_cases hik : i < k
                · have hiI : (i : Int) < (k : Int) := by omega
                  have hsl : ∀ w, (Instr.slice 35 (.slice (some ⟨gg, 0, none⟩) k cg') none (some (.int .i64 ((i : Int) + 1))) none).run Try.prog w = .ok (.slice (some ⟨gg, 0, none⟩) (i + 1) cg') w := fun w => by
                    have h := slice_hi stEvs (some ⟨gg, 0, none⟩) (fun p hp => by injection hp with hp; rw [← hp]) k cg' (i + 1) (by omega) hkc w
                    rwa [show ((i + 1 : Nat) : Int) = (i : Int) + 1 from rfl] at h
                  have C := hid (eClosed_any (G.take (i + 1)) (.slice (some ⟨gg, 0, none⟩) (i + 1) cg') wj ((HEv.out.keep rdEv_stable ki).preE (i + 1) (by rw [HGl.out]; omega)))
                  go_wp2_with fail
                  refine C.out.mono ?_
                  rintro z w14 ⟨cl, rfl, hcl, k14⟩
                  obtain rfl : cl = true := hcl.2 (hsk.out.pre zz.out (i + 1))
                  have kf := ki.trans k14
                  clear hcl C
                  go_wp2
                  go_roundw
                  case rel => exact ⟨i + 1, by omega, by go_num, kf⟩
                  case measure => simp [intOf]; omega
                · have hiI : ¬ (i : Int) < (k : Int) := by omega
                  have CO1 := hid (eOrder_any _ ys wj (HEl.out.keep (pl_stable _) ki) (by rw [hym.out]; omega))
                  go_wp2_with fail
                  refine CO1.out.mono ?_
                  rintro z w14 ⟨v14, ys1, rfl, own14, hp1, hs1, k14⟩
                  obtain ⟨xs, hx1, hx2, hx3⟩ := evs_esl HL.out
                  have hxl : xs.length = k := by
                    have := congrArg List.length hx2
                    rw [List.length_map] at this
                    rw [hm.out]
                    exact this
                  have kw14 := (kw13.trans ki).trans k14
                  have CO2 := hid (eOrder_any _ xs w14 (hx1.keep (pl_stable _) kw14) (by omega))
                  replace hxl := hid hxl
                  replace hx2 := hid hx2
                  replace hx3 := hid hx3
                  clear CO1 hx1
                  go_wp2_with fail
                  refine CO2.out.mono ?_
                  rintro z w15 ⟨v15, ys2, rfl, own15, hp2, hs2, k15⟩
                  have hev1 : Evs w15 v14 (ys1.map (·.e)) := esl_evs ((own14.kp k15).sl encEs_len) fun x hx => (HPs.out x (hp1.mem_iff.1 hx)).keep (pl_stable _) ((ki.trans k14).trans k15)
                  have hev2 : Evs w15 v15 (ys2.map (·.e)) := esl_evs (own15.sl encEs_len) fun x hx => (hx3.out x (hp2.mem_iff.1 hx)).keep (pl_stable _) (kw14.trans k15)
                  have hN := HCL.out.names
                  have q1 : ys1.map (·.e) = ordE l := sortE_of (List.pairwise_map.2 hs1) (((hp1.map _).trans (by rw [hyG.out]; exact hPm.out)).trans (ordE_perm l).symm) (ordE_sort hN)
                  have q2 : ys2.map (·.e) = ordE l := sortE_of (List.pairwise_map.2 hs2) (((hp2.map _).trans (by rw [hx2.out])).trans (ordE_perm l).symm) (ordE_sort hN)
                  rw [q1] at hev1
                  rw [q2] at hev2
                  have CQ := hid (rSame_refl _ _ _ w15 hev1 hev2)
                  have kw15 := kw14.trans k15
                  clear CO2 q1 q2 hev1 hev2 own14 own15 hp1 hp2 hs1 hs2 k14 k15
                  go_wp2_with fail
                  refine CQ.out.mono ?_
                  rintro z w16 ⟨rfl, k16⟩
                  have kf := kw15.trans k16
                  go_wp2
                  go_ret
                  exact ⟨rfl, kf⟩
end Go.Proofs.Ytcddllaljgfjbaa
