
/-
DeliverySkips: a skip of a join is the skip of its parts: the walk.
-/
import Derived.Test.YtcddllaljgfjbaaSK
import Derived.Test.YtcddllaljgfjbaaCsW
namespace Go.Proofs.Ytcddllaljgfjbaa
set_option linter.unusedSimpArgs false
set_option linter.unusedVariables false
open Go.RowKit

theorem off_of {S S' X : Nat → Prop} {m : Nat} (hd : ∀ q, S q → ¬ X q) (h1 : ∀ q, S' q → S q ∨ m ≤ q) (h2 : ∀ q, X q → q < m) : ∀ q, S' q → ¬ X q := fun q hq hx => by
  rcases h1 q hq with h | h
  · exact hd q h hx
  · have := h2 q hx; omega
theorem off_of' {S S' X : Nat → Prop} {m : Nat} (hd : ∀ q, X q → ¬ S q) (h1 : ∀ q, S' q → S q ∨ m ≤ q) (h2 : ∀ q, X q → q < m) : ∀ q, X q → ¬ S' q := fun q hx hq => by
  rcases h1 q hq with h | h
  · exact hd q hx h
  · have := h2 q hx; omega
theorem zeroC_nat {n : Nat} (h1 : 1 ≤ n) (h2 : n ≤ 5) : (zeroC (n : Int)).length = n ∧ validC (zeroC (n : Int)) = true ∧ ∀ k, (zeroC (n : Int)).getD k 0 = 0 := by
  have e : zeroC (n : Int) = List.replicate n 0 := by
    unfold zeroC
    rw [if_neg (by omega), Int.toNat_natCast]
  rw [e]
  refine ⟨List.length_replicate, validC_iff.2 ⟨fun x hx => ?_, by rw [List.length_replicate]; exact ⟨h1, h2⟩⟩, fun k => ?_⟩
  · have := List.eq_of_mem_replicate hx
    omega
  · rw [List.getD_eq_getElem?_getD, List.getElem?_replicate]
    split <;> rfl
set_option maxRecDepth 8000 in
set_option maxHeartbeats 8000000 in
theorem skips_walk (l : List Ev) (sm a c : List Int) (vl vs va vc : Value) (W : World) (hl : Evs W vl l) (hs : U8s W vs sm) (ha : Ints W va a) (hc : Ints W vc c) : Calls Try.prog 7 #[vl, vs, va, vc] W fun e W' => e = .returned (.bool true) ∧ Kp W W' := by
  obtain ⟨A, ca, rfl, hca, hma⟩ := hl.form
  obtain ⟨As, cs, rfl, hcs, hms⟩ := hs.form
  obtain ⟨Aa, cca, rfl, hcca, hmca⟩ := ha.form
  obtain ⟨Ac, ccc, rfl, hccc, hmcc⟩ := hc.form
  obtain ⟨m, hm⟩ : ∃ m, m = l.length := ⟨_, rfl⟩
  obtain ⟨ms, hmS⟩ : ∃ ms, ms = sm.length := ⟨_, rfl⟩
  obtain ⟨n, hn⟩ : ∃ n, n = a.length := ⟨_, rfl⟩
  obtain ⟨nc, hnc⟩ : ∃ nc, nc = c.length := ⟨_, rfl⟩
  rw [← hm] at hl hca ⊢
  rw [← hmS] at hs hcs ⊢
  rw [← hn] at ha hcca ⊢
  rw [← hnc] at hc hccc ⊢
  replace hm := hid hm
  replace hmS := hid hmS
  replace hn := hid hn
  replace hnc := hid hnc
  have HL := hid hl
  have HS := hid hs
  have HA := hid ha
  have HC := hid hc
  clear hl hs ha hc
  have C0 := hid (awake33_any W)
  go_enter Try.func7, Try.ntmps7
  go_wp2_with fail
  refine C0.out.mono ?_
  rintro z w1 ⟨rfl, k1⟩
  clear C0
  have C1 := hid (rFew32_zero l _ w1 (HL.out.keep rdEv_stable k1))
  go_wp2_with fail
  refine C1.out.mono ?_
  rintro z w2 ⟨fw, rfl, hfw, k2⟩
  have kw2 := k1.trans k2
  clear C1 k1 k2
  cases fw with
  | false =>
    go_wp2
    go_ret
    exact ⟨rfl, kw2⟩
  | true =>
    replace hfw := hid (hfw rfl)
    by_cases hm0 : m = 0
    · subst hm0
      go_wp2
      go_ret
      exact ⟨rfl, kw2⟩
    have m1 : ((m : Int) == 0) = false := by simp; omega
    have m2 : (m == 0) = false := by simp; omega
    have m3 : ¬ (m : Int) = 0 := by omega
    have mp : 0 < m := by omega
    have mpI : (0 : Int) < (m : Int) := by omega
    by_cases hm40 : m ≤ 40
    case neg =>
      have e1 : decide ((40 : Int) < (m : Int)) = true := decide_eq_true (by omega)
      go_wp2
      go_ret
      exact ⟨rfl, kw2⟩
    have m4 : decide ((40 : Int) < (m : Int)) = false := decide_eq_false (by omega)
    by_cases hs40 : ms ≤ 40
    case neg =>
      have e1 : decide ((40 : Int) < (ms : Int)) = true := decide_eq_true (by omega)
      go_wp2
      go_ret
      exact ⟨rfl, kw2⟩
    have s4 : decide ((40 : Int) < (ms : Int)) = false := decide_eq_false (by omega)
    have C2 := hid (eClosed_any l _ w2 (HL.out.keep rdEv_stable kw2))
    go_wp2_with fail
    refine C2.out.mono ?_
    rintro z w3 ⟨cl, rfl, hcl, k3⟩
    have kw3 := kw2.trans k3
    clear C2 k3
    cases cl with
    | false =>
      go_wp2
      go_ret
      exact ⟨rfl, kw3⟩
    | true =>
      have HCL := hid (hcl.1 rfl)
      clear hcl
      have C3 := cValid_any a _ w3 (HA.out.keep (pl_stable _) kw3)
      cases hva : validC a with
      | false =>
        rw [hva] at C3
        replace C3 := hid C3
        clear hva
        go_wp2_with fail
        refine C3.out.mono ?_
        rintro z w4 ⟨rfl, k4⟩
        have kw4 := kw3.trans k4
        go_wp2
        go_ret
        exact ⟨rfl, kw4⟩
      | true =>
        rw [hva] at C3
        replace C3 := hid C3
        replace hva := hid hva
        go_wp2_with fail
        refine C3.out.mono ?_
        rintro z w4 ⟨rfl, k4⟩
        have kw4 := kw3.trans k4
        clear C3 kw3 k4
        have C4 := cValid_any c _ w4 (HC.out.keep (pl_stable _) kw4)
        cases hvc : validC c with
        | false =>
          rw [hvc] at C4
          replace C4 := hid C4
          clear hvc
          go_wp2_with fail
          refine C4.out.mono ?_
          rintro z w5 ⟨rfl, k5⟩
          have kw5 := kw4.trans k5
          go_wp2
          go_ret
          exact ⟨rfl, kw5⟩
        | true =>
          rw [hvc] at C4
          replace C4 := hid C4
          replace hvc := hid hvc
          obtain ⟨p, o, v0, rfl, hpo, hr0, hv0⟩ := Sl.evAt HL.out (k := 0) (by rw [← hm.out]; exact mp)
          obtain ⟨p0, hp0⟩ : ∃ p0, p0 = (l[0]'(by rw [← hm.out]; exact mp)).past.length := ⟨_, rfl⟩
          obtain ⟨A0, c0, rfl, hc0, hm0'⟩ := hv0.form
          have i3 := hr0 3 _ rfl
          rw [← hp0] at hv0 hc0 i3
          replace hp0 := hid hp0
          go_wp2_with fail
          refine C4.out.mono ?_
          rintro z w5 ⟨rfl, k5⟩
          have kw5 := kw4.trans k5
          replace i3 := kw5.cellS i3
          clear C4 kw4 k5 hr0 hv0
          by_cases hnp : n = p0
          case neg =>
            have e1 : ((n : Int) != (p0 : Int)) = true := by simp; omega
            have e2 : (n != p0) = true := by simp; omega
            go_wp2
            go_ret
            exact ⟨rfl, kw5⟩
          by_cases hcn : nc = n
          case neg =>
            have e1 : ((n : Int) != (p0 : Int)) = false := by simp; omega
            have e2 : (n != p0) = false := by simp; omega
            have e3 : ((nc : Int) != (n : Int)) = true := by simp; omega
            have e4 : (nc != n) = true := by simp; omega
            go_wp2
            go_ret
            exact ⟨rfl, kw5⟩
          have e1 : ((n : Int) != (p0 : Int)) = false := by simp; omega
          have e2 : (n != p0) = false := by simp; omega
          have e3 : ((nc : Int) != (n : Int)) = false := by simp; omega
          have e4 : (nc != n) = false := by simp; omega
          have hn5 : 1 ≤ n ∧ n ≤ 5 := by rw [hn.out]; exact (validC_iff.1 hva.out).2
          have HW : Hid (∀ e ∈ l, e.past.length = n) := hid (fun e he => by rw [hnp, hp0.out]; exact HCL.out.width e he _ (List.getElem_mem _))
          have HCN : Hid (c.length = n) := hid (by rw [← hnc.out]; exact hcn)
          have HAN : Hid (a.length = n) := hid hn.out.symm
          have C5 := hid (cZero_any n w5)
          replace hnp := hid hnp
          replace hcn := hid hcn
          go_wp2_with fail
          refine C5.out.mono ?_
          rintro z w6 ⟨v6, rfl, own6, k6, -⟩
          obtain ⟨zl, zv, zz⟩ := zeroC_nat hn5.1 hn5.2
          obtain ⟨zc, hzc⟩ : ∃ zc, zc = zeroC (n : Int) := ⟨_, rfl⟩
          rw [← hzc] at zl zv zz own6
          have HZC := hid hzc
          clear hzc
          replace zl := hid zl
          replace zv := hid zv
          replace zz := hid zz
          have kw6 := kw5.trans k6
          clear C5 i3
          have C6 := hid (bNewX kw6 zc v6 (own6.sl encInt_len))
          go_wp2_with fail
          refine C6.out.mono ?_
          rintro z w7 ⟨k7, ⟨hv, rfl⟩ | ⟨-, b, S1, rfl, hb1, hS1⟩⟩
          · rw [zv.out] at hv
            cases hv
          rw [zl.out] at hb1
          have kw7 := kw6.trans k7
          clear C6 own6 k6 kw6
          have C7 := hid (cZero_any n w7)
          go_wp2_with fail
          refine C7.out.mono ?_
          rintro z w8 ⟨v8, rfl, own8, k8, -⟩
          rw [show zeroC (n : Int) = zc from HZC.out.symm] at own8
          have kw8 := kw7.trans k8
          have C8 := hid (bNewX kw8 zc v8 (own8.sl encInt_len))
          go_wp2_with fail
          refine C8.out.mono ?_
          rintro z w9 ⟨k9, ⟨hv, rfl⟩ | ⟨-, b2, S2, rfl, hb2, hS2⟩⟩
          · rw [zv.out] at hv
            cases hv
          rw [zl.out] at hb2
          have kw9 := kw8.trans k9
          have hb3 := hb1.kp (k8.trans k9)
          have hd0 : ∀ q, S1 q → ¬ S2 q := fun q h1 h2 => by
            have h3 := (hb1.lt q h1).2
            have h4 := hS2 q h2
            have h5 := k8.size
            omega
          have hsk : SkS l zc (fun _ => False) (zc, []) := SkS.start zv.out (fun e he => (HW.out e he).trans zl.out.symm) HCL.out
          clear C7 C8 own8 hS1 hS2 k7 k8 kw5 kw7 kw8 hb1 k9
          go_wp2_with fail
          go_loopw [105] (fun vi wr => ∃ (j : Nat) (T : Ev → Prop) (s : BfS) (S1 S2 : Nat → Prop), j ≤ ms ∧ vi = .int .i64 (j : Int) ∧ BfX S1 W wr b n s ∧ BfX S2 W wr b2 n s ∧ Hid (SkS l zc T s) ∧ Hid (∀ q, S1 q → ¬ S2 q) ∧ Kp W wr) (fun vi _ => ms - (intOf vi).toNat)
          case atStart => exact ⟨0, _, _, S1, S2, Nat.zero_le _, rfl, hb3, hb2, hid hsk, hid hd0, kw9⟩
          case round =>
            clear hb3 hb2 hsk hd0 kw9
            obtain ⟨j, T, s, S1, S2, hj, rfl, hb1, hb2, hsk, hd, kr⟩ := hrel
            obtain ⟨wo, rfl⟩ : ∃ wo : World, wo = wr := ⟨_, rfl⟩
            by_cases hjl : j < ms
            · have hjI : (j : Int) < (ms : Int) := by omega
              obtain ⟨ps, os, rfl, hps, y0, hx0, hx1⟩ := Sl.u8 (HS.out.keep rdU8_stable kr) (k := j) (by rw [← hmS.out]; exact hjl)
              generalize sm[j]'(by rw [← hmS.out]; exact hjl) = x at *
              obtain ⟨q, hq, hqm⟩ := tmod_nat hx0 mp
              have hqI : (q : Int) < (m : Int) := by omega
              have hql : q < l.length := by rw [← hm.out]; exact hqm
              obtain ⟨p, o, v, hA1, hpo, hr, hv⟩ := Sl.evAt HL.out hql
              obtain ⟨rfl, rfl⟩ : p = _ ∧ o = _ := by
                injection hA1 with h1
                injection h1 with h2 h3
                exact ⟨h2.symm, h3.symm⟩
              have HE : Hid (l[q] ∈ l) := hid (List.getElem_mem hql)
              generalize l[q] = e at *
              obtain ⟨L, hL⟩ : ∃ L, L = evL e v := ⟨_, rfl⟩
              have lL : L.length = 13 := by rw [hL]; rfl
              rw [← hL] at hr
              have hro := rangeAt_kp hr kr
              obtain ⟨hsk2, hcd⟩ := hsk.out.add (by rw [← hm.out]; omega) HE.out
              have hel : e.past.length ≤ 1000000000 := by rw [HW.out e HE.out]; omega
              obtain ⟨R, hR⟩ : ∃ R, R = addE s e := ⟨_, rfl⟩
              have CA := bAddX hb1 kr hsk.out.ok e v hv hel
              have HAD : Hid (∀ S w, BfX S W w b2 n s → Kp W w → Calls Try.prog 12 #[.pointer (some ⟨b2, 0, none⟩), .agg L.toArray] w (StepX S W w b2 n R)) := hid fun S w h k => by
                have := bAddX h k hsk.out.ok e v hv hel
                rw [show evV e v = .agg L.toArray by rw [hL], ← hR] at this
                exact this
              rw [show evV e v = .agg L.toArray by rw [hL], ← hR] at CA
              replace CA := hid CA
              rw [← hR] at hsk2
              replace hsk2 := hid hsk2
              replace hR := hid hR
              replace hL := hid hL
              have hro0 := hid hr
              clear hcd hv hr hA1
              go_wp2_with (refine wpList_load_mid rfl 33 (.tmp 116) rfl p (o + q * 13) rfl _ _ hro Try.underlying33 rfl (iEv lL) ?_)
              refine CA.out.mono ?_
              rintro z w10 ⟨v10, S1', rfl, hb1', -, -, -, fx1, kw10, hs1⟩
              have hb2' := hb2.fx fx1 fun q hq h => hd.out q h hq
              have hd1 := off_of hd.out hs1 fun q h => (hb2.lt q h).2
              have C2 := hid (HAD.out _ _ hb2' kw10)
              have hro2 := rangeAt_kp (hro0.out) kw10
              replace hd1 := hid hd1
              replace fx1 := hid fx1
              replace hs1 := hid hs1
              clear CA hro
              go_wp2_with (refine wpList_load_mid rfl 33 (.tmp 126) rfl p (o + q * 13) rfl _ _ hro2 Try.underlying33 rfl (iEv lL) ?_)
              refine C2.out.mono ?_
              rintro z w11 ⟨v11, S2', rfl, hb2'', -, -, -, fx2, kw11, hs2⟩
              have hb1'' := hb1'.fx fx2 fun q hq h => hd1.out q hq h
              have hd2 := off_of' hd1.out hs2 fun q h => (hb1'.lt q h).2
              clear hb2' hb1' hro2 fx2 fx1 C2 hq
              go_wp2
              go_roundw
              case rel => exact ⟨j + 1, _, _, _, _, by omega, by go_num, hb1'', hb2'', hsk2, hid hd2, kw11⟩
              case measure => simp [intOf]; omega
            · have hjI : ¬ (j : Int) < (ms : Int) := by omega
              have hxa := HA.out.keep (pl_stable _) kr
              have hxc := HC.out.keep (pl_stable _) kr
              have hLL := isL2 wo hxa hxc
              have kL := (Kp.refl wo).alloc (.cells #[.slice Aa n cca, .slice Ac nc ccc] 27)
              have CJ := hid (cJoin_any a c wo.heap.size 2 _ hLL)
              obtain ⟨jv, jl, je⟩ := joins_same hsk.out.v0 hva.out hvc.out (HAN.out.trans zl.out.symm) (HCN.out.trans HAN.out.symm)
              have hle : LeC (joinC a c) (joinC zc (joinC a c)) := le_join hsk.out.v0 jv jl
              rw [zl.out] at jl
              obtain ⟨bo, hbo⟩ : ∃ bo, bo = joinC a c := ⟨_, rfl⟩
              rw [← hbo] at CJ jv jl je hle
              replace hbo := hid hbo
              replace jv := hid jv
              replace jl := hid jl
              replace je := hid je
              replace hle := hid hle
              clear hLL hxa hxc
              go_wp2_with fail
              refine CJ.out.mono ?_
              rintro z w10 ⟨vb, rfl, ownb, kJ⟩
              have kx := kL.trans kJ
              have hwz : wo.heap.size ≤ (wo.alloc (.cells #[.slice Aa n cca, .slice Ac nc ccc] 27)).heap.size := kL.size
              have ownb := ownb.less hwz
              have hb1' := hb1.kp kx
              have hb2' := hb2.kp kx
              have hbd1 : ∀ q, vb.ownBlock = some q → ¬ S1 q := fun q hq h => by have := ownb.ge q hq; have := (hb1.lt q h).2; omega
              have hbd2 : ∀ q, vb.ownBlock = some q → ¬ S2 q := fun q hq h => by have := ownb.ge q hq; have := (hb2.lt q h).2; omega
              have kw10 := kr.trans kx
              obtain ⟨Ab, cb, rfl, -, -⟩ := ownb.form
              rw [jl.out] at ownb hbd1 hbd2 ⊢
              replace hbd1 := hid hbd1
              replace hbd2 := hid hbd2
              replace hwz := hid hwz
              clear CJ hb1 hb2 kL kJ kx
              obtain ⟨hk1, hc1⟩ := hsk.out.skip hva.out (HAN.out.trans zl.out.symm)
              have CS := bSkipX hb1' kw10 hsk.out.ok a _ (kp_owF (fun w' k => HA.out.keep (pl_stable _) k) kw10 fun q hq => (hb1'.lt q hq).1)
              obtain ⟨s1, hs1⟩ : ∃ s1, s1 = (skipE s a).1 := ⟨_, rfl⟩
              obtain ⟨o1, ho1⟩ : ∃ o1, o1 = (skipE s a).2.1 := ⟨_, rfl⟩
              rw [show skipE s a = (s1, o1, 0) by rw [hs1, ho1, ← hc1]] at CS
              rw [← hs1] at hk1
              replace CS := hid CS
              replace hk1 := hid hk1
              replace hs1 := hid hs1
              replace ho1 := hid ho1
              clear hc1
              go_wp2_with fail
              refine CS.out.mono ?_
              rintro z w11 ⟨v11, S1', rfl, hb1'', -, -, -, fx1, kw11, ht1⟩
              have own11 := ownb.fx fx1 hbd1.out
              have hb2'' := hb2'.fx fx1 fun q hq h => hd.out q h hq
              have hd1 := off_of hd.out ht1 fun q h => (hb2'.lt q h).2
              have hbd3 : ∀ q, (Value.slice Ab n cb).ownBlock = some q → ¬ S1' q := fun q hq h => by
                rcases ht1 q h with h1 | h1
                · exact hbd1.out q hq h1
                · have := ownb.blt q hq; omega
              have jl1 : bo.length = (joinC zc a).length := jl.out.trans (hb1''.len.symm.trans hk1.out.len)
              obtain ⟨hk2, hc2⟩ := hk1.out.skip jv.out jl1
              rw [je.out] at hk2
              have CS2 := bSkipX hb1'' kw11 hk1.out.ok bo (.slice Ab n cb) (fun w' k => (own11.fx k hbd3).sl encInt_len)
              obtain ⟨s2, hs2⟩ : ∃ s2, s2 = (skipE s1 bo).1 := ⟨_, rfl⟩
              obtain ⟨o2, ho2⟩ : ∃ o2, o2 = (skipE s1 bo).2.1 := ⟨_, rfl⟩
              rw [show skipE s1 bo = (s2, o2, 0) by rw [hs2, ho2, ← hc2]] at CS2
              rw [← hs2] at hk2
              replace CS2 := hid CS2
              replace hk2 := hid hk2
              replace hs2 := hid hs2
              replace ho2 := hid ho2
              replace hd1 := hid hd1
              replace ht1 := hid ht1
              replace fx1 := hid fx1
              replace hbd3 := hid hbd3
              have own11sz := hid own11.blt
              replace jl1 := hid jl1
              clear hc2 CS hb1' hb2' ownb hbd1
              go_wp2_with fail
              refine CS2.out.mono ?_
              rintro z w12 ⟨v12, S1'', rfl, hb1, -, -, -, fx2, kw12, ht2⟩
              have own12 := own11.fx fx2 hbd3.out
              have hb2 := hb2''.fx fx2 fun q hq h => hd1.out q h hq
              have hd2 := off_of hd1.out ht2 fun q h => (hb2''.lt q h).2
              obtain ⟨hk3, hc3⟩ := hsk.out.skip jv.out (jl.out.trans zl.out.symm)
              have CS3 := bSkipX hb2 kw12 hsk.out.ok bo (.slice Ab n cb) (fun w' k => (own12.fx k hbd2.out).sl encInt_len)
              have hsame := hk2.out.same hk3
              obtain ⟨o3, ho3⟩ : ∃ o3, o3 = (skipE s bo).2.1 := ⟨_, rfl⟩
              rw [show skipE s bo = (s2, o3, 0) by rw [hsame, ho3, ← hc3]] at CS3
              replace CS3 := hid CS3
              replace ho3 := hid ho3
              replace hsame := hid hsame
              replace hd2 := hid hd2
              replace ht2 := hid ht2
              replace fx2 := hid fx2
              clear hc3 hk3 CS2 hb1'' hb2'' own11
              go_wp2_with fail
              refine CS3.out.mono ?_
              rintro z w13 ⟨v13, S2', rfl, hb2', -, -, -, fx3, kw13, ht3⟩
              have own13 := own12.fx fx3 hbd2.out
              have hb1' := hb1.fx fx3 fun q hq h => hd2.out q hq h
              have CC1 := hid (bClockX hb1' (by omega))
              clear hb2 hb1 fx3 ht3 own12 CS3
              go_wp2_with fail
              refine CC1.out.mono ?_
              rintro z w14 ⟨Ak1, ck1, rfl, ownk1, k14⟩
              have CC2 := hid (bClockX (hb2'.kp k14) (by omega))
              clear CC1
              go_wp2_with fail
              refine CC2.out.mono ?_
              rintro z w15 ⟨Ak2, ck2, rfl, ownk2, k15⟩
              have CE := EqualI_any _ _ s2.1 s2.1 w15 ((ownk1.kp k15).sl encInt_len) (ownk2.sl encInt_len)
              rw [show decide (s2.1 = s2.1) = true by simp] at CE
              replace CE := hid CE
              clear CC2 ownk1 ownk2
              go_wp2_with fail
              refine CE.out.mono ?_
              rintro z w16 ⟨rfl, k16⟩
              have k1316 := (k14.trans k15).trans k16
              have CH1 := hid (bHeldX (hb1'.kp k1316) hk2.out.ok)
              clear CE k14 k15 k16
              go_wp2_with fail
              refine CH1.out.mono ?_
              rintro z w17 ⟨Ah1, ch1, rfl, hev1, k17⟩
              have CH2 := hid (bHeldX ((hb2'.kp k1316).kp k17) hk2.out.ok)
              clear CH1
              go_wp2_with fail
              refine CH2.out.mono ?_
              rintro z w18 ⟨Ah2, ch2, rfl, hev2, k18⟩
              have CQ := hid (rSame_refl s2.2 _ _ w18 (hev1.keep rdEv_stable k18) hev2)
              clear CH2 hev1 hev2
              go_wp2_with fail
              refine CQ.out.mono ?_
              rintro z w19 ⟨rfl, k19⟩
              have k1319 := ((k1316.trans k17).trans k18).trans k19
              have hb0 := hb1'.kp k1319
              have own19 := own13.kp k1319
              have kw19 := kw13.trans k1319
              have hbd4 : ∀ q, (Value.slice Ab n cb).ownBlock = some q → ¬ S1'' q := fun q hq h => by
                rcases ht2.out q h with h1 | h1
                · exact hbd3.out q hq h1
                · have := own11sz.out q hq; omega
              obtain ⟨X, hX⟩ : ∃ X, X = joinC zc bo := ⟨_, rfl⟩
              rw [← hX] at hk2 hle
              replace hX := hid hX
              obtain ⟨bs, hbs⟩ : ∃ bs, bs = wo.heap.size := ⟨_, rfl⟩
              rw [← hbs] at own19
              replace hbs := hid hbs
              replace hbd4 := hid hbd4
              replace own19 := hid own19
              clear hb1' hb2' CQ k1316 k17 k18 k19 k1319 own13 kw13 kw12 kw11 kw10 kr hsk
              go_wp2_with fail
              go_loopw [180] (fun vi wr => ∃ (k : Nat) (T : Ev → Prop) (s : BfS) (S : Nat → Prop), k ≤ m ∧ vi = .int .i64 (k : Int) ∧ BfX S W wr b n s ∧ Hid (SkS l X T s) ∧ Hid (∀ x ∈ l.take k, T x) ∧ Hid (Own encInt 3 1 bs wr (.slice Ab n cb) bo) ∧ Hid (∀ q, (Value.slice Ab n cb).ownBlock = some q → ¬ S q) ∧ Kp W wr) (fun vi _ => m - (intOf vi).toNat)
              case atStart => exact ⟨0, _, _, _, Nat.zero_le _, rfl, hb0, hk2, hid (by simp), own19, hbd4, kw19⟩
              case round =>
                clear hb0 hk2 own19 hbd4 kw19
                obtain ⟨k, T, s, S, hk, rfl, hb, hsk, hT, hO, hD, kr⟩ := hrel
                obtain ⟨wi, rfl⟩ : ∃ wi : World, wi = wr := ⟨_, rfl⟩
                by_cases hkl : k < m
                · have hkI : (k : Int) < (m : Int) := by omega
                  have hql : k < l.length := by rw [← hm.out]; exact hkl
                  obtain ⟨p', o', v, hA1, hpo, hr, hv⟩ := Sl.evAt HL.out hql
                  obtain ⟨rfl, rfl⟩ : p' = _ ∧ o' = _ := by
                    injection hA1 with h1
                    injection h1 with h2 h3
                    exact ⟨h2.symm, h3.symm⟩
                  have HE : Hid (l[k] ∈ l) := hid (List.getElem_mem hql)
                  have HT := hid (List.take_succ_eq_append_getElem hql)
                  generalize l[k] = e at *
                  obtain ⟨Av, cv, rfl, -, -⟩ := hv.form
                  obtain ⟨L, hL⟩ : ∃ L, L = evL e (.slice Av e.past.length cv) := ⟨_, rfl⟩
                  have lL : L.length = 13 := by rw [hL]; rfl
                  have oL : ∀ u ∈ L, u.oneCell' = true := by rw [hL]; simp [evL, Value.oneCell']
                  rw [← hL] at hr
                  have hro := rangeAt_kp hr kr
                  obtain ⟨hsk2, -⟩ := hsk.out.add (by rw [← hm.out]; omega) HE.out
                  have hel : e.past.length ≤ 1000000000 := by rw [HW.out e HE.out]; omega
                  obtain ⟨R, hR⟩ : ∃ R, R = addE s e := ⟨_, rfl⟩
                  obtain ⟨hth, hBy, kx⟩ := ev_box wi L lL
                  obtain ⟨w8, hw8⟩ : ∃ w8, w8 = (wi.alloc (.cells #[.int .i64 0, .int .i64 0, .int .i64 0, .slice none 0 0, .int .i64 0, .int .i64 0, .int .i64 0, .int .i64 0, .int .i64 0, .int .i64 0, .int .i64 0, .int .i64 0, .int .i64 0] 33)).setCells wi.heap.size 0 L := ⟨_, rfl⟩
                  rw [← hw8] at hBy kx
                  replace hw8 := hid hw8
                  have hby := hBy.lt (by omega)
                  have hnS : ¬ S wi.heap.size := fun h => by have := (hb.lt _ h).2; omega
                  have hb8 := hb.kp kx
                  have CA := bAddX hb8 (kr.trans kx) hsk.out.ok e _ hv hel
                  rw [show evV e (.slice Av e.past.length cv) = .agg L.toArray by rw [hL], ← hR] at CA
                  replace CA := hid CA
                  rw [← hR] at hsk2
                  have HN : Hid (∀ W, Calls Try.prog 29 #[.agg L.toArray] W fun x w' => x = .returned (.agg #[.int .i64 e.r, .int .i64 e.n]) ∧ Kp W w') := hid fun W => by
                    rw [hL]
                    exact qName_any e _ W
                  have hT2 : Hid (∀ x ∈ l.take (k + 1), T x ∨ x = e) := hid (fun x hx => by
                    rw [HT.out] at hx
                    rcases List.mem_append.1 hx with hx | hx
                    · exact .inl (hT.out x hx)
                    · exact .inr (by simpa using hx))
                  have HHas : Hid (hasC bo (nameE e) = true → R = (s, [], 6)) := hid (fun h => by
                    rw [hR]
                    exact hsk.out.has HE.out (inC_of_has HCL.out HE.out jv.out ((HW.out e HE.out).trans jl.out.symm) h hle.out))
                  replace hR := hid hR
                  replace hL := hid hL
                  replace hsk2 := hid hsk2
                  replace hnS := hid hnS
                  clear hv hr hA1 hb
                  go_wp2_with (first | (refine wpList_load_mid rfl 33 (.tmp 182) rfl p' (o' + k * 13) rfl _ _ hro Try.underlying33 rfl (iEv lL) ?_) | (refine wpList_store_mid rfl 33 (.tmp 19) (.tmp 183) rfl wi.heap.size 0 L.toArray rfl rfl hth (iEv2 lL) (all_oneCell_toArray oL) ?_; rw [List.toList_toArray, ← hw8.out]) | (refine wpl_load_mid_g (by simp [Region.wanted, yielded]) 33 (.tmp 19) rfl wi.heap.size 0 rfl _ _ hBy.range Try.underlying33 rfl (iEv lL) ?_))
                  refine CA.out.mono ?_
                  rintro z w9 ⟨v9, S', rfl, hb9, ⟨A9, c9, rfl⟩, -, -, fx, kw9, ht⟩
                  have hBy9 := hBy.fx fx hby hnS.out
                  have hO8 := hO.out.kp kx
                  have hO9 := hO8.fx fx hD.out
                  have hD9 : Hid (∀ q, (Value.slice Ab n cb).ownBlock = some q → ¬ S' q) := hid (fun q hq h => by
                    rcases ht q h with h1 | h1
                    · exact hD.out q hq h1
                    · have := hO8.blt q hq; omega)
                  have hr9 := hBy9.range
                  replace fx := hid fx
                  replace ht := hid ht
                  clear CA hBy hro hth hBy9 hb8
                  go_wp2_with (refine wpl_load_mid_g (by simp [Region.wanted, yielded]) 33 (.tmp 19) rfl wi.heap.size 0 rfl _ _ hr9 Try.underlying33 rfl (iEv lL) ?_)
                  refine (HN.out _).mono ?_
                  rintro z w10 ⟨rfl, k10⟩
                  have CHs := cHas_any bo e.r e.n _ w10 ((hO9.kp k10).sl encInt_len)
                  clear hr9 hO8
                  cases hh : hasC bo (e.r, e.n) with
                  | false =>
                    rw [hh] at CHs
                    replace CHs := hid CHs
                    clear hh
                    go_wp2_with fail
                    refine CHs.out.mono ?_
                    rintro z w11 ⟨rfl, k11⟩
                    have k911 := k10.trans k11
                    have kwf := kw9.trans k911
                    have hbf := hb9.kp k911
                    have hOf := hid (hO9.kp k911)
                    clear hb9 hO9
                    go_wp2
                    go_roundw
                    case rel => exact ⟨k + 1, _, _, _, by omega, by go_num, hbf, hsk2, hT2, hOf, hD9, kwf⟩
                    case measure => simp [intOf]; omega
                  | true =>
                    rw [hh] at CHs
                    replace CHs := hid CHs
                    obtain rfl := HHas.out hh
                    clear hh HHas hR
                    go_wp2_with fail
                    refine CHs.out.mono ?_
                    rintro z w11 ⟨rfl, k11⟩
                    have k911 := k10.trans k11
                    have kwf := kw9.trans k911
                    have hbf := hb9.kp k911
                    have hOf := hid (hO9.kp k911)
                    clear hb9 hO9
                    go_wp2
                    go_roundw
                    case rel => exact ⟨k + 1, _, _, _, by omega, by go_num, hbf, hsk2, hT2, hOf, hD9, kwf⟩
                    case measure => simp [intOf]; omega
                · have hkI : ¬ (k : Int) < (m : Int) := by omega
                  obtain rfl : k = m := by omega
                  have hov : s.2 = [] := hsk.out.over (by
                    have := hT.out
                    rw [hm.out, List.take_length] at this
                    exact this)
                  have CH := bHeldX hb hsk.out.ok
                  rw [hov] at CH
                  replace CH := hid CH
                  clear hb hO hD
                  replace hov := hid hov
                  go_wp2_with fail
                  refine CH.out.mono ?_
                  rintro z w9 ⟨A9, c9, rfl, -, k9⟩
                  have kf := kr.trans k9
                  go_wp2
                  go_ret
                  exact ⟨rfl, kf⟩
end Go.Proofs.Ytcddllaljgfjbaa
