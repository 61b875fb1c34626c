
/-
DeliveryCausal: whatever arrives, events are delivered behind their pasts: the walk.
-/
import Derived.Test.YtcddllaljgfjbaaCsA
import Derived.Test.YtcddllaljgfjbaaCsP
namespace Go.Proofs.Ytcddllaljgfjbaa
set_option linter.unusedSimpArgs false
set_option linter.unusedVariables false
open Go.RowKit

theorem zero_len {rp : Int} (h : validC (zeroC rp) = true) : 1 ≤ rp ∧ rp ≤ 5 := by
  unfold zeroC at h
  by_cases hz : rp < 1 ∨ 5 < rp
  · rw [if_pos hz] at h
    cases h
  · omega
theorem zero_bad {rp : Int} (h : validC (zeroC rp) = false) : rp < 1 ∨ 5 < rp := by
  by_cases hz : rp < 1 ∨ 5 < rp
  · exact hz
  · exfalso
    unfold zeroC at h
    rw [if_neg hz] at h
    have : validC (List.replicate rp.toNat 0) = true := validC_iff.2 ⟨fun x hx => by
      have := List.eq_of_mem_replicate hx
      omega, by rw [List.length_replicate]; omega, by rw [List.length_replicate]; omega⟩
    rw [this] at h
    cases h
theorem cmp_chain {p c : List Int} (hp : validC p = true) (hc : validC c = true) (hl : p.length = c.length) (h : LeC p c) : (cmpC p c).2 = 0 ∧ ((cmpC p c).1 = 0 ∨ (cmpC p c).1 = 1) := by
  unfold cmpC
  rw [if_pos (alike2_iff.2 ⟨hp, hc, hl.symm⟩), if_pos ((insideC_le hl).2 h)]
  refine ⟨rfl, ?_⟩
  dsimp only
  split
  · exact .inl rfl
  · exact .inr rfl
theorem rangeAt_take {w : World} {b o : Nat} {L : List Value} (h : w.rangeAt b o L) (k : Nat) : w.rangeAt b o (L.take k) := fun j u hu => h j u (by
  rw [List.getElem?_take] at hu
  split at hu
  · exact hu
  · cases hu)
theorem ac_box (w : World) (L : List Value) (h : L.length = 14) : (w.alloc (.cells #[.int .i64 0, .int .i64 0, .int .i64 0, .slice none 0 0, .int .i64 0, .int .i64 0, .int .i64 0, .int .i64 0, .int .i64 0, .int .i64 0, .int .i64 0, .int .i64 0, .int .i64 0, .slice none 0 0] 49)).there w.heap.size 0 L.toArray.size ∧ Bx ((w.alloc (.cells #[.int .i64 0, .int .i64 0, .int .i64 0, .slice none 0 0, .int .i64 0, .int .i64 0, .int .i64 0, .int .i64 0, .int .i64 0, .int .i64 0, .int .i64 0, .int .i64 0, .int .i64 0, .slice none 0 0] 49)).setCells w.heap.size 0 L) w.heap.size L ∧ Kp w ((w.alloc (.cells #[.int .i64 0, .int .i64 0, .int .i64 0, .slice none 0 0, .int .i64 0, .int .i64 0, .int .i64 0, .int .i64 0, .int .i64 0, .int .i64 0, .int .i64 0, .int .i64 0, .int .i64 0, .slice none 0 0] 49)).setCells w.heap.size 0 L) :=
  ⟨by simpa [h] using (Bx.new w #[.int .i64 0, .int .i64 0, .int .i64 0, .slice none 0 0, .int .i64 0, .int .i64 0, .int .i64 0, .int .i64 0, .int .i64 0, .int .i64 0, .int .i64 0, .int .i64 0, .int .i64 0, .slice none 0 0] 49).thereAt 0 14 (by simp), (Bx.new w #[.int .i64 0, .int .i64 0, .int .i64 0, .slice none 0 0, .int .i64 0, .int .i64 0, .int .i64 0, .int .i64 0, .int .i64 0, .int .i64 0, .int .i64 0, .int .i64 0, .int .i64 0, .slice none 0 0] 49).all (cs := L) (by rw [h]; rfl), Kp.setCells (Nat.le_refl _) L 0 _ ((Kp.refl w).alloc _)⟩
theorem ev_box (w : World) (L : List Value) (h : L.length = 13) : (w.alloc (.cells #[.int .i64 0, .int .i64 0, .int .i64 0, .slice none 0 0, .int .i64 0, .int .i64 0, .int .i64 0, .int .i64 0, .int .i64 0, .int .i64 0, .int .i64 0, .int .i64 0, .int .i64 0] 33)).there w.heap.size 0 L.toArray.size ∧ Bx ((w.alloc (.cells #[.int .i64 0, .int .i64 0, .int .i64 0, .slice none 0 0, .int .i64 0, .int .i64 0, .int .i64 0, .int .i64 0, .int .i64 0, .int .i64 0, .int .i64 0, .int .i64 0, .int .i64 0] 33)).setCells w.heap.size 0 L) w.heap.size L ∧ Kp w ((w.alloc (.cells #[.int .i64 0, .int .i64 0, .int .i64 0, .slice none 0 0, .int .i64 0, .int .i64 0, .int .i64 0, .int .i64 0, .int .i64 0, .int .i64 0, .int .i64 0, .int .i64 0, .int .i64 0] 33)).setCells w.heap.size 0 L) :=
  ⟨by simpa [h] using (Bx.new w #[.int .i64 0, .int .i64 0, .int .i64 0, .slice none 0 0, .int .i64 0, .int .i64 0, .int .i64 0, .int .i64 0, .int .i64 0, .int .i64 0, .int .i64 0, .int .i64 0, .int .i64 0] 33).thereAt 0 13 (by simp), (Bx.new w #[.int .i64 0, .int .i64 0, .int .i64 0, .slice none 0 0, .int .i64 0, .int .i64 0, .int .i64 0, .int .i64 0, .int .i64 0, .int .i64 0, .int .i64 0, .int .i64 0, .int .i64 0] 33).all (cs := L) (by rw [h]; rfl), Kp.setCells (Nat.le_refl _) L 0 _ ((Kp.refl w).alloc _)⟩
theorem iAc {L : List Value} (h : L.length = 14) : (Try.prog.info? 49).map (·.size) = some L.length := by rw [h]; kernel_rfl
theorem iAc2 {L : List Value} (h : L.length = 14) : (Try.prog.info? 49).map (·.size) = some L.toArray.size := by rw [List.size_toArray, h]; kernel_rfl
set_option maxRecDepth 8000 in
set_option maxHeartbeats 8000000 in
theorem causal_walk (rp : Int) (l : List Ac) (v : Value) (W : World) (hS : Acs W v l) : Calls Try.prog 5 #[.int .i64 rp, v] W fun e W' => e = .returned (.bool true) ∧ Kp W W' := by
  obtain ⟨A, ca, rfl, hca, hma⟩ := hS.form
  have C0 := hid (awake33_any W)
  have HSW := hid hS
  clear hS
  go_enter Try.func5, Try.ntmps5
  go_wp2_with fail
  refine C0.out.mono ?_
  rintro z w1 ⟨rfl, k1⟩
  clear C0
  have C1 := hid (rFew33_any l _ w1 (HSW.out.keep rdAc_stable k1))
  go_wp2_with fail
  refine C1.out.mono ?_
  rintro z w2 ⟨fw, rfl, hfw, k2⟩
  have kw2 := k1.trans k2
  clear C1 k1 k2
  cases fw with
  | false =>
    go_wp2
    go_ret
    exact ⟨rfl, kw2⟩
  | true =>
    obtain ⟨hl40, HL8⟩ := hfw rfl
    replace HL8 := hid HL8
    clear hfw
    have C2 := hid (cZero_any rp w2)
    go_wp2_with fail
    refine C2.out.mono ?_
    rintro z w3 ⟨v3, rfl, own3, k3, hnil⟩
    have C3 := hid (bNew_any (zeroC rp) v3 w3 (own3.sl encInt_len))
    have kw3 := kw2.trans k3
    clear C2 hnil own3 k3
    go_wp2_with fail
    refine C3.out.mono ?_
    rintro z w4 ⟨k4, ⟨hv, rfl⟩ | ⟨hv, b, cb, cc, mb, rfl, hb⟩⟩
    · have kw4 := kw3.trans k4
      have hz := zero_bad hv
      by_cases g : rp < 1
      · have e1 : decide (rp < 1) = true := decide_eq_true g
        go_wp2
        go_ret
        exact ⟨rfl, kw4⟩
      · have e1 : decide (rp < 1) = false := decide_eq_false g
        have g2 : 5 < rp := by omega
        have e2 : decide (5 < rp) = true := decide_eq_true g2
        go_wp2
        go_ret
        exact ⟨rfl, kw4⟩
    · have kw4 := kw3.trans k4
      have hz := zero_len hv
      have hbase : W.heap.size ≤ w3.heap.size := kw3.size
      obtain ⟨n, hn⟩ : ∃ n, n = (zeroC rp).length := ⟨_, rfl⟩
      have hn5 : 1 ≤ n ∧ n ≤ 5 := by rw [hn]; exact (validC_iff.1 hv).2
      rw [← hn] at hb
      have hblt := hb.blt
      have hclt := hb.clt
      have hmlt := hb.mlt
      have hlb := hb.lb
      have hlm := hb.lm
      have hlc := hb.clk.ge cb rfl
      generalize w3.heap.size = base at *
      have C4 := hid (cZero_any rp w4)
      go_wp2_with fail
      refine C4.out.mono ?_
      rintro z w5 ⟨v5, rfl, own5, k5, -⟩
      obtain ⟨A5, c5, rfl, -, -⟩ := own5.form
      rw [← hn] at own5 ⊢
      have hb5 := hb.kp k5
      have hz4 := k5.size
      have kw5 := kw4.trans k5
      have hvz := hid hv
      replace hn := hid hn
      clear C3 C4 k4 k5 hb kw2 kw3 kw4 hv
      go_wp2_with fail
      go_loopw [7, 42] (fun v7 vi wr => ∃ (k : Nat) (S : Nat → Prop) (cb cc : Nat) (M : List EvS) (c : List Int) (H : List Ev) (A7 : Option Addr) (c7 : Nat), k ≤ l.length ∧ vi = .int .i64 (k : Int) ∧ v7 = .slice A7 n c7 ∧ BfW S base wr b cb cc mb n c M ∧ Hid ((M.map (·.e)).Perm H) ∧ Hid (BfN c H) ∧ Hid (∀ q, S q → base ≤ q ∧ q < wr.heap.size) ∧ Hid (Own encInt 3 1 base wr (.slice A7 n c7) c) ∧ Hid (∀ q, (Value.slice A7 n c7).ownBlock = some q → ¬ S q) ∧ Kp W wr) (fun _ vi _ => l.length - (intOf vi).toNat)
      case atStart => exact ⟨0, _, cb, cc, [], zeroC rp, [], A5, c5, Nat.zero_le _, rfl, rfl, hb5, hid (List.Perm.refl _), hid (BfN.start hvz.out), hid (fun q hq => by rcases hq with h | h | h <;> omega), hid (own5.less (by omega)), hid (fun q hq h => by have := own5.ge q hq; rcases h with h | h | h <;> omega), kw5⟩
      case round =>
        clear hb5 own5 kw5 hblt hclt hmlt hlb hlm hlc hz4
        obtain ⟨k, S, cb, cc, M, c, H, A7, c7, hk, rfl, rfl, hb, hM, hN, hS, hO, hD, kr⟩ := hrel
        obtain ⟨wo, rfl⟩ : ∃ wo : World, wo = wr := ⟨_, rfl⟩
        by_cases hlt : k < l.length
        · have hltI : (k : Int) < (l.length : Int) := by omega
          obtain ⟨p, o, va, ua, rfl, hp, hr, hva, hua⟩ := Sl.acAt HSW.out hlt
          have hx8 := HL8.out _ (List.getElem_mem hlt)
          generalize l[k] = x at *
          obtain ⟨Av, cv, rfl, hcv, hmv⟩ := hva.form
          obtain ⟨Au, cu, rfl, hcu, hmu⟩ := hua.form
          obtain ⟨LA, hLA⟩ : ∃ LA, LA = acL x (.slice Av x.e.past.length cv) (.slice Au x.c.length cu) := ⟨_, rfl⟩
          have lLA : LA.length = 14 := by rw [hLA]; rfl
          have oLA : ∀ u ∈ LA, u.oneCell' = true := by rw [hLA]; simp [acL, evL, Value.oneCell']
          have hL13 : LA[13]? = some (.slice Au x.c.length cu) := by rw [hLA]; rfl
          rw [← hLA] at hr
          replace hLA := hid hLA
          have hro := rangeAt_kp hr kr
          have hpo := Nat.lt_of_lt_of_le hp kr.size
          obtain ⟨hth, hB6, k6⟩ := ac_box wo LA lLA
          have e13 := hB6.cell (j := 13) hL13
          have hbl6 := hB6.lt (by omega)
          obtain ⟨w6, hw6⟩ : ∃ w6, w6 = (wo.alloc (.cells #[.int .i64 0, .int .i64 0, .int .i64 0, .slice none 0 0, .int .i64 0, .int .i64 0, .int .i64 0, .int .i64 0, .int .i64 0, .int .i64 0, .int .i64 0, .int .i64 0, .int .i64 0, .slice none 0 0] 49)).setCells wo.heap.size 0 LA := ⟨_, rfl⟩
          rw [← hw6] at hB6 k6 e13 hbl6
          replace hw6 := hid hw6
          have hb6 := hb.kp k6
          have hS6 := hid (fun q (hq : S q) => show base ≤ q ∧ q < w6.heap.size by have := hS.out q hq; have := k6.size; omega)
          have hO6 := hid (hO.out.kp k6)
          have kr6 := kr.trans k6
          have hu6 : OwF S w6 fun W => Ints W (.slice Au x.c.length cu) x.c := kp_owF (fun w' k => hua.keep (pl_stable _) k) kr6 (fun q hq => by have := hS6.out q hq; omega)
          have hv6 : OwF S w6 fun W => Ints W (.slice Av x.e.past.length cv) x.e.past := kp_owF (fun w' k => hva.keep (pl_stable _) k) kr6 (fun q hq => by have := hS6.out q hq; omega)
          have hpos6 : base ≤ w6.heap.size := by have := hb6.lb; have := hb6.blt; omega
          replace hu6 := hid hu6
          replace hv6 := hid hv6
          have hSx := hid (fun q (hq : S q) => (hS.out q hq).2)
          have huW := hid hua
          clear hb hO hS hua hva hr
          by_cases hc0 : 0 < x.c.length
          · have g1 : decide ((0 : Int) < (x.c.length : Int)) = true := decide_eq_true (by omega)
            have g2 : (0 : Int) < (x.c.length : Int) := by omega
            have C6 := bSkip_any hb6 (fun q hq => (hS6.out q hq).2) hM.out hN.out.ok x.c _ hu6.out
            go_wp2_with (first | (refine wpList_load_mid rfl 49 (.tmp 44) rfl p (o + k * 14) rfl _ _ hro Try.underlying49 rfl (iAc lLA) ?_) | (refine wpList_store_mid rfl 49 (.tmp 9) (.tmp 45) rfl wo.heap.size 0 LA.toArray rfl rfl hth (iAc2 lLA) (all_oneCell_toArray oLA) ?_; rw [List.toList_toArray, ← hw6.out]))
            refine C6.mono ?_
            rintro z w7 ⟨v7, outs, Mq, Sq, cbq, ccq, Bq, rfl, hbq, hMq, hEq, hoq, fxq, hSq0, hzq, hzq'⟩
            have krq : Kp W w7 := ((kr6.fx S).trans fxq).kp fun q hq h => by have := hS6.out q h; omega
            have hSq : Hid (∀ q, Sq q → base ≤ q ∧ q < w7.heap.size) := hid (fun q hq => by
              rcases hSq0 q hq with h | h
              · have := hS6.out q h; have := fxq.size; omega
              · omega)
            have hO7 := hO6.out.fx fxq (fun q hq => hD.out q hq)
            have hD7 : Hid (∀ q, (Value.slice A7 n c7).ownBlock = some q → ¬ Sq q) := hid (fun q hq h => by
              rcases hSq0 q h with h1 | h1
              · exact hD.out q hq h1
              · have := hO6.out.blt q hq; omega)
            obtain ⟨Aq, cq, rfl, -, -⟩ := hEq.own.form
            clear C6 hSq0
            rcases hN.out.skip (d := x.c) with hsk | ⟨hsk, hdv, hdl, hN7, hl7, hch7⟩
            · have hcn := hb6.len
              rw [hsk] at hbq hMq hoq
              obtain rfl : outs = [] := by simpa using hoq
              obtain ⟨cf, hcf⟩ : ∃ cf, cf = c := ⟨_, rfl⟩
              have HCq : Hid (ChainE n c (([] : List EvS).map (·.e)) cf) := hid (by rw [hcf]; rfl)
              have hVq : Hid (validC c = true ∧ c.length = n) := hid ⟨hN.out.ok.clk, hcn⟩
              have hOq := hid hO7
              have hDq := hD7
              obtain ⟨Hq, hHq⟩ : ∃ Hq, Hq = H := ⟨_, rfl⟩
              have hNq : Hid (BfN cf Hq) := by rw [hcf, hHq]; exact hN
              rw [← hHq] at hMq
              replace hHq := hid hHq
              replace hMq := hid hMq
              rw [← hcf] at hbq
              replace hcf := hid hcf
              rw [hsk]
              clear hsk
              generalize hou : ([] : List EvS) = outs at *
              replace hou := hid hou
              obtain ⟨m, hm⟩ : ∃ m, m = outs.length := ⟨_, rfl⟩
              rw [← hm]
              have hCH : Hid (ChainE n c ((outs.drop 0).map (·.e)) cf) := hid (by rw [List.drop_zero]; exact HCq.out)
              have hmb : m ≤ 9223372036854775807 := by have := hEq.own.bound; omega
              replace hm := hid hm
              have hWb : base ≤ (w7).heap.size := by have := hbq.lb; have := hbq.blt; omega
              go_wp2_with fail
              go_loopw [7, 73] (fun v7 vj wi => ∃ (j : Nat) (cj : List Int) (A7 : Option Addr) (c7 : Nat), j ≤ m ∧ vj = .int .i64 (j : Int) ∧ v7 = .slice A7 n c7 ∧ Hid (ChainE n cj ((outs.drop j).map (·.e)) cf) ∧ Hid (validC cj = true ∧ cj.length = n) ∧ Hid (Own encInt 3 1 base wi (.slice A7 n c7) cj) ∧ Hid (∀ q, (Value.slice A7 n c7).ownBlock = some q → ¬ Sq q) ∧ Kp w7 wi) (fun _ vj _ => m - (intOf vj).toNat)
              case atStart => exact ⟨0, _, _, _, Nat.zero_le _, rfl, rfl, hCH, hVq, hOq, hDq, Kp.refl _⟩
              case round =>
                clear hCH hOq hDq HCq hVq
                obtain ⟨j, cj, A8, c8, hj, rfl, rfl, hCH, hV, hO8, hD8, kj⟩ := hrel
                obtain ⟨wi, rfl⟩ : ∃ wi : World, wi = wr := ⟨_, rfl⟩
                have kji := (krq).trans kj
                by_cases hjl : j < m
                · have hjI : (j : Int) < (m : Int) := by omega
                  have hjo : j < outs.length := by have := hm.out; omega
                  obtain ⟨gq, oq, rfl, hgq, hrw⟩ := Sl.evRange ((hEq.kp kj).own.sl encEs_len) hjo
                  obtain ⟨hpo, -⟩ := (hEq.kp kj).pst _ (List.getElem_mem hjo)
                  have hch := hCH.out
                  rw [List.drop_eq_getElem_cons hjo, List.map_cons] at hch
                  obtain ⟨⟨f, hpl, r1, r2⟩, hch2⟩ := hch
                  generalize outs[j] = y at *
                  obtain ⟨cm2, cm1⟩ := cmp_chain f.past hV.out.1 (hpl.trans hV.out.2.symm) r1
                  obtain ⟨kd, hkd⟩ : ∃ kd, kd = (cmpC y.e.past cj).1 := ⟨_, rfl⟩
                  rw [← hkd] at cm1
                  obtain ⟨Ly, hLy⟩ : ∃ Ly, Ly = encEs y := ⟨_, rfl⟩
                  have lLy : Ly.length = 13 := by rw [hLy]; rfl
                  have oLy : ∀ u ∈ Ly, u.oneCell' = true := by rw [hLy]; exact encEs_one y
                  have hL3 : Ly[3]? = some y.v := by rw [hLy]; rfl
                  rw [← hLy] at hrw
                  obtain ⟨rr, hrr0⟩ : ∃ rr : Nat, y.e.r = (rr : Int) := ⟨y.e.r.toNat, by have := f.r0; omega⟩
                  have hL0 : Ly[0]? = some (.int .i64 (rr : Int)) := by rw [hLy, ← hrr0]; rfl
                  have hL1 : Ly[1]? = some (.int .i64 y.e.n) := by rw [hLy]; rfl
                  have HNm : Hid (∀ W, Calls Try.prog 29 #[.agg Ly.toArray] W fun x w' => x = .returned (.agg #[.int .i64 y.e.r, .int .i64 y.e.n]) ∧ Kp W w') := hid fun W => by
                    rw [hLy]
                    exact qName_any y.e _ W
                  have hrr : Hid (rr < cj.length) := hid (by have := f.r1; have := hV.out.2; omega)
                  have hgetr : Hid (cj.getD rr 0 = y.e.n - 1) := hid (by
                    have := ready_at f r1 r2
                    rw [hrr0, Int.toNat_natCast] at this
                    exact this)
                  have hset : Hid (cj.set rr (y.e.n - 1 + 1) = setD cj y.e) := hid (by
                    unfold setD
                    rw [hrr0, Int.toNat_natCast, show y.e.n - 1 + 1 = y.e.n by omega])
                  have hgetn : Hid ((setD cj y.e)[rr]'(by rw [setD_len]; exact hrr.out) = y.e.n) := hid (by
                    unfold setD
                    simp [hrr0])
                  have hnh : Hid (hasC cj (nameE y.e) = false) := hid ((hasC_no hV.out.1 f (hpl.trans hV.out.2.symm)).2 r2)
                  have hrn : ¬ (n : Int) ≤ (rr : Int) := by have := hrr.out; have := hV.out.2; omega
                  have hrn1 : decide ((n : Int) ≤ (rr : Int)) = false := decide_eq_false hrn
                  have hrn2 : decide (n ≤ rr) = false := decide_eq_false (by omega)
                  have hrnI : (rr : Int) < (n : Int) := by omega
                  have hrn0 : (0 : Int) ≤ (rr : Int) := by omega
                  have hnne : (y.e.n != y.e.n) = false := by simp
                  replace hLy := hid hLy
                  replace hrr0 := hid hrr0
                  obtain ⟨hth2, hBy, kx⟩ := ev_box wi Ly lLy
                  obtain ⟨w8, hw8⟩ : ∃ w8, w8 = (wi.alloc (.cells #[.int .i64 0, .int .i64 0, .int .i64 0, .slice none 0 0, .int .i64 0, .int .i64 0, .int .i64 0, .int .i64 0, .int .i64 0, .int .i64 0, .int .i64 0, .int .i64 0, .int .i64 0] 33)).setCells wi.heap.size 0 Ly := ⟨_, rfl⟩
                  rw [← hw8] at hBy kx
                  replace hw8 := hid hw8
                  have e3 := hBy.cell (j := 3) hL3
                  have hbl8 := hBy.lt (by omega)
                  have C8 := cCompare_any y.e.past cj y.v (.slice A8 n c8) w8 ((hpo.kp kx).sl encInt_len) ((hO8.out.kp kx).sl encInt_len)
                  rw [← hkd, cm2] at C8
                  replace C8 := hid C8
                  replace hkd := hid hkd
                  clear cm2 r1 r2
                  go_wp2_with (first | (refine wpList_load_mid rfl 33 (.tmp 75) rfl gq (oq + j * 13) rfl _ _ hrw Try.underlying33 rfl (iEv lLy) ?_) | (refine wpList_store_mid rfl 33 (.tmp 12) (.tmp 76) rfl wi.heap.size 0 Ly.toArray rfl rfl hth2 (iEv2 lLy) (all_oneCell_toArray oLy) ?_; rw [List.toList_toArray, ← hw8.out]))
                  refine C8.out.mono ?_
                  rintro z w9 ⟨rfl, k9⟩
                  have hBy9 := hBy.kp k9 hbl8
                  have hbl9 := hBy9.lt (by omega)
                  clear C8 e3 hBy hrw
                  rcases cm1 with rfl | rfl
                  · go_wp2_with (refine wpl_load_mid_g (by simp [Region.wanted, yielded]) 33 (.tmp 12) rfl wi.heap.size 0 rfl _ _ hBy9.range Try.underlying33 rfl (iEv lLy) ?_)
                    refine (HNm.out _).mono ?_
                    rintro z w10 ⟨rfl, k10⟩
                    have C10 := cHas_any cj y.e.r y.e.n _ w10 ((hO8.out.kp ((kx.trans k9).trans k10)).sl encInt_len)
                    rw [show hasC cj (y.e.r, y.e.n) = false from hnh.out] at C10
                    replace C10 := hid C10
                    go_wp2_with fail
                    refine C10.out.mono ?_
                    rintro z w11 ⟨rfl, k11⟩
                    have kx11 := ((kx.trans k9).trans k10).trans k11
                    have hBy11 := hBy9.kp (k10.trans k11) hbl9
                    have e0 := hBy11.cell (j := 0) hL0
                    have e1 := hBy11.cell (j := 1) hL1
                    have hbl11 := hBy11.lt (by omega)
                    have hOc11 := hO8.out.kp kx11
                    have C11 := hid (cAdvance_any cj rr (y.e.n - 1) _ w11 (hOc11.sl encInt_len) hV.out.1 hrr.out hgetr.out (by have := f.n1; omega))
                    have hz11 := kx11.size
                    clear C10 k10 k11 hBy9
                    go_wp2_with fail
                    refine C11.out.mono ?_
                    rintro z w12 ⟨v12, rfl, own12, k12⟩
                    rw [hset.out] at own12
                    obtain ⟨g12, c12, rfl, -, -, hg1, hg2⟩ := own12.row (by rw [setD_len]; have := hV.out.2; omega)
                    rw [setD_len, hV.out.2] at own12 ⊢
                    have e0 := k12.cellS e0
                    have e1 := k12.cellS e1
                    have hbl12 := Nat.lt_of_lt_of_le hbl11 k12.size
                    have d0 := own12.intCell (k := rr) (by rw [setD_len]; exact hV.out.2.symm) (by rw [setD_len]; exact hrr.out)
                    rw [show (setD cj y.e)[rr]'(by rw [setD_len]; exact hrr.out) = y.e.n from hgetn.out] at d0
                    have kx12 := kx11.trans k12
                    have hO12 := hid (own12.less (base' := base) (by have := hWb; have := kj.size; omega))
                    have hD12 : Hid (∀ q, (Value.slice (some ⟨g12, 0, none⟩) n c12).ownBlock = some q → ¬ Sq q) := hid (fun q hq h => by
                      obtain rfl : g12 = q := by simpa [Value.ownBlock] using hq
                      have := hSq.out _ h
                      have := kj.size
                      omega)
                    clear C11 own12 hOc11 hBy11
                    go_upto_region 25 with (fail)
                    obtain ⟨w13, rfl⟩ : ∃ w13, w13 = w12 := ⟨_, rfl⟩
                    refine G2.wp_region_growT Kp [] 18 134 (G2.pvL [G2.eqv (.int .i64 0), G2.eqv (.bool false), G2.eqv (.bool false), G2.eqv (.pointer (some ⟨wi.heap.size, 0, none⟩)), G2.eqv (.int .i64 (rr : Int)), G2.eqv (.slice (some ⟨g12, 0, none⟩) n c12), G2.eqv (.int .i64 (n : Int)), G2.eqv (.bool false), G2.eqv (.bool false), G2.eqv (.bool false), G2.eqv (.slice (some ⟨g12, 0, none⟩) n c12), G2.eqv (.pointer (some ⟨wi.heap.size, 0, none⟩)), G2.eqv (.int .i64 (rr : Int)), G2.eqv (.pointer (some ⟨g12, rr, none⟩)), G2.eqv (.int .i64 y.e.n), G2.eqv (.pointer (some ⟨wi.heap.size, 1, none⟩)), G2.eqv (.int .i64 y.e.n), G2.eqv (.bool false)]) (by kernel_rfl) (by kernel_rfl) rfl (fun x => Kp.refl x) (fun _ _ _ h k => h.trans k) (Kp.refl _).drew (by intro _ _ _ _ _ h; exact h) (G2.pvL_keep (G2.stabL_cons (G2.stab_eq _) (G2.stabL_cons (G2.stab_eq _) (G2.stabL_cons (G2.stab_eq _) (G2.stabL_cons (G2.stab_eq _) (G2.stabL_cons (G2.stab_eq _) (G2.stabL_cons (G2.stab_eq _) (G2.stabL_cons (G2.stab_eq _) (G2.stabL_cons (G2.stab_eq _) (G2.stabL_cons (G2.stab_eq _) (G2.stabL_cons (G2.stab_eq _) (G2.stabL_cons (G2.stab_eq _) (G2.stabL_cons (G2.stab_eq _) (G2.stabL_cons (G2.stab_eq _) (G2.stabL_cons (G2.stab_eq _) (G2.stabL_cons (G2.stab_eq _) (G2.stabL_cons (G2.stab_eq _) (G2.stabL_cons (G2.stab_eq _) (G2.stabL_cons (G2.stab_eq _) (G2.stabL_nil)))))))))))))))))))) (G2.stepsT_cons 0 ?_ (G2.stepsT_cons 1 ?_ (G2.stepsT_cons 2 ?_ (G2.stepsT_cons 3 ?_ (G2.stepsT_cons 4 ?_ (G2.stepsT_cons 5 ?_ (G2.stepsT_cons 6 ?_ (G2.stepsT_cons 7 ?_ (G2.stepsT_cons 8 ?_ (G2.stepsT_cons 9 ?_ (G2.stepsT_cons 10 ?_ (G2.stepsT_cons 11 ?_ (G2.stepsT_cons 12 ?_ (G2.stepsT_cons 13 ?_ (G2.stepsT_cons 14 ?_ (G2.stepsT_cons 15 ?_ (G2.stepsT_cons 16 ?_ (G2.stepsT_cons 17 ?_ (G2.stepsT_nil _ _ _))))))))))))))))))) ?_ ?_
                    · intro a w' hk hF hD K hK
                      have h6 : a.tmps[6]?.getD undef = .int .i64 0 := hF 6 (by kernel_rfl)
                      clear hF hD
                      go_simp
                      exact hK.out _ _ (Kp.refl _) rfl
                    · intro a w' hk hF hD K hK
                      have h108 : a.tmps[108]?.getD undef = .int .i64 0 := hD 0 (by kernel_rfl)
                      clear hF hD
                      go_simp
                      exact hK.out _ _ (Kp.refl _) rfl
                    · intro a w' hk hF hD K hK
                      have h109 : a.tmps[109]?.getD undef = .bool false := hD 1 (by kernel_rfl)
                      clear hF hD
                      go_simp
                      exact hK.out _ _ (Kp.refl _) rfl
                    · intro a w' hk hF hD K hK
                      have h12 : a.tmps[12]?.getD undef = .pointer (some ⟨wi.heap.size, 0, none⟩) := hF 12 (by kernel_rfl)
                      have h110 : a.tmps[110]?.getD undef = .bool false := hD 2 (by kernel_rfl)
                      have g110 := guard_get h110
                      clear hF hD
                      go_simp
                      exact hK.out _ _ (Kp.refl _) rfl
                    · intro a w' hk hF hD K hK
                      have h111 : a.tmps[111]?.getD undef = .pointer (some ⟨wi.heap.size, 0, none⟩) := hD 3 (by kernel_rfl)
                      have h110 : a.tmps[110]?.getD undef = .bool false := hD 2 (by kernel_rfl)
                      have g110 := guard_get h110
                      clear hF hD
                      have z0 := hk.cellS e0
                      go_simp
                      exact hK.out _ _ (Kp.refl _) rfl
                    · intro a w' hk hF hD K hK
                      have h7 : a.tmps[7]?.getD undef = .slice (some ⟨g12, 0, none⟩) n c12 := hF 7 (by kernel_rfl)
                      have h110 : a.tmps[110]?.getD undef = .bool false := hD 2 (by kernel_rfl)
                      have g110 := guard_get h110
                      clear hF hD
                      go_simp
                      exact hK.out _ _ (Kp.refl _) rfl
                    · intro a w' hk hF hD K hK
                      have h113 : a.tmps[113]?.getD undef = .slice (some ⟨g12, 0, none⟩) n c12 := hD 5 (by kernel_rfl)
                      have h110 : a.tmps[110]?.getD undef = .bool false := hD 2 (by kernel_rfl)
                      have g110 := guard_get h110
                      clear hF hD
                      go_simp
                      exact hK.out _ _ (Kp.refl _) rfl
                    · intro a w' hk hF hD K hK
                      have h112 : a.tmps[112]?.getD undef = .int .i64 (rr : Int) := hD 4 (by kernel_rfl)
                      have h114 : a.tmps[114]?.getD undef = .int .i64 (n : Int) := hD 6 (by kernel_rfl)
                      have h110 : a.tmps[110]?.getD undef = .bool false := hD 2 (by kernel_rfl)
                      have g110 := guard_get h110
                      clear hF hD
                      go_simp
                      exact hK.out _ _ (Kp.refl _) rfl
                    · intro a w' hk hF hD K hK
                      have h110 : a.tmps[110]?.getD undef = .bool false := hD 2 (by kernel_rfl)
                      have h115 : a.tmps[115]?.getD undef = .bool false := hD 7 (by kernel_rfl)
                      clear hF hD
                      go_simp
                      exact hK.out _ _ (Kp.refl _) rfl
                    · intro a w' hk hF hD K hK
                      have h116 : a.tmps[116]?.getD undef = .bool false := hD 8 (by kernel_rfl)
                      clear hF hD
                      go_simp
                      exact hK.out _ _ (Kp.refl _) rfl
                    · intro a w' hk hF hD K hK
                      have h7 : a.tmps[7]?.getD undef = .slice (some ⟨g12, 0, none⟩) n c12 := hF 7 (by kernel_rfl)
                      have h117 : a.tmps[117]?.getD undef = .bool false := hD 9 (by kernel_rfl)
                      have g117 := guard_get h117
                      clear hF hD
                      go_simp
                      exact hK.out _ _ (Kp.refl _) rfl
                    · intro a w' hk hF hD K hK
                      have h12 : a.tmps[12]?.getD undef = .pointer (some ⟨wi.heap.size, 0, none⟩) := hF 12 (by kernel_rfl)
                      have h117 : a.tmps[117]?.getD undef = .bool false := hD 9 (by kernel_rfl)
                      have g117 := guard_get h117
                      clear hF hD
                      go_simp
                      exact hK.out _ _ (Kp.refl _) rfl
                    · intro a w' hk hF hD K hK
                      have h119 : a.tmps[119]?.getD undef = .pointer (some ⟨wi.heap.size, 0, none⟩) := hD 11 (by kernel_rfl)
                      have h117 : a.tmps[117]?.getD undef = .bool false := hD 9 (by kernel_rfl)
                      have g117 := guard_get h117
                      clear hF hD
                      have z0 := hk.cellS e0
                      go_simp
                      exact hK.out _ _ (Kp.refl _) rfl
                    · intro a w' hk hF hD K hK
                      have h118 : a.tmps[118]?.getD undef = .slice (some ⟨g12, 0, none⟩) n c12 := hD 10 (by kernel_rfl)
                      have h120 : a.tmps[120]?.getD undef = .int .i64 (rr : Int) := hD 12 (by kernel_rfl)
                      have h117 : a.tmps[117]?.getD undef = .bool false := hD 9 (by kernel_rfl)
                      have g117 := guard_get h117
                      clear hF hD
                      go_simp
                      exact hK.out _ _ (Kp.refl _) rfl
                    · intro a w' hk hF hD K hK
                      have h121 : a.tmps[121]?.getD undef = .pointer (some ⟨g12, rr, none⟩) := hD 13 (by kernel_rfl)
                      have h117 : a.tmps[117]?.getD undef = .bool false := hD 9 (by kernel_rfl)
                      have g117 := guard_get h117
                      clear hF hD
                      have z0 := hk.cellS d0
                      go_simp
                      exact hK.out _ _ (Kp.refl _) rfl
                    · intro a w' hk hF hD K hK
                      have h12 : a.tmps[12]?.getD undef = .pointer (some ⟨wi.heap.size, 0, none⟩) := hF 12 (by kernel_rfl)
                      have h117 : a.tmps[117]?.getD undef = .bool false := hD 9 (by kernel_rfl)
                      have g117 := guard_get h117
                      clear hF hD
                      go_simp
                      exact hK.out _ _ (Kp.refl _) rfl
                    · intro a w' hk hF hD K hK
                      have h123 : a.tmps[123]?.getD undef = .pointer (some ⟨wi.heap.size, 1, none⟩) := hD 15 (by kernel_rfl)
                      have h117 : a.tmps[117]?.getD undef = .bool false := hD 9 (by kernel_rfl)
                      have g117 := guard_get h117
                      clear hF hD
                      have z0 := hk.cellS e1
                      go_simp
                      exact hK.out _ _ (Kp.refl _) rfl
                    · intro a w' hk hF hD K hK
                      have h122 : a.tmps[122]?.getD undef = .int .i64 y.e.n := hD 14 (by kernel_rfl)
                      have h124 : a.tmps[124]?.getD undef = .int .i64 y.e.n := hD 16 (by kernel_rfl)
                      have h117 : a.tmps[117]?.getD undef = .bool false := hD 9 (by kernel_rfl)
                      have g117 := guard_get h117
                      clear hF hD
                      go_simp
                      exact hK.out _ _ (Kp.refl _) rfl
                    · exact fun i0 hi0 => by simp at hi0
                    intro v w9 k9 hv
                    have v9 : v 9 = .bool false := hv 9 (by omega)
                    have v17 : v 17 = .bool false := hv 17 (by omega)
                    clear hv
                    simp only [G2.growPut, G2.gSlot, List.getElem?_toArray, List.getElem?_cons_zero, List.getElem?_cons_succ, Option.bind_some, List.setIfInBounds_toArray, List.set_cons_zero, List.set_cons_succ, List.drop_succ_cons, List.drop_zero, v9, v17]
                    have kjf := (kj.trans kx12).trans k9
                    have hO13 := hid (hO12.out.kp k9)
                    have hVn : Hid (validC (setD cj y.e) = true ∧ (setD cj y.e).length = n) := hid ⟨set_valid hV.out.1 f, by rw [setD_len]; exact hV.out.2⟩
                    clear e0 e1 d0 hO12 kx12 kx11
                    go_wp2
                    go_roundw
                    case rel => exact ⟨j + 1, _, _, _, by omega, by go_num, rfl, hid hch2, hVn, hO13, hD12, kjf⟩
                    case measure => simp [intOf]; omega
                  · go_wp2_with (refine wpl_load_mid_g (by simp [Region.wanted, yielded]) 33 (.tmp 12) rfl wi.heap.size 0 rfl _ _ hBy9.range Try.underlying33 rfl (iEv lLy) ?_)
                    refine (HNm.out _).mono ?_
                    rintro z w10 ⟨rfl, k10⟩
                    have C10 := cHas_any cj y.e.r y.e.n _ w10 ((hO8.out.kp ((kx.trans k9).trans k10)).sl encInt_len)
                    rw [show hasC cj (y.e.r, y.e.n) = false from hnh.out] at C10
                    replace C10 := hid C10
                    go_wp2_with fail
                    refine C10.out.mono ?_
                    rintro z w11 ⟨rfl, k11⟩
                    have kx11 := ((kx.trans k9).trans k10).trans k11
                    have hBy11 := hBy9.kp (k10.trans k11) hbl9
                    have e0 := hBy11.cell (j := 0) hL0
                    have e1 := hBy11.cell (j := 1) hL1
                    have hbl11 := hBy11.lt (by omega)
                    have hOc11 := hO8.out.kp kx11
                    have C11 := hid (cAdvance_any cj rr (y.e.n - 1) _ w11 (hOc11.sl encInt_len) hV.out.1 hrr.out hgetr.out (by have := f.n1; omega))
                    have hz11 := kx11.size
                    clear C10 k10 k11 hBy9
                    go_wp2_with fail
                    refine C11.out.mono ?_
                    rintro z w12 ⟨v12, rfl, own12, k12⟩
                    rw [hset.out] at own12
                    obtain ⟨g12, c12, rfl, -, -, hg1, hg2⟩ := own12.row (by rw [setD_len]; have := hV.out.2; omega)
                    rw [setD_len, hV.out.2] at own12 ⊢
                    have e0 := k12.cellS e0
                    have e1 := k12.cellS e1
                    have hbl12 := Nat.lt_of_lt_of_le hbl11 k12.size
                    have d0 := own12.intCell (k := rr) (by rw [setD_len]; exact hV.out.2.symm) (by rw [setD_len]; exact hrr.out)
                    rw [show (setD cj y.e)[rr]'(by rw [setD_len]; exact hrr.out) = y.e.n from hgetn.out] at d0
                    have kx12 := kx11.trans k12
                    have hO12 := hid (own12.less (base' := base) (by have := hWb; have := kj.size; omega))
                    have hD12 : Hid (∀ q, (Value.slice (some ⟨g12, 0, none⟩) n c12).ownBlock = some q → ¬ Sq q) := hid (fun q hq h => by
                      obtain rfl : g12 = q := by simpa [Value.ownBlock] using hq
                      have := hSq.out _ h
                      have := kj.size
                      omega)
                    clear C11 own12 hOc11 hBy11
                    go_upto_region 25 with (fail)
                    obtain ⟨w13, rfl⟩ : ∃ w13, w13 = w12 := ⟨_, rfl⟩
                    refine G2.wp_region_growT Kp [] 18 134 (G2.pvL [G2.eqv (.int .i64 0), G2.eqv (.bool false), G2.eqv (.bool false), G2.eqv (.pointer (some ⟨wi.heap.size, 0, none⟩)), G2.eqv (.int .i64 (rr : Int)), G2.eqv (.slice (some ⟨g12, 0, none⟩) n c12), G2.eqv (.int .i64 (n : Int)), G2.eqv (.bool false), G2.eqv (.bool false), G2.eqv (.bool false), G2.eqv (.slice (some ⟨g12, 0, none⟩) n c12), G2.eqv (.pointer (some ⟨wi.heap.size, 0, none⟩)), G2.eqv (.int .i64 (rr : Int)), G2.eqv (.pointer (some ⟨g12, rr, none⟩)), G2.eqv (.int .i64 y.e.n), G2.eqv (.pointer (some ⟨wi.heap.size, 1, none⟩)), G2.eqv (.int .i64 y.e.n), G2.eqv (.bool false)]) (by kernel_rfl) (by kernel_rfl) rfl (fun x => Kp.refl x) (fun _ _ _ h k => h.trans k) (Kp.refl _).drew (by intro _ _ _ _ _ h; exact h) (G2.pvL_keep (G2.stabL_cons (G2.stab_eq _) (G2.stabL_cons (G2.stab_eq _) (G2.stabL_cons (G2.stab_eq _) (G2.stabL_cons (G2.stab_eq _) (G2.stabL_cons (G2.stab_eq _) (G2.stabL_cons (G2.stab_eq _) (G2.stabL_cons (G2.stab_eq _) (G2.stabL_cons (G2.stab_eq _) (G2.stabL_cons (G2.stab_eq _) (G2.stabL_cons (G2.stab_eq _) (G2.stabL_cons (G2.stab_eq _) (G2.stabL_cons (G2.stab_eq _) (G2.stabL_cons (G2.stab_eq _) (G2.stabL_cons (G2.stab_eq _) (G2.stabL_cons (G2.stab_eq _) (G2.stabL_cons (G2.stab_eq _) (G2.stabL_cons (G2.stab_eq _) (G2.stabL_cons (G2.stab_eq _) (G2.stabL_nil)))))))))))))))))))) (G2.stepsT_cons 0 ?_ (G2.stepsT_cons 1 ?_ (G2.stepsT_cons 2 ?_ (G2.stepsT_cons 3 ?_ (G2.stepsT_cons 4 ?_ (G2.stepsT_cons 5 ?_ (G2.stepsT_cons 6 ?_ (G2.stepsT_cons 7 ?_ (G2.stepsT_cons 8 ?_ (G2.stepsT_cons 9 ?_ (G2.stepsT_cons 10 ?_ (G2.stepsT_cons 11 ?_ (G2.stepsT_cons 12 ?_ (G2.stepsT_cons 13 ?_ (G2.stepsT_cons 14 ?_ (G2.stepsT_cons 15 ?_ (G2.stepsT_cons 16 ?_ (G2.stepsT_cons 17 ?_ (G2.stepsT_nil _ _ _))))))))))))))))))) ?_ ?_
                    · intro a w' hk hF hD K hK
                      have h6 : a.tmps[6]?.getD undef = .int .i64 0 := hF 6 (by kernel_rfl)
                      clear hF hD
                      go_simp
                      exact hK.out _ _ (Kp.refl _) rfl
                    · intro a w' hk hF hD K hK
                      have h108 : a.tmps[108]?.getD undef = .int .i64 0 := hD 0 (by kernel_rfl)
                      clear hF hD
                      go_simp
                      exact hK.out _ _ (Kp.refl _) rfl
                    · intro a w' hk hF hD K hK
                      have h109 : a.tmps[109]?.getD undef = .bool false := hD 1 (by kernel_rfl)
                      clear hF hD
                      go_simp
                      exact hK.out _ _ (Kp.refl _) rfl
                    · intro a w' hk hF hD K hK
                      have h12 : a.tmps[12]?.getD undef = .pointer (some ⟨wi.heap.size, 0, none⟩) := hF 12 (by kernel_rfl)
                      have h110 : a.tmps[110]?.getD undef = .bool false := hD 2 (by kernel_rfl)
                      have g110 := guard_get h110
                      clear hF hD
                      go_simp
                      exact hK.out _ _ (Kp.refl _) rfl
                    · intro a w' hk hF hD K hK
                      have h111 : a.tmps[111]?.getD undef = .pointer (some ⟨wi.heap.size, 0, none⟩) := hD 3 (by kernel_rfl)
                      have h110 : a.tmps[110]?.getD undef = .bool false := hD 2 (by kernel_rfl)
                      have g110 := guard_get h110
                      clear hF hD
                      have z0 := hk.cellS e0
                      go_simp
                      exact hK.out _ _ (Kp.refl _) rfl
                    · intro a w' hk hF hD K hK
                      have h7 : a.tmps[7]?.getD undef = .slice (some ⟨g12, 0, none⟩) n c12 := hF 7 (by kernel_rfl)
                      have h110 : a.tmps[110]?.getD undef = .bool false := hD 2 (by kernel_rfl)
                      have g110 := guard_get h110
                      clear hF hD
                      go_simp
                      exact hK.out _ _ (Kp.refl _) rfl
                    · intro a w' hk hF hD K hK
                      have h113 : a.tmps[113]?.getD undef = .slice (some ⟨g12, 0, none⟩) n c12 := hD 5 (by kernel_rfl)
                      have h110 : a.tmps[110]?.getD undef = .bool false := hD 2 (by kernel_rfl)
                      have g110 := guard_get h110
                      clear hF hD
                      go_simp
                      exact hK.out _ _ (Kp.refl _) rfl
                    · intro a w' hk hF hD K hK
                      have h112 : a.tmps[112]?.getD undef = .int .i64 (rr : Int) := hD 4 (by kernel_rfl)
                      have h114 : a.tmps[114]?.getD undef = .int .i64 (n : Int) := hD 6 (by kernel_rfl)
                      have h110 : a.tmps[110]?.getD undef = .bool false := hD 2 (by kernel_rfl)
                      have g110 := guard_get h110
                      clear hF hD
                      go_simp
                      exact hK.out _ _ (Kp.refl _) rfl
                    · intro a w' hk hF hD K hK
                      have h110 : a.tmps[110]?.getD undef = .bool false := hD 2 (by kernel_rfl)
                      have h115 : a.tmps[115]?.getD undef = .bool false := hD 7 (by kernel_rfl)
                      clear hF hD
                      go_simp
                      exact hK.out _ _ (Kp.refl _) rfl
                    · intro a w' hk hF hD K hK
                      have h116 : a.tmps[116]?.getD undef = .bool false := hD 8 (by kernel_rfl)
                      clear hF hD
                      go_simp
                      exact hK.out _ _ (Kp.refl _) rfl
                    · intro a w' hk hF hD K hK
                      have h7 : a.tmps[7]?.getD undef = .slice (some ⟨g12, 0, none⟩) n c12 := hF 7 (by kernel_rfl)
                      have h117 : a.tmps[117]?.getD undef = .bool false := hD 9 (by kernel_rfl)
                      have g117 := guard_get h117
                      clear hF hD
                      go_simp
                      exact hK.out _ _ (Kp.refl _) rfl
                    · intro a w' hk hF hD K hK
                      have h12 : a.tmps[12]?.getD undef = .pointer (some ⟨wi.heap.size, 0, none⟩) := hF 12 (by kernel_rfl)
                      have h117 : a.tmps[117]?.getD undef = .bool false := hD 9 (by kernel_rfl)
                      have g117 := guard_get h117
                      clear hF hD
                      go_simp
                      exact hK.out _ _ (Kp.refl _) rfl
                    · intro a w' hk hF hD K hK
                      have h119 : a.tmps[119]?.getD undef = .pointer (some ⟨wi.heap.size, 0, none⟩) := hD 11 (by kernel_rfl)
                      have h117 : a.tmps[117]?.getD undef = .bool false := hD 9 (by kernel_rfl)
                      have g117 := guard_get h117
                      clear hF hD
                      have z0 := hk.cellS e0
                      go_simp
                      exact hK.out _ _ (Kp.refl _) rfl
                    · intro a w' hk hF hD K hK
                      have h118 : a.tmps[118]?.getD undef = .slice (some ⟨g12, 0, none⟩) n c12 := hD 10 (by kernel_rfl)
                      have h120 : a.tmps[120]?.getD undef = .int .i64 (rr : Int) := hD 12 (by kernel_rfl)
                      have h117 : a.tmps[117]?.getD undef = .bool false := hD 9 (by kernel_rfl)
                      have g117 := guard_get h117
                      clear hF hD
                      go_simp
                      exact hK.out _ _ (Kp.refl _) rfl
                    · intro a w' hk hF hD K hK
                      have h121 : a.tmps[121]?.getD undef = .pointer (some ⟨g12, rr, none⟩) := hD 13 (by kernel_rfl)
                      have h117 : a.tmps[117]?.getD undef = .bool false := hD 9 (by kernel_rfl)
                      have g117 := guard_get h117
                      clear hF hD
                      have z0 := hk.cellS d0
                      go_simp
                      exact hK.out _ _ (Kp.refl _) rfl
                    · intro a w' hk hF hD K hK
                      have h12 : a.tmps[12]?.getD undef = .pointer (some ⟨wi.heap.size, 0, none⟩) := hF 12 (by kernel_rfl)
                      have h117 : a.tmps[117]?.getD undef = .bool false := hD 9 (by kernel_rfl)
                      have g117 := guard_get h117
                      clear hF hD
                      go_simp
                      exact hK.out _ _ (Kp.refl _) rfl
                    · intro a w' hk hF hD K hK
                      have h123 : a.tmps[123]?.getD undef = .pointer (some ⟨wi.heap.size, 1, none⟩) := hD 15 (by kernel_rfl)
                      have h117 : a.tmps[117]?.getD undef = .bool false := hD 9 (by kernel_rfl)
                      have g117 := guard_get h117
                      clear hF hD
                      have z0 := hk.cellS e1
                      go_simp
                      exact hK.out _ _ (Kp.refl _) rfl
                    · intro a w' hk hF hD K hK
                      have h122 : a.tmps[122]?.getD undef = .int .i64 y.e.n := hD 14 (by kernel_rfl)
                      have h124 : a.tmps[124]?.getD undef = .int .i64 y.e.n := hD 16 (by kernel_rfl)
                      have h117 : a.tmps[117]?.getD undef = .bool false := hD 9 (by kernel_rfl)
                      have g117 := guard_get h117
                      clear hF hD
                      go_simp
                      exact hK.out _ _ (Kp.refl _) rfl
                    · exact fun i0 hi0 => by simp at hi0
                    intro v w9 k9 hv
                    have v9 : v 9 = .bool false := hv 9 (by omega)
                    have v17 : v 17 = .bool false := hv 17 (by omega)
                    clear hv
                    simp only [G2.growPut, G2.gSlot, List.getElem?_toArray, List.getElem?_cons_zero, List.getElem?_cons_succ, Option.bind_some, List.setIfInBounds_toArray, List.set_cons_zero, List.set_cons_succ, List.drop_succ_cons, List.drop_zero, v9, v17]
                    have kjf := (kj.trans kx12).trans k9
                    have hO13 := hid (hO12.out.kp k9)
                    have hVn : Hid (validC (setD cj y.e) = true ∧ (setD cj y.e).length = n) := hid ⟨set_valid hV.out.1 f, by rw [setD_len]; exact hV.out.2⟩
                    clear e0 e1 d0 hO12 kx12 kx11
                    go_wp2
                    go_roundw
                    case rel => exact ⟨j + 1, _, _, _, by omega, by go_num, rfl, hid hch2, hVn, hO13, hD12, kjf⟩
                    case measure => simp [intOf]; omega
                · have hjI : ¬ (j : Int) < (m : Int) := by omega
                  obtain rfl : j = m := by omega
                  have hcf : cj = cf := by
                    have := hCH.out
                    rw [List.drop_of_length_le (by rw [hm.out]; exact Nat.le_refl _)] at this
                    exact this
                  have hbj := hbq.kp kj
                  have C12 := hid (bClock_any hbj (by omega))
                  have kjf := (krq).trans kj
                  go_wp2_with fail
                  refine C12.out.mono ?_
                  rintro z w9 ⟨v9, rfl, own9, k9⟩
                  have C13 := EqualI_any v9 _ cf cj w9 (own9.sl encInt_len) ((hO8.out.kp k9).sl encInt_len)
                  rw [show decide (cf = cj) = true by rw [hcf]; simp] at C13
                  replace C13 := hid C13
                  clear C12 own9
                  go_wp2_with fail
                  refine C13.out.mono ?_
                  rintro z w10 ⟨rfl, k10⟩
                  have kf := (kj.trans k9).trans k10
                  have hbf := hbq.kp kf
                  have hOf := hid (hO8.out.kp (k9.trans k10))
                  have hSf := hid (fun q (hq : Sq q) => show base ≤ q ∧ q < w10.heap.size by have := hSq.out q hq; have := kf.size; omega)
                  rw [← hcf] at hbf
                  have hNf : Hid (BfN cj Hq) := by rw [hcf]; exact hNq
                  have kfin := (krq).trans kf
                  replace hcf := hid hcf
                  clear C13 kf hbq hO8
                  go_wp2
                  go_roundw
                  case rel => exact ⟨k + 1, Sq, cbq, ccq, Mq, cj, Hq, A8, c8, by omega, by go_num, rfl, hbf, hMq, hNf, hSf, hOf, hD8, kfin⟩
                  case measure => simp [intOf]; omega
            · have hcn := hb6.len
              obtain ⟨cf, hcf⟩ : ∃ cf, cf = (skipE (c, H) x.c).1.1 := ⟨_, rfl⟩
              obtain ⟨Hq, hHq⟩ : ∃ Hq, Hq = (skipE (c, H) x.c).1.2 := ⟨_, rfl⟩
              rw [← hcf] at hbq hN7 hl7 hch7
              rw [← hHq] at hMq hN7
              rw [← hoq] at hch7
              rw [hsk]
              have hB7 := hB6.fx fxq hbl6 (fun hq => by have := hSx.out _ hq; omega)
              have e13 := hB7.cell (j := 13) hL13
              have hbl7 := hB7.lt (by omega)
              have huq : Ints w7 (.slice Au x.c.length cu) x.c := huW.out.keep (pl_stable _) krq
              have hL := isL2 w7 (hO7.sl encInt_len) huq
              have kL := (Kp.refl w7).alloc (.cells #[.slice A7 n c7, .slice Au x.c.length cu] 27)
              have C7 := hid (cJoin_any c x.c w7.heap.size 2 _ hL)
              have hjv := joinC_ok hN.out.ok.clk hdv hdl
              have hwb7 : base ≤ w7.heap.size := by have := hbq.lb; have := hbq.blt; omega
              replace hcn := hid hcn
              replace hdl := hid hdl
              replace hl7 := hid hl7
              replace hjv := hid hjv
              replace hcf := hid hcf
              replace hHq := hid hHq
              replace hoq := hid hoq
              clear hsk hL hB7 hB6 huq
              go_wp2_with fail
              refine C7.out.mono ?_
              rintro z w8 ⟨v8, rfl, own8, k8⟩
              have k78 := kL.trans k8
              replace hjv := hjv.out
              obtain ⟨cj0, hcj0⟩ : ∃ cj0, cj0 = joinC c x.c := ⟨_, rfl⟩
              rw [← hcj0] at own8 hjv hch7
              obtain ⟨A8, c8, rfl, -, -⟩ := own8.form
              have hcl8 : cj0.length = n := by rw [hjv.2.1]; exact hcn.out
              rw [hcl8] at own8 ⊢
              have hVq : Hid (validC cj0 = true ∧ cj0.length = n) := hid ⟨hjv.2.2.1, hcl8⟩
              rw [hcn.out] at hch7
              have HCq : Hid (ChainE n cj0 (outs.map (·.e)) cf) := hid hch7
              have hOq := hid (own8.less (base' := base) (by have := kL.size; omega))
              have hDq : Hid (∀ q, (Value.slice A8 n c8).ownBlock = some q → ¬ Sq q) := hid (fun q hq h => by have := own8.ge q hq; have := (hSq.out q h).2; have := kL.size; omega)
              have hNq := hid hN7
              have krq8 := krq.trans k78
              have hbq8 := hbq.kp k78
              have hEq8 := hEq.kp k78
              have hSq8 := hid (fun q (hq : Sq q) => show base ≤ q ∧ q < w8.heap.size by have := hSq.out q hq; have := k78.size; omega)
              replace hMq := hid hMq
              replace hcj0 := hid hcj0
              clear hbq hEq hSq C7 own8 kL k8 hjv hcl8 hch7 hN7
              obtain ⟨hbq, hEq, hSq⟩ : BfW Sq base w8 b cbq ccq mb n cf Mq ∧ EsR Bq w8 (.slice Aq outs.length cq) outs ∧ Hid (∀ q, Sq q → base ≤ q ∧ q < w8.heap.size) := ⟨hbq8, hEq8, hSq8⟩
              clear hbq8 hEq8 hSq8
              obtain ⟨m, hm⟩ : ∃ m, m = outs.length := ⟨_, rfl⟩
              rw [← hm]
              have hCH : Hid (ChainE n cj0 ((outs.drop 0).map (·.e)) cf) := hid (by rw [List.drop_zero]; exact HCq.out)
              have hmb : m ≤ 9223372036854775807 := by have := hEq.own.bound; omega
              replace hm := hid hm
              have hWb : base ≤ (w8).heap.size := by have := hbq.lb; have := hbq.blt; omega
              go_wp2_with fail
              go_loopw [7, 73] (fun v7 vj wi => ∃ (j : Nat) (cj : List Int) (A7 : Option Addr) (c7 : Nat), j ≤ m ∧ vj = .int .i64 (j : Int) ∧ v7 = .slice A7 n c7 ∧ Hid (ChainE n cj ((outs.drop j).map (·.e)) cf) ∧ Hid (validC cj = true ∧ cj.length = n) ∧ Hid (Own encInt 3 1 base wi (.slice A7 n c7) cj) ∧ Hid (∀ q, (Value.slice A7 n c7).ownBlock = some q → ¬ Sq q) ∧ Kp w8 wi) (fun _ vj _ => m - (intOf vj).toNat)
              case atStart => exact ⟨0, _, _, _, Nat.zero_le _, rfl, rfl, hCH, hVq, hOq, hDq, Kp.refl _⟩
              case round =>
                clear hCH hOq hDq HCq hVq
                obtain ⟨j, cj, A8, c8, hj, rfl, rfl, hCH, hV, hO8, hD8, kj⟩ := hrel
                obtain ⟨wi, rfl⟩ : ∃ wi : World, wi = wr := ⟨_, rfl⟩
                have kji := (krq8).trans kj
                by_cases hjl : j < m
                · have hjI : (j : Int) < (m : Int) := by omega
                  have hjo : j < outs.length := by have := hm.out; omega
                  obtain ⟨gq, oq, rfl, hgq, hrw⟩ := Sl.evRange ((hEq.kp kj).own.sl encEs_len) hjo
                  obtain ⟨hpo, -⟩ := (hEq.kp kj).pst _ (List.getElem_mem hjo)
                  have hch := hCH.out
                  rw [List.drop_eq_getElem_cons hjo, List.map_cons] at hch
                  obtain ⟨⟨f, hpl, r1, r2⟩, hch2⟩ := hch
                  generalize outs[j] = y at *
                  obtain ⟨cm2, cm1⟩ := cmp_chain f.past hV.out.1 (hpl.trans hV.out.2.symm) r1
                  obtain ⟨kd, hkd⟩ : ∃ kd, kd = (cmpC y.e.past cj).1 := ⟨_, rfl⟩
                  rw [← hkd] at cm1
                  obtain ⟨Ly, hLy⟩ : ∃ Ly, Ly = encEs y := ⟨_, rfl⟩
                  have lLy : Ly.length = 13 := by rw [hLy]; rfl
                  have oLy : ∀ u ∈ Ly, u.oneCell' = true := by rw [hLy]; exact encEs_one y
                  have hL3 : Ly[3]? = some y.v := by rw [hLy]; rfl
                  rw [← hLy] at hrw
                  obtain ⟨rr, hrr0⟩ : ∃ rr : Nat, y.e.r = (rr : Int) := ⟨y.e.r.toNat, by have := f.r0; omega⟩
                  have hL0 : Ly[0]? = some (.int .i64 (rr : Int)) := by rw [hLy, ← hrr0]; rfl
                  have hL1 : Ly[1]? = some (.int .i64 y.e.n) := by rw [hLy]; rfl
                  have HNm : Hid (∀ W, Calls Try.prog 29 #[.agg Ly.toArray] W fun x w' => x = .returned (.agg #[.int .i64 y.e.r, .int .i64 y.e.n]) ∧ Kp W w') := hid fun W => by
                    rw [hLy]
                    exact qName_any y.e _ W
                  have hrr : Hid (rr < cj.length) := hid (by have := f.r1; have := hV.out.2; omega)
                  have hgetr : Hid (cj.getD rr 0 = y.e.n - 1) := hid (by
                    have := ready_at f r1 r2
                    rw [hrr0, Int.toNat_natCast] at this
                    exact this)
                  have hset : Hid (cj.set rr (y.e.n - 1 + 1) = setD cj y.e) := hid (by
                    unfold setD
                    rw [hrr0, Int.toNat_natCast, show y.e.n - 1 + 1 = y.e.n by omega])
                  have hgetn : Hid ((setD cj y.e)[rr]'(by rw [setD_len]; exact hrr.out) = y.e.n) := hid (by
                    unfold setD
                    simp [hrr0])
                  have hnh : Hid (hasC cj (nameE y.e) = false) := hid ((hasC_no hV.out.1 f (hpl.trans hV.out.2.symm)).2 r2)
                  have hrn : ¬ (n : Int) ≤ (rr : Int) := by have := hrr.out; have := hV.out.2; omega
                  have hrn1 : decide ((n : Int) ≤ (rr : Int)) = false := decide_eq_false hrn
                  have hrn2 : decide (n ≤ rr) = false := decide_eq_false (by omega)
                  have hrnI : (rr : Int) < (n : Int) := by omega
                  have hrn0 : (0 : Int) ≤ (rr : Int) := by omega
                  have hnne : (y.e.n != y.e.n) = false := by simp
                  replace hLy := hid hLy
                  replace hrr0 := hid hrr0
                  obtain ⟨hth2, hBy, kx⟩ := ev_box wi Ly lLy
                  obtain ⟨w8, hw8⟩ : ∃ w8, w8 = (wi.alloc (.cells #[.int .i64 0, .int .i64 0, .int .i64 0, .slice none 0 0, .int .i64 0, .int .i64 0, .int .i64 0, .int .i64 0, .int .i64 0, .int .i64 0, .int .i64 0, .int .i64 0, .int .i64 0] 33)).setCells wi.heap.size 0 Ly := ⟨_, rfl⟩
                  rw [← hw8] at hBy kx
                  replace hw8 := hid hw8
                  have e3 := hBy.cell (j := 3) hL3
                  have hbl8 := hBy.lt (by omega)
                  have C8 := cCompare_any y.e.past cj y.v (.slice A8 n c8) w8 ((hpo.kp kx).sl encInt_len) ((hO8.out.kp kx).sl encInt_len)
                  rw [← hkd, cm2] at C8
                  replace C8 := hid C8
                  replace hkd := hid hkd
                  clear cm2 r1 r2
                  go_wp2_with (first | (refine wpList_load_mid rfl 33 (.tmp 75) rfl gq (oq + j * 13) rfl _ _ hrw Try.underlying33 rfl (iEv lLy) ?_) | (refine wpList_store_mid rfl 33 (.tmp 12) (.tmp 76) rfl wi.heap.size 0 Ly.toArray rfl rfl hth2 (iEv2 lLy) (all_oneCell_toArray oLy) ?_; rw [List.toList_toArray, ← hw8.out]))
                  refine C8.out.mono ?_
                  rintro z w9 ⟨rfl, k9⟩
                  have hBy9 := hBy.kp k9 hbl8
                  have hbl9 := hBy9.lt (by omega)
                  clear C8 e3 hBy hrw
                  rcases cm1 with rfl | rfl
                  · go_wp2_with (refine wpl_load_mid_g (by simp [Region.wanted, yielded]) 33 (.tmp 12) rfl wi.heap.size 0 rfl _ _ hBy9.range Try.underlying33 rfl (iEv lLy) ?_)
                    refine (HNm.out _).mono ?_
                    rintro z w10 ⟨rfl, k10⟩
                    have C10 := cHas_any cj y.e.r y.e.n _ w10 ((hO8.out.kp ((kx.trans k9).trans k10)).sl encInt_len)
                    rw [show hasC cj (y.e.r, y.e.n) = false from hnh.out] at C10
                    replace C10 := hid C10
                    go_wp2_with fail
                    refine C10.out.mono ?_
                    rintro z w11 ⟨rfl, k11⟩
                    have kx11 := ((kx.trans k9).trans k10).trans k11
                    have hBy11 := hBy9.kp (k10.trans k11) hbl9
                    have e0 := hBy11.cell (j := 0) hL0
                    have e1 := hBy11.cell (j := 1) hL1
                    have hbl11 := hBy11.lt (by omega)
                    have hOc11 := hO8.out.kp kx11
                    have C11 := hid (cAdvance_any cj rr (y.e.n - 1) _ w11 (hOc11.sl encInt_len) hV.out.1 hrr.out hgetr.out (by have := f.n1; omega))
                    have hz11 := kx11.size
                    clear C10 k10 k11 hBy9
                    go_wp2_with fail
                    refine C11.out.mono ?_
                    rintro z w12 ⟨v12, rfl, own12, k12⟩
                    rw [hset.out] at own12
                    obtain ⟨g12, c12, rfl, -, -, hg1, hg2⟩ := own12.row (by rw [setD_len]; have := hV.out.2; omega)
                    rw [setD_len, hV.out.2] at own12 ⊢
                    have e0 := k12.cellS e0
                    have e1 := k12.cellS e1
                    have hbl12 := Nat.lt_of_lt_of_le hbl11 k12.size
                    have d0 := own12.intCell (k := rr) (by rw [setD_len]; exact hV.out.2.symm) (by rw [setD_len]; exact hrr.out)
                    rw [show (setD cj y.e)[rr]'(by rw [setD_len]; exact hrr.out) = y.e.n from hgetn.out] at d0
                    have kx12 := kx11.trans k12
                    have hO12 := hid (own12.less (base' := base) (by have := hWb; have := kj.size; omega))
                    have hD12 : Hid (∀ q, (Value.slice (some ⟨g12, 0, none⟩) n c12).ownBlock = some q → ¬ Sq q) := hid (fun q hq h => by
                      obtain rfl : g12 = q := by simpa [Value.ownBlock] using hq
                      have := hSq.out _ h
                      have := kj.size
                      omega)
                    clear C11 own12 hOc11 hBy11
                    go_upto_region 25 with (fail)
                    obtain ⟨w13, rfl⟩ : ∃ w13, w13 = w12 := ⟨_, rfl⟩
                    refine G2.wp_region_growT Kp [] 18 134 (G2.pvL [G2.eqv (.int .i64 0), G2.eqv (.bool false), G2.eqv (.bool false), G2.eqv (.pointer (some ⟨wi.heap.size, 0, none⟩)), G2.eqv (.int .i64 (rr : Int)), G2.eqv (.slice (some ⟨g12, 0, none⟩) n c12), G2.eqv (.int .i64 (n : Int)), G2.eqv (.bool false), G2.eqv (.bool false), G2.eqv (.bool false), G2.eqv (.slice (some ⟨g12, 0, none⟩) n c12), G2.eqv (.pointer (some ⟨wi.heap.size, 0, none⟩)), G2.eqv (.int .i64 (rr : Int)), G2.eqv (.pointer (some ⟨g12, rr, none⟩)), G2.eqv (.int .i64 y.e.n), G2.eqv (.pointer (some ⟨wi.heap.size, 1, none⟩)), G2.eqv (.int .i64 y.e.n), G2.eqv (.bool false)]) (by kernel_rfl) (by kernel_rfl) rfl (fun x => Kp.refl x) (fun _ _ _ h k => h.trans k) (Kp.refl _).drew (by intro _ _ _ _ _ h; exact h) (G2.pvL_keep (G2.stabL_cons (G2.stab_eq _) (G2.stabL_cons (G2.stab_eq _) (G2.stabL_cons (G2.stab_eq _) (G2.stabL_cons (G2.stab_eq _) (G2.stabL_cons (G2.stab_eq _) (G2.stabL_cons (G2.stab_eq _) (G2.stabL_cons (G2.stab_eq _) (G2.stabL_cons (G2.stab_eq _) (G2.stabL_cons (G2.stab_eq _) (G2.stabL_cons (G2.stab_eq _) (G2.stabL_cons (G2.stab_eq _) (G2.stabL_cons (G2.stab_eq _) (G2.stabL_cons (G2.stab_eq _) (G2.stabL_cons (G2.stab_eq _) (G2.stabL_cons (G2.stab_eq _) (G2.stabL_cons (G2.stab_eq _) (G2.stabL_cons (G2.stab_eq _) (G2.stabL_cons (G2.stab_eq _) (G2.stabL_nil)))))))))))))))))))) (G2.stepsT_cons 0 ?_ (G2.stepsT_cons 1 ?_ (G2.stepsT_cons 2 ?_ (G2.stepsT_cons 3 ?_ (G2.stepsT_cons 4 ?_ (G2.stepsT_cons 5 ?_ (G2.stepsT_cons 6 ?_ (G2.stepsT_cons 7 ?_ (G2.stepsT_cons 8 ?_ (G2.stepsT_cons 9 ?_ (G2.stepsT_cons 10 ?_ (G2.stepsT_cons 11 ?_ (G2.stepsT_cons 12 ?_ (G2.stepsT_cons 13 ?_ (G2.stepsT_cons 14 ?_ (G2.stepsT_cons 15 ?_ (G2.stepsT_cons 16 ?_ (G2.stepsT_cons 17 ?_ (G2.stepsT_nil _ _ _))))))))))))))))))) ?_ ?_
                    · intro a w' hk hF hD K hK
                      have h6 : a.tmps[6]?.getD undef = .int .i64 0 := hF 6 (by kernel_rfl)
                      clear hF hD
                      go_simp
                      exact hK.out _ _ (Kp.refl _) rfl
                    · intro a w' hk hF hD K hK
                      have h108 : a.tmps[108]?.getD undef = .int .i64 0 := hD 0 (by kernel_rfl)
                      clear hF hD
                      go_simp
                      exact hK.out _ _ (Kp.refl _) rfl
                    · intro a w' hk hF hD K hK
                      have h109 : a.tmps[109]?.getD undef = .bool false := hD 1 (by kernel_rfl)
                      clear hF hD
                      go_simp
                      exact hK.out _ _ (Kp.refl _) rfl
                    · intro a w' hk hF hD K hK
                      have h12 : a.tmps[12]?.getD undef = .pointer (some ⟨wi.heap.size, 0, none⟩) := hF 12 (by kernel_rfl)
                      have h110 : a.tmps[110]?.getD undef = .bool false := hD 2 (by kernel_rfl)
                      have g110 := guard_get h110
                      clear hF hD
                      go_simp
                      exact hK.out _ _ (Kp.refl _) rfl
                    · intro a w' hk hF hD K hK
                      have h111 : a.tmps[111]?.getD undef = .pointer (some ⟨wi.heap.size, 0, none⟩) := hD 3 (by kernel_rfl)
                      have h110 : a.tmps[110]?.getD undef = .bool false := hD 2 (by kernel_rfl)
                      have g110 := guard_get h110
                      clear hF hD
                      have z0 := hk.cellS e0
                      go_simp
                      exact hK.out _ _ (Kp.refl _) rfl
                    · intro a w' hk hF hD K hK
                      have h7 : a.tmps[7]?.getD undef = .slice (some ⟨g12, 0, none⟩) n c12 := hF 7 (by kernel_rfl)
                      have h110 : a.tmps[110]?.getD undef = .bool false := hD 2 (by kernel_rfl)
                      have g110 := guard_get h110
                      clear hF hD
                      go_simp
                      exact hK.out _ _ (Kp.refl _) rfl
                    · intro a w' hk hF hD K hK
                      have h113 : a.tmps[113]?.getD undef = .slice (some ⟨g12, 0, none⟩) n c12 := hD 5 (by kernel_rfl)
                      have h110 : a.tmps[110]?.getD undef = .bool false := hD 2 (by kernel_rfl)
                      have g110 := guard_get h110
                      clear hF hD
                      go_simp
                      exact hK.out _ _ (Kp.refl _) rfl
                    · intro a w' hk hF hD K hK
                      have h112 : a.tmps[112]?.getD undef = .int .i64 (rr : Int) := hD 4 (by kernel_rfl)
                      have h114 : a.tmps[114]?.getD undef = .int .i64 (n : Int) := hD 6 (by kernel_rfl)
                      have h110 : a.tmps[110]?.getD undef = .bool false := hD 2 (by kernel_rfl)
                      have g110 := guard_get h110
                      clear hF hD
                      go_simp
                      exact hK.out _ _ (Kp.refl _) rfl
                    · intro a w' hk hF hD K hK
                      have h110 : a.tmps[110]?.getD undef = .bool false := hD 2 (by kernel_rfl)
                      have h115 : a.tmps[115]?.getD undef = .bool false := hD 7 (by kernel_rfl)
                      clear hF hD
                      go_simp
                      exact hK.out _ _ (Kp.refl _) rfl
                    · intro a w' hk hF hD K hK
                      have h116 : a.tmps[116]?.getD undef = .bool false := hD 8 (by kernel_rfl)
                      clear hF hD
                      go_simp
                      exact hK.out _ _ (Kp.refl _) rfl
                    · intro a w' hk hF hD K hK
                      have h7 : a.tmps[7]?.getD undef = .slice (some ⟨g12, 0, none⟩) n c12 := hF 7 (by kernel_rfl)
                      have h117 : a.tmps[117]?.getD undef = .bool false := hD 9 (by kernel_rfl)
                      have g117 := guard_get h117
                      clear hF hD
                      go_simp
                      exact hK.out _ _ (Kp.refl _) rfl
                    · intro a w' hk hF hD K hK
                      have h12 : a.tmps[12]?.getD undef = .pointer (some ⟨wi.heap.size, 0, none⟩) := hF 12 (by kernel_rfl)
                      have h117 : a.tmps[117]?.getD undef = .bool false := hD 9 (by kernel_rfl)
                      have g117 := guard_get h117
                      clear hF hD
                      go_simp
                      exact hK.out _ _ (Kp.refl _) rfl
                    · intro a w' hk hF hD K hK
                      have h119 : a.tmps[119]?.getD undef = .pointer (some ⟨wi.heap.size, 0, none⟩) := hD 11 (by kernel_rfl)
                      have h117 : a.tmps[117]?.getD undef = .bool false := hD 9 (by kernel_rfl)
                      have g117 := guard_get h117
                      clear hF hD
                      have z0 := hk.cellS e0
                      go_simp
                      exact hK.out _ _ (Kp.refl _) rfl
                    · intro a w' hk hF hD K hK
                      have h118 : a.tmps[118]?.getD undef = .slice (some ⟨g12, 0, none⟩) n c12 := hD 10 (by kernel_rfl)
                      have h120 : a.tmps[120]?.getD undef = .int .i64 (rr : Int) := hD 12 (by kernel_rfl)
                      have h117 : a.tmps[117]?.getD undef = .bool false := hD 9 (by kernel_rfl)
                      have g117 := guard_get h117
                      clear hF hD
                      go_simp
                      exact hK.out _ _ (Kp.refl _) rfl
                    · intro a w' hk hF hD K hK
                      have h121 : a.tmps[121]?.getD undef = .pointer (some ⟨g12, rr, none⟩) := hD 13 (by kernel_rfl)
                      have h117 : a.tmps[117]?.getD undef = .bool false := hD 9 (by kernel_rfl)
                      have g117 := guard_get h117
                      clear hF hD
                      have z0 := hk.cellS d0
                      go_simp
                      exact hK.out _ _ (Kp.refl _) rfl
                    · intro a w' hk hF hD K hK
                      have h12 : a.tmps[12]?.getD undef = .pointer (some ⟨wi.heap.size, 0, none⟩) := hF 12 (by kernel_rfl)
                      have h117 : a.tmps[117]?.getD undef = .bool false := hD 9 (by kernel_rfl)
                      have g117 := guard_get h117
                      clear hF hD
                      go_simp
                      exact hK.out _ _ (Kp.refl _) rfl
                    · intro a w' hk hF hD K hK
                      have h123 : a.tmps[123]?.getD undef = .pointer (some ⟨wi.heap.size, 1, none⟩) := hD 15 (by kernel_rfl)
                      have h117 : a.tmps[117]?.getD undef = .bool false := hD 9 (by kernel_rfl)
                      have g117 := guard_get h117
                      clear hF hD
                      have z0 := hk.cellS e1
                      go_simp
                      exact hK.out _ _ (Kp.refl _) rfl
                    · intro a w' hk hF hD K hK
                      have h122 : a.tmps[122]?.getD undef = .int .i64 y.e.n := hD 14 (by kernel_rfl)
                      have h124 : a.tmps[124]?.getD undef = .int .i64 y.e.n := hD 16 (by kernel_rfl)
                      have h117 : a.tmps[117]?.getD undef = .bool false := hD 9 (by kernel_rfl)
                      have g117 := guard_get h117
                      clear hF hD
                      go_simp
                      exact hK.out _ _ (Kp.refl _) rfl
                    · exact fun i0 hi0 => by simp at hi0
                    intro v w9 k9 hv
                    have v9 : v 9 = .bool false := hv 9 (by omega)
                    have v17 : v 17 = .bool false := hv 17 (by omega)
                    clear hv
                    simp only [G2.growPut, G2.gSlot, List.getElem?_toArray, List.getElem?_cons_zero, List.getElem?_cons_succ, Option.bind_some, List.setIfInBounds_toArray, List.set_cons_zero, List.set_cons_succ, List.drop_succ_cons, List.drop_zero, v9, v17]
                    have kjf := (kj.trans kx12).trans k9
                    have hO13 := hid (hO12.out.kp k9)
                    have hVn : Hid (validC (setD cj y.e) = true ∧ (setD cj y.e).length = n) := hid ⟨set_valid hV.out.1 f, by rw [setD_len]; exact hV.out.2⟩
                    clear e0 e1 d0 hO12 kx12 kx11
                    go_wp2
                    go_roundw
                    case rel => exact ⟨j + 1, _, _, _, by omega, by go_num, rfl, hid hch2, hVn, hO13, hD12, kjf⟩
                    case measure => simp [intOf]; omega
                  · go_wp2_with (refine wpl_load_mid_g (by simp [Region.wanted, yielded]) 33 (.tmp 12) rfl wi.heap.size 0 rfl _ _ hBy9.range Try.underlying33 rfl (iEv lLy) ?_)
                    refine (HNm.out _).mono ?_
                    rintro z w10 ⟨rfl, k10⟩
                    have C10 := cHas_any cj y.e.r y.e.n _ w10 ((hO8.out.kp ((kx.trans k9).trans k10)).sl encInt_len)
                    rw [show hasC cj (y.e.r, y.e.n) = false from hnh.out] at C10
                    replace C10 := hid C10
                    go_wp2_with fail
                    refine C10.out.mono ?_
                    rintro z w11 ⟨rfl, k11⟩
                    have kx11 := ((kx.trans k9).trans k10).trans k11
                    have hBy11 := hBy9.kp (k10.trans k11) hbl9
                    have e0 := hBy11.cell (j := 0) hL0
                    have e1 := hBy11.cell (j := 1) hL1
                    have hbl11 := hBy11.lt (by omega)
                    have hOc11 := hO8.out.kp kx11
                    have C11 := hid (cAdvance_any cj rr (y.e.n - 1) _ w11 (hOc11.sl encInt_len) hV.out.1 hrr.out hgetr.out (by have := f.n1; omega))
                    have hz11 := kx11.size
                    clear C10 k10 k11 hBy9
                    go_wp2_with fail
                    refine C11.out.mono ?_
                    rintro z w12 ⟨v12, rfl, own12, k12⟩
                    rw [hset.out] at own12
                    obtain ⟨g12, c12, rfl, -, -, hg1, hg2⟩ := own12.row (by rw [setD_len]; have := hV.out.2; omega)
                    rw [setD_len, hV.out.2] at own12 ⊢
                    have e0 := k12.cellS e0
                    have e1 := k12.cellS e1
                    have hbl12 := Nat.lt_of_lt_of_le hbl11 k12.size
                    have d0 := own12.intCell (k := rr) (by rw [setD_len]; exact hV.out.2.symm) (by rw [setD_len]; exact hrr.out)
                    rw [show (setD cj y.e)[rr]'(by rw [setD_len]; exact hrr.out) = y.e.n from hgetn.out] at d0
                    have kx12 := kx11.trans k12
                    have hO12 := hid (own12.less (base' := base) (by have := hWb; have := kj.size; omega))
                    have hD12 : Hid (∀ q, (Value.slice (some ⟨g12, 0, none⟩) n c12).ownBlock = some q → ¬ Sq q) := hid (fun q hq h => by
                      obtain rfl : g12 = q := by simpa [Value.ownBlock] using hq
                      have := hSq.out _ h
                      have := kj.size
                      omega)
                    clear C11 own12 hOc11 hBy11
                    go_upto_region 25 with (fail)
                    obtain ⟨w13, rfl⟩ : ∃ w13, w13 = w12 := ⟨_, rfl⟩
                    refine G2.wp_region_growT Kp [] 18 134 (G2.pvL [G2.eqv (.int .i64 0), G2.eqv (.bool false), G2.eqv (.bool false), G2.eqv (.pointer (some ⟨wi.heap.size, 0, none⟩)), G2.eqv (.int .i64 (rr : Int)), G2.eqv (.slice (some ⟨g12, 0, none⟩) n c12), G2.eqv (.int .i64 (n : Int)), G2.eqv (.bool false), G2.eqv (.bool false), G2.eqv (.bool false), G2.eqv (.slice (some ⟨g12, 0, none⟩) n c12), G2.eqv (.pointer (some ⟨wi.heap.size, 0, none⟩)), G2.eqv (.int .i64 (rr : Int)), G2.eqv (.pointer (some ⟨g12, rr, none⟩)), G2.eqv (.int .i64 y.e.n), G2.eqv (.pointer (some ⟨wi.heap.size, 1, none⟩)), G2.eqv (.int .i64 y.e.n), G2.eqv (.bool false)]) (by kernel_rfl) (by kernel_rfl) rfl (fun x => Kp.refl x) (fun _ _ _ h k => h.trans k) (Kp.refl _).drew (by intro _ _ _ _ _ h; exact h) (G2.pvL_keep (G2.stabL_cons (G2.stab_eq _) (G2.stabL_cons (G2.stab_eq _) (G2.stabL_cons (G2.stab_eq _) (G2.stabL_cons (G2.stab_eq _) (G2.stabL_cons (G2.stab_eq _) (G2.stabL_cons (G2.stab_eq _) (G2.stabL_cons (G2.stab_eq _) (G2.stabL_cons (G2.stab_eq _) (G2.stabL_cons (G2.stab_eq _) (G2.stabL_cons (G2.stab_eq _) (G2.stabL_cons (G2.stab_eq _) (G2.stabL_cons (G2.stab_eq _) (G2.stabL_cons (G2.stab_eq _) (G2.stabL_cons (G2.stab_eq _) (G2.stabL_cons (G2.stab_eq _) (G2.stabL_cons (G2.stab_eq _) (G2.stabL_cons (G2.stab_eq _) (G2.stabL_cons (G2.stab_eq _) (G2.stabL_nil)))))))))))))))))))) (G2.stepsT_cons 0 ?_ (G2.stepsT_cons 1 ?_ (G2.stepsT_cons 2 ?_ (G2.stepsT_cons 3 ?_ (G2.stepsT_cons 4 ?_ (G2.stepsT_cons 5 ?_ (G2.stepsT_cons 6 ?_ (G2.stepsT_cons 7 ?_ (G2.stepsT_cons 8 ?_ (G2.stepsT_cons 9 ?_ (G2.stepsT_cons 10 ?_ (G2.stepsT_cons 11 ?_ (G2.stepsT_cons 12 ?_ (G2.stepsT_cons 13 ?_ (G2.stepsT_cons 14 ?_ (G2.stepsT_cons 15 ?_ (G2.stepsT_cons 16 ?_ (G2.stepsT_cons 17 ?_ (G2.stepsT_nil _ _ _))))))))))))))))))) ?_ ?_
                    · intro a w' hk hF hD K hK
                      have h6 : a.tmps[6]?.getD undef = .int .i64 0 := hF 6 (by kernel_rfl)
                      clear hF hD
                      go_simp
                      exact hK.out _ _ (Kp.refl _) rfl
                    · intro a w' hk hF hD K hK
                      have h108 : a.tmps[108]?.getD undef = .int .i64 0 := hD 0 (by kernel_rfl)
                      clear hF hD
                      go_simp
                      exact hK.out _ _ (Kp.refl _) rfl
                    · intro a w' hk hF hD K hK
                      have h109 : a.tmps[109]?.getD undef = .bool false := hD 1 (by kernel_rfl)
                      clear hF hD
                      go_simp
                      exact hK.out _ _ (Kp.refl _) rfl
                    · intro a w' hk hF hD K hK
                      have h12 : a.tmps[12]?.getD undef = .pointer (some ⟨wi.heap.size, 0, none⟩) := hF 12 (by kernel_rfl)
                      have h110 : a.tmps[110]?.getD undef = .bool false := hD 2 (by kernel_rfl)
                      have g110 := guard_get h110
                      clear hF hD
                      go_simp
                      exact hK.out _ _ (Kp.refl _) rfl
                    · intro a w' hk hF hD K hK
                      have h111 : a.tmps[111]?.getD undef = .pointer (some ⟨wi.heap.size, 0, none⟩) := hD 3 (by kernel_rfl)
                      have h110 : a.tmps[110]?.getD undef = .bool false := hD 2 (by kernel_rfl)
                      have g110 := guard_get h110
                      clear hF hD
                      have z0 := hk.cellS e0
                      go_simp
                      exact hK.out _ _ (Kp.refl _) rfl
                    · intro a w' hk hF hD K hK
                      have h7 : a.tmps[7]?.getD undef = .slice (some ⟨g12, 0, none⟩) n c12 := hF 7 (by kernel_rfl)
                      have h110 : a.tmps[110]?.getD undef = .bool false := hD 2 (by kernel_rfl)
                      have g110 := guard_get h110
                      clear hF hD
                      go_simp
                      exact hK.out _ _ (Kp.refl _) rfl
                    · intro a w' hk hF hD K hK
                      have h113 : a.tmps[113]?.getD undef = .slice (some ⟨g12, 0, none⟩) n c12 := hD 5 (by kernel_rfl)
                      have h110 : a.tmps[110]?.getD undef = .bool false := hD 2 (by kernel_rfl)
                      have g110 := guard_get h110
                      clear hF hD
                      go_simp
                      exact hK.out _ _ (Kp.refl _) rfl
                    · intro a w' hk hF hD K hK
                      have h112 : a.tmps[112]?.getD undef = .int .i64 (rr : Int) := hD 4 (by kernel_rfl)
                      have h114 : a.tmps[114]?.getD undef = .int .i64 (n : Int) := hD 6 (by kernel_rfl)
                      have h110 : a.tmps[110]?.getD undef = .bool false := hD 2 (by kernel_rfl)
                      have g110 := guard_get h110
                      clear hF hD
                      go_simp
                      exact hK.out _ _ (Kp.refl _) rfl
                    · intro a w' hk hF hD K hK
                      have h110 : a.tmps[110]?.getD undef = .bool false := hD 2 (by kernel_rfl)
                      have h115 : a.tmps[115]?.getD undef = .bool false := hD 7 (by kernel_rfl)
                      clear hF hD
                      go_simp
                      exact hK.out _ _ (Kp.refl _) rfl
                    · intro a w' hk hF hD K hK
                      have h116 : a.tmps[116]?.getD undef = .bool false := hD 8 (by kernel_rfl)
                      clear hF hD
                      go_simp
                      exact hK.out _ _ (Kp.refl _) rfl
                    · intro a w' hk hF hD K hK
                      have h7 : a.tmps[7]?.getD undef = .slice (some ⟨g12, 0, none⟩) n c12 := hF 7 (by kernel_rfl)
                      have h117 : a.tmps[117]?.getD undef = .bool false := hD 9 (by kernel_rfl)
                      have g117 := guard_get h117
                      clear hF hD
                      go_simp
                      exact hK.out _ _ (Kp.refl _) rfl
                    · intro a w' hk hF hD K hK
                      have h12 : a.tmps[12]?.getD undef = .pointer (some ⟨wi.heap.size, 0, none⟩) := hF 12 (by kernel_rfl)
                      have h117 : a.tmps[117]?.getD undef = .bool false := hD 9 (by kernel_rfl)
                      have g117 := guard_get h117
                      clear hF hD
                      go_simp
                      exact hK.out _ _ (Kp.refl _) rfl
                    · intro a w' hk hF hD K hK
                      have h119 : a.tmps[119]?.getD undef = .pointer (some ⟨wi.heap.size, 0, none⟩) := hD 11 (by kernel_rfl)
                      have h117 : a.tmps[117]?.getD undef = .bool false := hD 9 (by kernel_rfl)
                      have g117 := guard_get h117
                      clear hF hD
                      have z0 := hk.cellS e0
                      go_simp
                      exact hK.out _ _ (Kp.refl _) rfl
                    · intro a w' hk hF hD K hK
                      have h118 : a.tmps[118]?.getD undef = .slice (some ⟨g12, 0, none⟩) n c12 := hD 10 (by kernel_rfl)
                      have h120 : a.tmps[120]?.getD undef = .int .i64 (rr : Int) := hD 12 (by kernel_rfl)
                      have h117 : a.tmps[117]?.getD undef = .bool false := hD 9 (by kernel_rfl)
                      have g117 := guard_get h117
                      clear hF hD
                      go_simp
                      exact hK.out _ _ (Kp.refl _) rfl
                    · intro a w' hk hF hD K hK
                      have h121 : a.tmps[121]?.getD undef = .pointer (some ⟨g12, rr, none⟩) := hD 13 (by kernel_rfl)
                      have h117 : a.tmps[117]?.getD undef = .bool false := hD 9 (by kernel_rfl)
                      have g117 := guard_get h117
                      clear hF hD
                      have z0 := hk.cellS d0
                      go_simp
                      exact hK.out _ _ (Kp.refl _) rfl
                    · intro a w' hk hF hD K hK
                      have h12 : a.tmps[12]?.getD undef = .pointer (some ⟨wi.heap.size, 0, none⟩) := hF 12 (by kernel_rfl)
                      have h117 : a.tmps[117]?.getD undef = .bool false := hD 9 (by kernel_rfl)
                      have g117 := guard_get h117
                      clear hF hD
                      go_simp
                      exact hK.out _ _ (Kp.refl _) rfl
                    · intro a w' hk hF hD K hK
                      have h123 : a.tmps[123]?.getD undef = .pointer (some ⟨wi.heap.size, 1, none⟩) := hD 15 (by kernel_rfl)
                      have h117 : a.tmps[117]?.getD undef = .bool false := hD 9 (by kernel_rfl)
                      have g117 := guard_get h117
                      clear hF hD
                      have z0 := hk.cellS e1
                      go_simp
                      exact hK.out _ _ (Kp.refl _) rfl
                    · intro a w' hk hF hD K hK
                      have h122 : a.tmps[122]?.getD undef = .int .i64 y.e.n := hD 14 (by kernel_rfl)
                      have h124 : a.tmps[124]?.getD undef = .int .i64 y.e.n := hD 16 (by kernel_rfl)
                      have h117 : a.tmps[117]?.getD undef = .bool false := hD 9 (by kernel_rfl)
                      have g117 := guard_get h117
                      clear hF hD
                      go_simp
                      exact hK.out _ _ (Kp.refl _) rfl
                    · exact fun i0 hi0 => by simp at hi0
                    intro v w9 k9 hv
                    have v9 : v 9 = .bool false := hv 9 (by omega)
                    have v17 : v 17 = .bool false := hv 17 (by omega)
                    clear hv
                    simp only [G2.growPut, G2.gSlot, List.getElem?_toArray, List.getElem?_cons_zero, List.getElem?_cons_succ, Option.bind_some, List.setIfInBounds_toArray, List.set_cons_zero, List.set_cons_succ, List.drop_succ_cons, List.drop_zero, v9, v17]
                    have kjf := (kj.trans kx12).trans k9
                    have hO13 := hid (hO12.out.kp k9)
                    have hVn : Hid (validC (setD cj y.e) = true ∧ (setD cj y.e).length = n) := hid ⟨set_valid hV.out.1 f, by rw [setD_len]; exact hV.out.2⟩
                    clear e0 e1 d0 hO12 kx12 kx11
                    go_wp2
                    go_roundw
                    case rel => exact ⟨j + 1, _, _, _, by omega, by go_num, rfl, hid hch2, hVn, hO13, hD12, kjf⟩
                    case measure => simp [intOf]; omega
                · have hjI : ¬ (j : Int) < (m : Int) := by omega
                  obtain rfl : j = m := by omega
                  have hcf : cj = cf := by
                    have := hCH.out
                    rw [List.drop_of_length_le (by rw [hm.out]; exact Nat.le_refl _)] at this
                    exact this
                  have hbj := hbq.kp kj
                  have C12 := hid (bClock_any hbj (by omega))
                  have kjf := (krq8).trans kj
                  go_wp2_with fail
                  refine C12.out.mono ?_
                  rintro z w9 ⟨v9, rfl, own9, k9⟩
                  have C13 := EqualI_any v9 _ cf cj w9 (own9.sl encInt_len) ((hO8.out.kp k9).sl encInt_len)
                  rw [show decide (cf = cj) = true by rw [hcf]; simp] at C13
                  replace C13 := hid C13
                  clear C12 own9
                  go_wp2_with fail
                  refine C13.out.mono ?_
                  rintro z w10 ⟨rfl, k10⟩
                  have kf := (kj.trans k9).trans k10
                  have hbf := hbq.kp kf
                  have hOf := hid (hO8.out.kp (k9.trans k10))
                  have hSf := hid (fun q (hq : Sq q) => show base ≤ q ∧ q < w10.heap.size by have := hSq.out q hq; have := kf.size; omega)
                  rw [← hcf] at hbf
                  have hNf : Hid (BfN cj Hq) := by rw [hcf]; exact hNq
                  have kfin := (krq8).trans kf
                  replace hcf := hid hcf
                  clear C13 kf hbq hO8
                  go_wp2
                  go_roundw
                  case rel => exact ⟨k + 1, Sq, cbq, ccq, Mq, cj, Hq, A8, c8, by omega, by go_num, rfl, hbf, hMq, hNf, hSf, hOf, hD8, kfin⟩
                  case measure => simp [intOf]; omega
          · have g1 : decide ((0 : Int) < (x.c.length : Int)) = false := decide_eq_false (by omega)
            have g2 : ¬ (0 : Int) < (x.c.length : Int) := by omega
            have C6 := bAdd_any hb6 (fun q hq => (hS6.out q hq).2) hM.out hN.out.ok x.e _ hv6.out (by have := hx8.1; omega)
            obtain ⟨LE, hLE⟩ : ∃ LE, LE = evL x.e (.slice Av x.e.past.length cv) := ⟨_, rfl⟩
            have lLE : LE.length = 13 := by rw [hLE]; rfl
            have hrE : w6.rangeAt wo.heap.size 0 LE := by
              have h1 := rangeAt_take hB6.range 13
              rw [hLA.out] at h1
              rw [hLE]
              exact h1
            rw [show evV x.e (.slice Av x.e.past.length cv) = .agg LE.toArray by rw [hLE]] at C6
            replace hLE := hid hLE
            go_wp2_with (first | (refine wpList_load_mid rfl 49 (.tmp 44) rfl p (o + k * 14) rfl _ _ hro Try.underlying49 rfl (iAc lLA) ?_) | (refine wpList_store_mid rfl 49 (.tmp 9) (.tmp 45) rfl wo.heap.size 0 LA.toArray rfl rfl hth (iAc2 lLA) (all_oneCell_toArray oLA) ?_; rw [List.toList_toArray, ← hw6.out]) | (refine wpList_load_mid rfl 33 (.tmp 66) rfl wo.heap.size 0 rfl _ _ hrE Try.underlying33 rfl (iEv lLE) ?_))
            refine C6.mono ?_
            rintro z w7 ⟨v7, outs, Mq, Sq, cbq, ccq, Bq, rfl, hbq, hMq, hEq, hoq, fxq, hSq0, hzq, hzq'⟩
            have krq : Kp W w7 := ((kr6.fx S).trans fxq).kp fun q hq h => by have := hS6.out q h; omega
            have hSq : Hid (∀ q, Sq q → base ≤ q ∧ q < w7.heap.size) := hid (fun q hq => by
              rcases hSq0 q hq with h | h
              · have := hS6.out q h; have := fxq.size; omega
              · omega)
            have hO7 := hO6.out.fx fxq (fun q hq => hD.out q hq)
            have hDq : Hid (∀ q, (Value.slice A7 n c7).ownBlock = some q → ¬ Sq q) := hid (fun q hq h => by
              rcases hSq0 q h with h1 | h1
              · exact hD.out q hq h1
              · have := hO6.out.blt q hq; omega)
            obtain ⟨Aq, cq, rfl, -, -⟩ := hEq.own.form
            clear C6 hSq0
            obtain ⟨hN7, hl7, hch7⟩ := hN.out.add x.e
            have hcn := hb6.len
            obtain ⟨cf, hcf⟩ : ∃ cf, cf = (addE (c, H) x.e).1.1 := ⟨_, rfl⟩
            obtain ⟨Hq, hHq⟩ : ∃ Hq, Hq = (addE (c, H) x.e).1.2 := ⟨_, rfl⟩
            rw [← hcf] at hbq hN7 hl7 hch7
            rw [← hHq] at hMq hN7
            rw [← hoq, hcn] at hch7
            generalize (addE (c, H) x.e).2.2 = code at *
            have HCq : Hid (ChainE n c (outs.map (·.e)) cf) := hid hch7
            have hVq : Hid (validC c = true ∧ c.length = n) := hid ⟨hN.out.ok.clk, hcn⟩
            have hOq := hid hO7
            have hNq := hid hN7
            replace hMq := hid hMq
            replace hcf := hid hcf
            replace hHq := hid hHq
            replace hoq := hid hoq
            replace hcn := hid hcn
            replace hl7 := hid hl7
            clear hch7 hN7 hO7 hrE
            obtain ⟨m, hm⟩ : ∃ m, m = outs.length := ⟨_, rfl⟩
            rw [← hm]
            have hCH : Hid (ChainE n c ((outs.drop 0).map (·.e)) cf) := hid (by rw [List.drop_zero]; exact HCq.out)
            have hmb : m ≤ 9223372036854775807 := by have := hEq.own.bound; omega
            replace hm := hid hm
            have hWb : base ≤ (w7).heap.size := by have := hbq.lb; have := hbq.blt; omega
            go_wp2_with fail
            go_loopw [7, 73] (fun v7 vj wi => ∃ (j : Nat) (cj : List Int) (A7 : Option Addr) (c7 : Nat), j ≤ m ∧ vj = .int .i64 (j : Int) ∧ v7 = .slice A7 n c7 ∧ Hid (ChainE n cj ((outs.drop j).map (·.e)) cf) ∧ Hid (validC cj = true ∧ cj.length = n) ∧ Hid (Own encInt 3 1 base wi (.slice A7 n c7) cj) ∧ Hid (∀ q, (Value.slice A7 n c7).ownBlock = some q → ¬ Sq q) ∧ Kp w7 wi) (fun _ vj _ => m - (intOf vj).toNat)
            case atStart => exact ⟨0, _, _, _, Nat.zero_le _, rfl, rfl, hCH, hVq, hOq, hDq, Kp.refl _⟩
            case round =>
              clear hCH hOq hDq HCq hVq
              obtain ⟨j, cj, A8, c8, hj, rfl, rfl, hCH, hV, hO8, hD8, kj⟩ := hrel
              obtain ⟨wi, rfl⟩ : ∃ wi : World, wi = wr := ⟨_, rfl⟩
              have kji := (krq).trans kj
              by_cases hjl : j < m
              · have hjI : (j : Int) < (m : Int) := by omega
                have hjo : j < outs.length := by have := hm.out; omega
                obtain ⟨gq, oq, rfl, hgq, hrw⟩ := Sl.evRange ((hEq.kp kj).own.sl encEs_len) hjo
                obtain ⟨hpo, -⟩ := (hEq.kp kj).pst _ (List.getElem_mem hjo)
                have hch := hCH.out
                rw [List.drop_eq_getElem_cons hjo, List.map_cons] at hch
                obtain ⟨⟨f, hpl, r1, r2⟩, hch2⟩ := hch
                generalize outs[j] = y at *
                obtain ⟨cm2, cm1⟩ := cmp_chain f.past hV.out.1 (hpl.trans hV.out.2.symm) r1
                obtain ⟨kd, hkd⟩ : ∃ kd, kd = (cmpC y.e.past cj).1 := ⟨_, rfl⟩
                rw [← hkd] at cm1
                obtain ⟨Ly, hLy⟩ : ∃ Ly, Ly = encEs y := ⟨_, rfl⟩
                have lLy : Ly.length = 13 := by rw [hLy]; rfl
                have oLy : ∀ u ∈ Ly, u.oneCell' = true := by rw [hLy]; exact encEs_one y
                have hL3 : Ly[3]? = some y.v := by rw [hLy]; rfl
                rw [← hLy] at hrw
                obtain ⟨rr, hrr0⟩ : ∃ rr : Nat, y.e.r = (rr : Int) := ⟨y.e.r.toNat, by have := f.r0; omega⟩
                have hL0 : Ly[0]? = some (.int .i64 (rr : Int)) := by rw [hLy, ← hrr0]; rfl
                have hL1 : Ly[1]? = some (.int .i64 y.e.n) := by rw [hLy]; rfl
                have HNm : Hid (∀ W, Calls Try.prog 29 #[.agg Ly.toArray] W fun x w' => x = .returned (.agg #[.int .i64 y.e.r, .int .i64 y.e.n]) ∧ Kp W w') := hid fun W => by
                  rw [hLy]
                  exact qName_any y.e _ W
                have hrr : Hid (rr < cj.length) := hid (by have := f.r1; have := hV.out.2; omega)
                have hgetr : Hid (cj.getD rr 0 = y.e.n - 1) := hid (by
                  have := ready_at f r1 r2
                  rw [hrr0, Int.toNat_natCast] at this
                  exact this)
                have hset : Hid (cj.set rr (y.e.n - 1 + 1) = setD cj y.e) := hid (by
                  unfold setD
                  rw [hrr0, Int.toNat_natCast, show y.e.n - 1 + 1 = y.e.n by omega])
                have hgetn : Hid ((setD cj y.e)[rr]'(by rw [setD_len]; exact hrr.out) = y.e.n) := hid (by
                  unfold setD
                  simp [hrr0])
                have hnh : Hid (hasC cj (nameE y.e) = false) := hid ((hasC_no hV.out.1 f (hpl.trans hV.out.2.symm)).2 r2)
                have hrn : ¬ (n : Int) ≤ (rr : Int) := by have := hrr.out; have := hV.out.2; omega
                have hrn1 : decide ((n : Int) ≤ (rr : Int)) = false := decide_eq_false hrn
                have hrn2 : decide (n ≤ rr) = false := decide_eq_false (by omega)
                have hrnI : (rr : Int) < (n : Int) := by omega
                have hrn0 : (0 : Int) ≤ (rr : Int) := by omega
                have hnne : (y.e.n != y.e.n) = false := by simp
                replace hLy := hid hLy
                replace hrr0 := hid hrr0
                obtain ⟨hth2, hBy, kx⟩ := ev_box wi Ly lLy
                obtain ⟨w8, hw8⟩ : ∃ w8, w8 = (wi.alloc (.cells #[.int .i64 0, .int .i64 0, .int .i64 0, .slice none 0 0, .int .i64 0, .int .i64 0, .int .i64 0, .int .i64 0, .int .i64 0, .int .i64 0, .int .i64 0, .int .i64 0, .int .i64 0] 33)).setCells wi.heap.size 0 Ly := ⟨_, rfl⟩
                rw [← hw8] at hBy kx
                replace hw8 := hid hw8
                have e3 := hBy.cell (j := 3) hL3
                have hbl8 := hBy.lt (by omega)
                have C8 := cCompare_any y.e.past cj y.v (.slice A8 n c8) w8 ((hpo.kp kx).sl encInt_len) ((hO8.out.kp kx).sl encInt_len)
                rw [← hkd, cm2] at C8
                replace C8 := hid C8
                replace hkd := hid hkd
                clear cm2 r1 r2
                go_wp2_with (first | (refine wpList_load_mid rfl 33 (.tmp 75) rfl gq (oq + j * 13) rfl _ _ hrw Try.underlying33 rfl (iEv lLy) ?_) | (refine wpList_store_mid rfl 33 (.tmp 12) (.tmp 76) rfl wi.heap.size 0 Ly.toArray rfl rfl hth2 (iEv2 lLy) (all_oneCell_toArray oLy) ?_; rw [List.toList_toArray, ← hw8.out]))
                refine C8.out.mono ?_
                rintro z w9 ⟨rfl, k9⟩
                have hBy9 := hBy.kp k9 hbl8
                have hbl9 := hBy9.lt (by omega)
                clear C8 e3 hBy hrw
                rcases cm1 with rfl | rfl
                · go_wp2_with (refine wpl_load_mid_g (by simp [Region.wanted, yielded]) 33 (.tmp 12) rfl wi.heap.size 0 rfl _ _ hBy9.range Try.underlying33 rfl (iEv lLy) ?_)
                  refine (HNm.out _).mono ?_
                  rintro z w10 ⟨rfl, k10⟩
                  have C10 := cHas_any cj y.e.r y.e.n _ w10 ((hO8.out.kp ((kx.trans k9).trans k10)).sl encInt_len)
                  rw [show hasC cj (y.e.r, y.e.n) = false from hnh.out] at C10
                  replace C10 := hid C10
                  go_wp2_with fail
                  refine C10.out.mono ?_
                  rintro z w11 ⟨rfl, k11⟩
                  have kx11 := ((kx.trans k9).trans k10).trans k11
                  have hBy11 := hBy9.kp (k10.trans k11) hbl9
                  have e0 := hBy11.cell (j := 0) hL0
                  have e1 := hBy11.cell (j := 1) hL1
                  have hbl11 := hBy11.lt (by omega)
                  have hOc11 := hO8.out.kp kx11
                  have C11 := hid (cAdvance_any cj rr (y.e.n - 1) _ w11 (hOc11.sl encInt_len) hV.out.1 hrr.out hgetr.out (by have := f.n1; omega))
                  have hz11 := kx11.size
                  clear C10 k10 k11 hBy9
                  go_wp2_with fail
                  refine C11.out.mono ?_
                  rintro z w12 ⟨v12, rfl, own12, k12⟩
                  rw [hset.out] at own12
                  obtain ⟨g12, c12, rfl, -, -, hg1, hg2⟩ := own12.row (by rw [setD_len]; have := hV.out.2; omega)
                  rw [setD_len, hV.out.2] at own12 ⊢
                  have e0 := k12.cellS e0
                  have e1 := k12.cellS e1
                  have hbl12 := Nat.lt_of_lt_of_le hbl11 k12.size
                  have d0 := own12.intCell (k := rr) (by rw [setD_len]; exact hV.out.2.symm) (by rw [setD_len]; exact hrr.out)
                  rw [show (setD cj y.e)[rr]'(by rw [setD_len]; exact hrr.out) = y.e.n from hgetn.out] at d0
                  have kx12 := kx11.trans k12
                  have hO12 := hid (own12.less (base' := base) (by have := hWb; have := kj.size; omega))
                  have hD12 : Hid (∀ q, (Value.slice (some ⟨g12, 0, none⟩) n c12).ownBlock = some q → ¬ Sq q) := hid (fun q hq h => by
                    obtain rfl : g12 = q := by simpa [Value.ownBlock] using hq
                    have := hSq.out _ h
                    have := kj.size
                    omega)
                  clear C11 own12 hOc11 hBy11
                  go_upto_region 25 with (fail)
                  obtain ⟨w13, rfl⟩ : ∃ w13, w13 = w12 := ⟨_, rfl⟩
                  refine G2.wp_region_growT Kp [] 18 134 (G2.pvL [G2.eqv (.int .i64 0), G2.eqv (.bool false), G2.eqv (.bool false), G2.eqv (.pointer (some ⟨wi.heap.size, 0, none⟩)), G2.eqv (.int .i64 (rr : Int)), G2.eqv (.slice (some ⟨g12, 0, none⟩) n c12), G2.eqv (.int .i64 (n : Int)), G2.eqv (.bool false), G2.eqv (.bool false), G2.eqv (.bool false), G2.eqv (.slice (some ⟨g12, 0, none⟩) n c12), G2.eqv (.pointer (some ⟨wi.heap.size, 0, none⟩)), G2.eqv (.int .i64 (rr : Int)), G2.eqv (.pointer (some ⟨g12, rr, none⟩)), G2.eqv (.int .i64 y.e.n), G2.eqv (.pointer (some ⟨wi.heap.size, 1, none⟩)), G2.eqv (.int .i64 y.e.n), G2.eqv (.bool false)]) (by kernel_rfl) (by kernel_rfl) rfl (fun x => Kp.refl x) (fun _ _ _ h k => h.trans k) (Kp.refl _).drew (by intro _ _ _ _ _ h; exact h) (G2.pvL_keep (G2.stabL_cons (G2.stab_eq _) (G2.stabL_cons (G2.stab_eq _) (G2.stabL_cons (G2.stab_eq _) (G2.stabL_cons (G2.stab_eq _) (G2.stabL_cons (G2.stab_eq _) (G2.stabL_cons (G2.stab_eq _) (G2.stabL_cons (G2.stab_eq _) (G2.stabL_cons (G2.stab_eq _) (G2.stabL_cons (G2.stab_eq _) (G2.stabL_cons (G2.stab_eq _) (G2.stabL_cons (G2.stab_eq _) (G2.stabL_cons (G2.stab_eq _) (G2.stabL_cons (G2.stab_eq _) (G2.stabL_cons (G2.stab_eq _) (G2.stabL_cons (G2.stab_eq _) (G2.stabL_cons (G2.stab_eq _) (G2.stabL_cons (G2.stab_eq _) (G2.stabL_cons (G2.stab_eq _) (G2.stabL_nil)))))))))))))))))))) (G2.stepsT_cons 0 ?_ (G2.stepsT_cons 1 ?_ (G2.stepsT_cons 2 ?_ (G2.stepsT_cons 3 ?_ (G2.stepsT_cons 4 ?_ (G2.stepsT_cons 5 ?_ (G2.stepsT_cons 6 ?_ (G2.stepsT_cons 7 ?_ (G2.stepsT_cons 8 ?_ (G2.stepsT_cons 9 ?_ (G2.stepsT_cons 10 ?_ (G2.stepsT_cons 11 ?_ (G2.stepsT_cons 12 ?_ (G2.stepsT_cons 13 ?_ (G2.stepsT_cons 14 ?_ (G2.stepsT_cons 15 ?_ (G2.stepsT_cons 16 ?_ (G2.stepsT_cons 17 ?_ (G2.stepsT_nil _ _ _))))))))))))))))))) ?_ ?_
                  · intro a w' hk hF hD K hK
                    have h6 : a.tmps[6]?.getD undef = .int .i64 0 := hF 6 (by kernel_rfl)
                    clear hF hD
                    go_simp
                    exact hK.out _ _ (Kp.refl _) rfl
                  · intro a w' hk hF hD K hK
                    have h108 : a.tmps[108]?.getD undef = .int .i64 0 := hD 0 (by kernel_rfl)
                    clear hF hD
                    go_simp
                    exact hK.out _ _ (Kp.refl _) rfl
                  · intro a w' hk hF hD K hK
                    have h109 : a.tmps[109]?.getD undef = .bool false := hD 1 (by kernel_rfl)
                    clear hF hD
                    go_simp
                    exact hK.out _ _ (Kp.refl _) rfl
                  · intro a w' hk hF hD K hK
                    have h12 : a.tmps[12]?.getD undef = .pointer (some ⟨wi.heap.size, 0, none⟩) := hF 12 (by kernel_rfl)
                    have h110 : a.tmps[110]?.getD undef = .bool false := hD 2 (by kernel_rfl)
                    have g110 := guard_get h110
                    clear hF hD
                    go_simp
                    exact hK.out _ _ (Kp.refl _) rfl
                  · intro a w' hk hF hD K hK
                    have h111 : a.tmps[111]?.getD undef = .pointer (some ⟨wi.heap.size, 0, none⟩) := hD 3 (by kernel_rfl)
                    have h110 : a.tmps[110]?.getD undef = .bool false := hD 2 (by kernel_rfl)
                    have g110 := guard_get h110
                    clear hF hD
                    have z0 := hk.cellS e0
                    go_simp
                    exact hK.out _ _ (Kp.refl _) rfl
                  · intro a w' hk hF hD K hK
                    have h7 : a.tmps[7]?.getD undef = .slice (some ⟨g12, 0, none⟩) n c12 := hF 7 (by kernel_rfl)
                    have h110 : a.tmps[110]?.getD undef = .bool false := hD 2 (by kernel_rfl)
                    have g110 := guard_get h110
                    clear hF hD
                    go_simp
                    exact hK.out _ _ (Kp.refl _) rfl
                  · intro a w' hk hF hD K hK
                    have h113 : a.tmps[113]?.getD undef = .slice (some ⟨g12, 0, none⟩) n c12 := hD 5 (by kernel_rfl)
                    have h110 : a.tmps[110]?.getD undef = .bool false := hD 2 (by kernel_rfl)
                    have g110 := guard_get h110
                    clear hF hD
                    go_simp
                    exact hK.out _ _ (Kp.refl _) rfl
                  · intro a w' hk hF hD K hK
                    have h112 : a.tmps[112]?.getD undef = .int .i64 (rr : Int) := hD 4 (by kernel_rfl)
                    have h114 : a.tmps[114]?.getD undef = .int .i64 (n : Int) := hD 6 (by kernel_rfl)
                    have h110 : a.tmps[110]?.getD undef = .bool false := hD 2 (by kernel_rfl)
                    have g110 := guard_get h110
                    clear hF hD
                    go_simp
                    exact hK.out _ _ (Kp.refl _) rfl
                  · intro a w' hk hF hD K hK
                    have h110 : a.tmps[110]?.getD undef = .bool false := hD 2 (by kernel_rfl)
                    have h115 : a.tmps[115]?.getD undef = .bool false := hD 7 (by kernel_rfl)
                    clear hF hD
                    go_simp
                    exact hK.out _ _ (Kp.refl _) rfl
                  · intro a w' hk hF hD K hK
                    have h116 : a.tmps[116]?.getD undef = .bool false := hD 8 (by kernel_rfl)
                    clear hF hD
                    go_simp
                    exact hK.out _ _ (Kp.refl _) rfl
                  · intro a w' hk hF hD K hK
                    have h7 : a.tmps[7]?.getD undef = .slice (some ⟨g12, 0, none⟩) n c12 := hF 7 (by kernel_rfl)
                    have h117 : a.tmps[117]?.getD undef = .bool false := hD 9 (by kernel_rfl)
                    have g117 := guard_get h117
                    clear hF hD
                    go_simp
                    exact hK.out _ _ (Kp.refl _) rfl
                  · intro a w' hk hF hD K hK
                    have h12 : a.tmps[12]?.getD undef = .pointer (some ⟨wi.heap.size, 0, none⟩) := hF 12 (by kernel_rfl)
                    have h117 : a.tmps[117]?.getD undef = .bool false := hD 9 (by kernel_rfl)
                    have g117 := guard_get h117
                    clear hF hD
                    go_simp
                    exact hK.out _ _ (Kp.refl _) rfl
                  · intro a w' hk hF hD K hK
                    have h119 : a.tmps[119]?.getD undef = .pointer (some ⟨wi.heap.size, 0, none⟩) := hD 11 (by kernel_rfl)
                    have h117 : a.tmps[117]?.getD undef = .bool false := hD 9 (by kernel_rfl)
                    have g117 := guard_get h117
                    clear hF hD
                    have z0 := hk.cellS e0
                    go_simp
                    exact hK.out _ _ (Kp.refl _) rfl
                  · intro a w' hk hF hD K hK
                    have h118 : a.tmps[118]?.getD undef = .slice (some ⟨g12, 0, none⟩) n c12 := hD 10 (by kernel_rfl)
                    have h120 : a.tmps[120]?.getD undef = .int .i64 (rr : Int) := hD 12 (by kernel_rfl)
                    have h117 : a.tmps[117]?.getD undef = .bool false := hD 9 (by kernel_rfl)
                    have g117 := guard_get h117
                    clear hF hD
                    go_simp
                    exact hK.out _ _ (Kp.refl _) rfl
                  · intro a w' hk hF hD K hK
                    have h121 : a.tmps[121]?.getD undef = .pointer (some ⟨g12, rr, none⟩) := hD 13 (by kernel_rfl)
                    have h117 : a.tmps[117]?.getD undef = .bool false := hD 9 (by kernel_rfl)
                    have g117 := guard_get h117
                    clear hF hD
                    have z0 := hk.cellS d0
                    go_simp
                    exact hK.out _ _ (Kp.refl _) rfl
                  · intro a w' hk hF hD K hK
                    have h12 : a.tmps[12]?.getD undef = .pointer (some ⟨wi.heap.size, 0, none⟩) := hF 12 (by kernel_rfl)
                    have h117 : a.tmps[117]?.getD undef = .bool false := hD 9 (by kernel_rfl)
                    have g117 := guard_get h117
                    clear hF hD
                    go_simp
                    exact hK.out _ _ (Kp.refl _) rfl
                  · intro a w' hk hF hD K hK
                    have h123 : a.tmps[123]?.getD undef = .pointer (some ⟨wi.heap.size, 1, none⟩) := hD 15 (by kernel_rfl)
                    have h117 : a.tmps[117]?.getD undef = .bool false := hD 9 (by kernel_rfl)
                    have g117 := guard_get h117
                    clear hF hD
                    have z0 := hk.cellS e1
                    go_simp
                    exact hK.out _ _ (Kp.refl _) rfl
                  · intro a w' hk hF hD K hK
                    have h122 : a.tmps[122]?.getD undef = .int .i64 y.e.n := hD 14 (by kernel_rfl)
                    have h124 : a.tmps[124]?.getD undef = .int .i64 y.e.n := hD 16 (by kernel_rfl)
                    have h117 : a.tmps[117]?.getD undef = .bool false := hD 9 (by kernel_rfl)
                    have g117 := guard_get h117
                    clear hF hD
                    go_simp
                    exact hK.out _ _ (Kp.refl _) rfl
                  · exact fun i0 hi0 => by simp at hi0
                  intro v w9 k9 hv
                  have v9 : v 9 = .bool false := hv 9 (by omega)
                  have v17 : v 17 = .bool false := hv 17 (by omega)
                  clear hv
                  simp only [G2.growPut, G2.gSlot, List.getElem?_toArray, List.getElem?_cons_zero, List.getElem?_cons_succ, Option.bind_some, List.setIfInBounds_toArray, List.set_cons_zero, List.set_cons_succ, List.drop_succ_cons, List.drop_zero, v9, v17]
                  have kjf := (kj.trans kx12).trans k9
                  have hO13 := hid (hO12.out.kp k9)
                  have hVn : Hid (validC (setD cj y.e) = true ∧ (setD cj y.e).length = n) := hid ⟨set_valid hV.out.1 f, by rw [setD_len]; exact hV.out.2⟩
                  clear e0 e1 d0 hO12 kx12 kx11
                  go_wp2
                  go_roundw
                  case rel => exact ⟨j + 1, _, _, _, by omega, by go_num, rfl, hid hch2, hVn, hO13, hD12, kjf⟩
                  case measure => simp [intOf]; omega
                · go_wp2_with (refine wpl_load_mid_g (by simp [Region.wanted, yielded]) 33 (.tmp 12) rfl wi.heap.size 0 rfl _ _ hBy9.range Try.underlying33 rfl (iEv lLy) ?_)
                  refine (HNm.out _).mono ?_
                  rintro z w10 ⟨rfl, k10⟩
                  have C10 := cHas_any cj y.e.r y.e.n _ w10 ((hO8.out.kp ((kx.trans k9).trans k10)).sl encInt_len)
                  rw [show hasC cj (y.e.r, y.e.n) = false from hnh.out] at C10
                  replace C10 := hid C10
                  go_wp2_with fail
                  refine C10.out.mono ?_
                  rintro z w11 ⟨rfl, k11⟩
                  have kx11 := ((kx.trans k9).trans k10).trans k11
                  have hBy11 := hBy9.kp (k10.trans k11) hbl9
                  have e0 := hBy11.cell (j := 0) hL0
                  have e1 := hBy11.cell (j := 1) hL1
                  have hbl11 := hBy11.lt (by omega)
                  have hOc11 := hO8.out.kp kx11
                  have C11 := hid (cAdvance_any cj rr (y.e.n - 1) _ w11 (hOc11.sl encInt_len) hV.out.1 hrr.out hgetr.out (by have := f.n1; omega))
                  have hz11 := kx11.size
                  clear C10 k10 k11 hBy9
                  go_wp2_with fail
                  refine C11.out.mono ?_
                  rintro z w12 ⟨v12, rfl, own12, k12⟩
                  rw [hset.out] at own12
                  obtain ⟨g12, c12, rfl, -, -, hg1, hg2⟩ := own12.row (by rw [setD_len]; have := hV.out.2; omega)
                  rw [setD_len, hV.out.2] at own12 ⊢
                  have e0 := k12.cellS e0
                  have e1 := k12.cellS e1
                  have hbl12 := Nat.lt_of_lt_of_le hbl11 k12.size
                  have d0 := own12.intCell (k := rr) (by rw [setD_len]; exact hV.out.2.symm) (by rw [setD_len]; exact hrr.out)
                  rw [show (setD cj y.e)[rr]'(by rw [setD_len]; exact hrr.out) = y.e.n from hgetn.out] at d0
                  have kx12 := kx11.trans k12
                  have hO12 := hid (own12.less (base' := base) (by have := hWb; have := kj.size; omega))
                  have hD12 : Hid (∀ q, (Value.slice (some ⟨g12, 0, none⟩) n c12).ownBlock = some q → ¬ Sq q) := hid (fun q hq h => by
                    obtain rfl : g12 = q := by simpa [Value.ownBlock] using hq
                    have := hSq.out _ h
                    have := kj.size
                    omega)
                  clear C11 own12 hOc11 hBy11
                  go_upto_region 25 with (fail)
                  obtain ⟨w13, rfl⟩ : ∃ w13, w13 = w12 := ⟨_, rfl⟩
                  refine G2.wp_region_growT Kp [] 18 134 (G2.pvL [G2.eqv (.int .i64 0), G2.eqv (.bool false), G2.eqv (.bool false), G2.eqv (.pointer (some ⟨wi.heap.size, 0, none⟩)), G2.eqv (.int .i64 (rr : Int)), G2.eqv (.slice (some ⟨g12, 0, none⟩) n c12), G2.eqv (.int .i64 (n : Int)), G2.eqv (.bool false), G2.eqv (.bool false), G2.eqv (.bool false), G2.eqv (.slice (some ⟨g12, 0, none⟩) n c12), G2.eqv (.pointer (some ⟨wi.heap.size, 0, none⟩)), G2.eqv (.int .i64 (rr : Int)), G2.eqv (.pointer (some ⟨g12, rr, none⟩)), G2.eqv (.int .i64 y.e.n), G2.eqv (.pointer (some ⟨wi.heap.size, 1, none⟩)), G2.eqv (.int .i64 y.e.n), G2.eqv (.bool false)]) (by kernel_rfl) (by kernel_rfl) rfl (fun x => Kp.refl x) (fun _ _ _ h k => h.trans k) (Kp.refl _).drew (by intro _ _ _ _ _ h; exact h) (G2.pvL_keep (G2.stabL_cons (G2.stab_eq _) (G2.stabL_cons (G2.stab_eq _) (G2.stabL_cons (G2.stab_eq _) (G2.stabL_cons (G2.stab_eq _) (G2.stabL_cons (G2.stab_eq _) (G2.stabL_cons (G2.stab_eq _) (G2.stabL_cons (G2.stab_eq _) (G2.stabL_cons (G2.stab_eq _) (G2.stabL_cons (G2.stab_eq _) (G2.stabL_cons (G2.stab_eq _) (G2.stabL_cons (G2.stab_eq _) (G2.stabL_cons (G2.stab_eq _) (G2.stabL_cons (G2.stab_eq _) (G2.stabL_cons (G2.stab_eq _) (G2.stabL_cons (G2.stab_eq _) (G2.stabL_cons (G2.stab_eq _) (G2.stabL_cons (G2.stab_eq _) (G2.stabL_cons (G2.stab_eq _) (G2.stabL_nil)))))))))))))))))))) (G2.stepsT_cons 0 ?_ (G2.stepsT_cons 1 ?_ (G2.stepsT_cons 2 ?_ (G2.stepsT_cons 3 ?_ (G2.stepsT_cons 4 ?_ (G2.stepsT_cons 5 ?_ (G2.stepsT_cons 6 ?_ (G2.stepsT_cons 7 ?_ (G2.stepsT_cons 8 ?_ (G2.stepsT_cons 9 ?_ (G2.stepsT_cons 10 ?_ (G2.stepsT_cons 11 ?_ (G2.stepsT_cons 12 ?_ (G2.stepsT_cons 13 ?_ (G2.stepsT_cons 14 ?_ (G2.stepsT_cons 15 ?_ (G2.stepsT_cons 16 ?_ (G2.stepsT_cons 17 ?_ (G2.stepsT_nil _ _ _))))))))))))))))))) ?_ ?_
                  · intro a w' hk hF hD K hK
                    have h6 : a.tmps[6]?.getD undef = .int .i64 0 := hF 6 (by kernel_rfl)
                    clear hF hD
                    go_simp
                    exact hK.out _ _ (Kp.refl _) rfl
                  · intro a w' hk hF hD K hK
                    have h108 : a.tmps[108]?.getD undef = .int .i64 0 := hD 0 (by kernel_rfl)
                    clear hF hD
                    go_simp
                    exact hK.out _ _ (Kp.refl _) rfl
                  · intro a w' hk hF hD K hK
                    have h109 : a.tmps[109]?.getD undef = .bool false := hD 1 (by kernel_rfl)
                    clear hF hD
                    go_simp
                    exact hK.out _ _ (Kp.refl _) rfl
                  · intro a w' hk hF hD K hK
                    have h12 : a.tmps[12]?.getD undef = .pointer (some ⟨wi.heap.size, 0, none⟩) := hF 12 (by kernel_rfl)
                    have h110 : a.tmps[110]?.getD undef = .bool false := hD 2 (by kernel_rfl)
                    have g110 := guard_get h110
                    clear hF hD
                    go_simp
                    exact hK.out _ _ (Kp.refl _) rfl
                  · intro a w' hk hF hD K hK
                    have h111 : a.tmps[111]?.getD undef = .pointer (some ⟨wi.heap.size, 0, none⟩) := hD 3 (by kernel_rfl)
                    have h110 : a.tmps[110]?.getD undef = .bool false := hD 2 (by kernel_rfl)
                    have g110 := guard_get h110
                    clear hF hD
                    have z0 := hk.cellS e0
                    go_simp
                    exact hK.out _ _ (Kp.refl _) rfl
                  · intro a w' hk hF hD K hK
                    have h7 : a.tmps[7]?.getD undef = .slice (some ⟨g12, 0, none⟩) n c12 := hF 7 (by kernel_rfl)
                    have h110 : a.tmps[110]?.getD undef = .bool false := hD 2 (by kernel_rfl)
                    have g110 := guard_get h110
                    clear hF hD
                    go_simp
                    exact hK.out _ _ (Kp.refl _) rfl
                  · intro a w' hk hF hD K hK
                    have h113 : a.tmps[113]?.getD undef = .slice (some ⟨g12, 0, none⟩) n c12 := hD 5 (by kernel_rfl)
                    have h110 : a.tmps[110]?.getD undef = .bool false := hD 2 (by kernel_rfl)
                    have g110 := guard_get h110
                    clear hF hD
                    go_simp
                    exact hK.out _ _ (Kp.refl _) rfl
                  · intro a w' hk hF hD K hK
                    have h112 : a.tmps[112]?.getD undef = .int .i64 (rr : Int) := hD 4 (by kernel_rfl)
                    have h114 : a.tmps[114]?.getD undef = .int .i64 (n : Int) := hD 6 (by kernel_rfl)
                    have h110 : a.tmps[110]?.getD undef = .bool false := hD 2 (by kernel_rfl)
                    have g110 := guard_get h110
                    clear hF hD
                    go_simp
                    exact hK.out _ _ (Kp.refl _) rfl
                  · intro a w' hk hF hD K hK
                    have h110 : a.tmps[110]?.getD undef = .bool false := hD 2 (by kernel_rfl)
                    have h115 : a.tmps[115]?.getD undef = .bool false := hD 7 (by kernel_rfl)
                    clear hF hD
                    go_simp
                    exact hK.out _ _ (Kp.refl _) rfl
                  · intro a w' hk hF hD K hK
                    have h116 : a.tmps[116]?.getD undef = .bool false := hD 8 (by kernel_rfl)
                    clear hF hD
                    go_simp
                    exact hK.out _ _ (Kp.refl _) rfl
                  · intro a w' hk hF hD K hK
                    have h7 : a.tmps[7]?.getD undef = .slice (some ⟨g12, 0, none⟩) n c12 := hF 7 (by kernel_rfl)
                    have h117 : a.tmps[117]?.getD undef = .bool false := hD 9 (by kernel_rfl)
                    have g117 := guard_get h117
                    clear hF hD
                    go_simp
                    exact hK.out _ _ (Kp.refl _) rfl
                  · intro a w' hk hF hD K hK
                    have h12 : a.tmps[12]?.getD undef = .pointer (some ⟨wi.heap.size, 0, none⟩) := hF 12 (by kernel_rfl)
                    have h117 : a.tmps[117]?.getD undef = .bool false := hD 9 (by kernel_rfl)
                    have g117 := guard_get h117
                    clear hF hD
                    go_simp
                    exact hK.out _ _ (Kp.refl _) rfl
                  · intro a w' hk hF hD K hK
                    have h119 : a.tmps[119]?.getD undef = .pointer (some ⟨wi.heap.size, 0, none⟩) := hD 11 (by kernel_rfl)
                    have h117 : a.tmps[117]?.getD undef = .bool false := hD 9 (by kernel_rfl)
                    have g117 := guard_get h117
                    clear hF hD
                    have z0 := hk.cellS e0
                    go_simp
                    exact hK.out _ _ (Kp.refl _) rfl
                  · intro a w' hk hF hD K hK
                    have h118 : a.tmps[118]?.getD undef = .slice (some ⟨g12, 0, none⟩) n c12 := hD 10 (by kernel_rfl)
                    have h120 : a.tmps[120]?.getD undef = .int .i64 (rr : Int) := hD 12 (by kernel_rfl)
                    have h117 : a.tmps[117]?.getD undef = .bool false := hD 9 (by kernel_rfl)
                    have g117 := guard_get h117
                    clear hF hD
                    go_simp
                    exact hK.out _ _ (Kp.refl _) rfl
                  · intro a w' hk hF hD K hK
                    have h121 : a.tmps[121]?.getD undef = .pointer (some ⟨g12, rr, none⟩) := hD 13 (by kernel_rfl)
                    have h117 : a.tmps[117]?.getD undef = .bool false := hD 9 (by kernel_rfl)
                    have g117 := guard_get h117
                    clear hF hD
                    have z0 := hk.cellS d0
                    go_simp
                    exact hK.out _ _ (Kp.refl _) rfl
                  · intro a w' hk hF hD K hK
                    have h12 : a.tmps[12]?.getD undef = .pointer (some ⟨wi.heap.size, 0, none⟩) := hF 12 (by kernel_rfl)
                    have h117 : a.tmps[117]?.getD undef = .bool false := hD 9 (by kernel_rfl)
                    have g117 := guard_get h117
                    clear hF hD
                    go_simp
                    exact hK.out _ _ (Kp.refl _) rfl
                  · intro a w' hk hF hD K hK
                    have h123 : a.tmps[123]?.getD undef = .pointer (some ⟨wi.heap.size, 1, none⟩) := hD 15 (by kernel_rfl)
                    have h117 : a.tmps[117]?.getD undef = .bool false := hD 9 (by kernel_rfl)
                    have g117 := guard_get h117
                    clear hF hD
                    have z0 := hk.cellS e1
                    go_simp
                    exact hK.out _ _ (Kp.refl _) rfl
                  · intro a w' hk hF hD K hK
                    have h122 : a.tmps[122]?.getD undef = .int .i64 y.e.n := hD 14 (by kernel_rfl)
                    have h124 : a.tmps[124]?.getD undef = .int .i64 y.e.n := hD 16 (by kernel_rfl)
                    have h117 : a.tmps[117]?.getD undef = .bool false := hD 9 (by kernel_rfl)
                    have g117 := guard_get h117
                    clear hF hD
                    go_simp
                    exact hK.out _ _ (Kp.refl _) rfl
                  · exact fun i0 hi0 => by simp at hi0
                  intro v w9 k9 hv
                  have v9 : v 9 = .bool false := hv 9 (by omega)
                  have v17 : v 17 = .bool false := hv 17 (by omega)
                  clear hv
                  simp only [G2.growPut, G2.gSlot, List.getElem?_toArray, List.getElem?_cons_zero, List.getElem?_cons_succ, Option.bind_some, List.setIfInBounds_toArray, List.set_cons_zero, List.set_cons_succ, List.drop_succ_cons, List.drop_zero, v9, v17]
                  have kjf := (kj.trans kx12).trans k9
                  have hO13 := hid (hO12.out.kp k9)
                  have hVn : Hid (validC (setD cj y.e) = true ∧ (setD cj y.e).length = n) := hid ⟨set_valid hV.out.1 f, by rw [setD_len]; exact hV.out.2⟩
                  clear e0 e1 d0 hO12 kx12 kx11
                  go_wp2
                  go_roundw
                  case rel => exact ⟨j + 1, _, _, _, by omega, by go_num, rfl, hid hch2, hVn, hO13, hD12, kjf⟩
                  case measure => simp [intOf]; omega
              · have hjI : ¬ (j : Int) < (m : Int) := by omega
                obtain rfl : j = m := by omega
                have hcf : cj = cf := by
                  have := hCH.out
                  rw [List.drop_of_length_le (by rw [hm.out]; exact Nat.le_refl _)] at this
                  exact this
                have hbj := hbq.kp kj
                have C12 := hid (bClock_any hbj (by omega))
                have kjf := (krq).trans kj
                go_wp2_with fail
                refine C12.out.mono ?_
                rintro z w9 ⟨v9, rfl, own9, k9⟩
                have C13 := EqualI_any v9 _ cf cj w9 (own9.sl encInt_len) ((hO8.out.kp k9).sl encInt_len)
                rw [show decide (cf = cj) = true by rw [hcf]; simp] at C13
                replace C13 := hid C13
                clear C12 own9
                go_wp2_with fail
                refine C13.out.mono ?_
                rintro z w10 ⟨rfl, k10⟩
                have kf := (kj.trans k9).trans k10
                have hbf := hbq.kp kf
                have hOf := hid (hO8.out.kp (k9.trans k10))
                have hSf := hid (fun q (hq : Sq q) => show base ≤ q ∧ q < w10.heap.size by have := hSq.out q hq; have := kf.size; omega)
                rw [← hcf] at hbf
                have hNf : Hid (BfN cj Hq) := by rw [hcf]; exact hNq
                have kfin := (krq).trans kf
                replace hcf := hid hcf
                clear C13 kf hbq hO8
                go_wp2
                go_roundw
                case rel => exact ⟨k + 1, Sq, cbq, ccq, Mq, cj, Hq, A8, c8, by omega, by go_num, rfl, hbf, hMq, hNf, hSf, hOf, hD8, kfin⟩
                case measure => simp [intOf]; omega
        · have hltI : ¬ (k : Int) < (l.length : Int) := by omega
          go_wp2
          go_ret
          exact ⟨rfl, kr⟩
end Go.Proofs.Ytcddllaljgfjbaa
