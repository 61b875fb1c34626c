
/-
Messages that arrive share no memory with what was sent, nor with each other: the walk.
-/
import Derived.Test.YtmokpnkpfodppaaNE
import Derived.Test.YtmokpnkpfodppaaReliableWalk
import Derived.Deep.Cut
namespace Go.Proofs.Ytmokpnkpfodppaa
set_option linter.unusedSimpArgs false
set_option linter.unusedVariables false
open Go.RowKit

set_option maxHeartbeats 1000000 in
theorem CloneInt_any (v : Value) (l : List Int) (w : World) (hS : Ints w v l) (hl : l.length ≤ 1000000000) :
    Calls Try.prog 15 #[v] w fun e w' => ∃ v', e = .returned v' ∧ Own encInt 3 1 w.heap.size w' v' l ∧ Kp w w' := by
  obtain ⟨A, c, rfl, hc, hm⟩ := hS.form
  rcases A with _ | A
  · have hl0 : l = [] := by
      cases l with
      | nil => rfl
      | cons x l =>
        obtain ⟨_, _, _, hA, _⟩ := hS.at_ (k := 0) (by simp)
        cases hA
    subst hl0
    rw [List.length_nil]
    have hnil := fun (W : World) => Lib.run_eql_slice_nil (P := Try.prog) W 24 3 none 0 c 0 0 Try.underlying24
    go_enter Try.func15, Try.ntmps15
    go_wp2
    go_ret
    exact ⟨_, rfl, Own.nil _ _ _ _ _, Kp.refl _⟩
  · have hnil := fun (W : World) => Lib.run_eql_slice_nil (P := Try.prog) W 24 3 (some A) l.length c 0 0 Try.underlying24
    go_enter Try.func15, Try.ntmps15
    go_wp2_with (at_builtin; refine wpl_append_flat rfl (.tmp 5) (.tmp 6) rfl stInt encInt_len encInt_one rfl (Own.lit (base := w.heap.size) encInt w #[] [] (Nat.le_refl _) (by simp) rfl rfl) rfl (hS.keep (pl_stable _) ((Kp.refl w).alloc _)) (by simp; omega) (by simp; omega) (by simp) ?_; intro v' w' hown hgrow hat hnil')
    go_ret
    exact ⟨_, rfl, by simpa using hown, ((Kp.refl w).alloc _).grown hgrow (fun k hk => by cases hk; exact Nat.le_refl _)⟩
theorem MessageV.cells3 {w : World} {val : Value} {m : Message} (h : MessageV w val m) : ∃ (cs : List Value) (v3 : Value), val = .agg cs.toArray ∧ cs.length = 18 ∧ (∀ u ∈ cs, u.oneCell' = true) ∧ cs[1]? = some (.int .i64 m.sender) ∧ cs[2]? = some (.int .i64 m.to) ∧ cs[3]? = some v3 ∧ Ints w v3 m.clock ∧
    ∀ w' v', Kp w w' → Ints w' v' m.clock → MessageV w' (.agg (cs.set 3 v').toArray) m := by
  obtain ⟨v3, v4, v5, v6, v7, rfl, p3, p4, p5, p6, p7⟩ := h
  obtain ⟨cs', e, h1, h2⟩ := message_cells w _ m ⟨v3, v4, v5, v6, v7, rfl, p3, p4, p5, p6, p7⟩
  injection e with e
  have e' := congrArg Array.toList e
  simp only at e'
  subst e'
  refine ⟨_, v3, rfl, h1, h2, rfl, rfl, rfl, p3, fun w' v' k hi => ?_⟩
  obtain ⟨q3, q4, q5, q6, q7, e2, -, r4, r5, r6, r7⟩ := MessageV.kp (⟨v3, v4, v5, v6, v7, rfl, p3, p4, p5, p6, p7⟩ : MessageV w _ m) k
  simp only [Value.agg.injEq, Array.mk.injEq, List.cons.injEq, and_true, true_and] at e2
  obtain ⟨rfl, rfl, rfl, rfl, rfl⟩ := e2
  exact ⟨v', v4, v5, v6, v7, rfl, hi, r4, r5, r6, r7⟩
theorem clock_mem {m : Message} {n : Int} (h : n ∈ m.clock) : n ∈ numMessage m := by
  have h2 : n ∈ numIs m.clock := by simp [numIs, numL, numI, h]
  simp only [numMessage, List.mem_append]
  simp [h2]
theorem flat_numI : ∀ l : List Int, (l.flatMap numI).length = l.length
  | [] => rfl
  | n :: l => by rw [List.flatMap_cons, List.length_append, flat_numI l]; simp [numI]; omega
theorem clock_len (m : Message) : m.clock.length ≤ (numMessage m).length := by
  have h := flat_numI m.clock
  simp only [numMessage, numIs, numL, List.length_append, List.length_cons]
  omega
theorem rdMsg_clock {w : World} {cs : List Value} {x : Message} (h : rdMsg w cs x) (hn : 0 < x.clock.length) : ∃ q o c, cs[3]? = some (.slice (some ⟨q, o, none⟩) x.clock.length c) ∧ q < w.heap.size ∧ w.cell? ⟨q, o, none⟩ = some (.int .i64 x.clock[0]) := by
  obtain ⟨v3, v4, v5, v6, v7, e, hi, -⟩ := h
  injection e with e
  have e3 := congrArg (fun a : Array Value => a[3]?) e
  have e4 : cs[3]? = some v3 := by simpa using e3
  obtain ⟨A, c, rfl, hc, hm⟩ := hi.form
  obtain ⟨q, o, rfl, hq, h1⟩ := hi.ints hn
  exact ⟨q, o, c, e4, hq, by simpa using h1⟩
theorem Kg.range {w w' : World} {g b o : Nat} {cs : List Value} (k : Kg w w' g) (h : w.rangeAt b o cs) (hn : b ≠ g) : w'.rangeAt b o cs := fun j v hj => k.cellS (h j v hj) hn
set_option maxRecDepth 100000 in
set_option maxHeartbeats 8000000 in
theorem fresh_walk (val : Value) (m : Message) (ag : Bool) (w : World) (hv : MessageV w val m) (hlen : (numMessage m).length ≤ 1000000000) : Calls Try.prog 4 #[val, .bool ag] w fun e w' => e = .returned (.bool true) ∧ Kp w w' := by
  obtain ⟨cs, v3, rfl, hcs, h1c, hc1, hc2, hc3, hi3, hset⟩ := hv.cells3
  obtain ⟨A3, c3, rfl, hcc3, hm3⟩ := hi3.form
  have k0 := (Kp.refl w).alloc (.cells cs.toArray 34)
  have B0 : Bx (w.alloc (.cells cs.toArray 34)) w.heap.size cs := by simpa using Bx.new w cs.toArray 34
  have hb0 := alloc_lt w (.cells cs.toArray 34)
  have hi : (Try.prog.info? 34).map (·.size) = some cs.length := by rw [hcs]; kernel_rfl
  have HV := hid hv
  have HCS := hid hcs
  have H1C := hid h1c
  have HC1 := hid hc1
  have HC2 := hid hc2
  have HC3 := hid hc3
  have HI3 := hid hi3
  have HSET := hid hset
  clear hv hcs h1c hc1 hc2 hc3 hi3 hset
  go_enter Try.func4, Try.ntmps4
  go_upto_region 1 with (fail)
  generalize w.alloc (.cells cs.toArray 34) = w0 at *
  generalize hbb : w.heap.size = b at *
  have hbw := hid hbb
  clear hbb
  go_wp2_with fail
  refine (awake50_any _).mono ?_
  rintro e w1 ⟨rfl, k1⟩
  have B1 := B0.keep (k1.block hb0)
  have K1 := k0.trans k1
  have hb1 := Nat.lt_of_lt_of_le hb0 k1.size
  clear B0 k0 k1 hb0
  go_wp2_with (refine wpList_load_mid rfl 34 (.tmp 2) rfl b 0 rfl cs _ B1.range Try.underlying34 rfl hi ?_)
  refine (nMessage_any _ m _ (HV.out.kp K1) hlen).mono ?_
  rintro e w2 ⟨v2, rfl, own2, k2⟩
  obtain ⟨A2, c2, rfl, hcc2, hmm2⟩ := own2.form
  have B2 := B1.keep (k2.block hb1)
  have K2 := K1.trans k2
  have hb2 := Nat.lt_of_lt_of_le hb1 k2.size
  clear B1 K1 k2 hb1 own2
  have d1 := B2.cell HC1.out
  have d2 := B2.cell HC2.out
  have d3 := B2.cell HC3.out
  by_cases h100 : 100 < (numMessage m).length
  · have e1 : decide (100 < ((numMessage m).length : Int)) = true := decide_eq_true (by omega)
    go_wp2
    go_ret
    exact ⟨rfl, K2⟩
  · have e1 : decide (100 < ((numMessage m).length : Int)) = false := decide_eq_false (by omega)
    by_cases hz : m.clock.length = 0
    · have e2 : ((m.clock.length : Int) == 0) = true := by rw [hz]; rfl
      have e3 : (m.clock.length == 0) = true := by rw [hz]; rfl
      replace hz := hid hz
      go_wp2
      go_ret
      exact ⟨rfl, K2⟩
    · have e2 : ((m.clock.length : Int) == 0) = false := beq_false_of_ne (by omega)
      have e3 : (m.clock.length == 0) = false := beq_false_of_ne hz
      by_cases hs : m.sender = 0
      · have e4 : (m.sender != 0) = false := by rw [hs]; rfl
        by_cases ht : m.to = 1
        · have e5 : (m.to != 1) = false := by rw [ht]; rfl
          have HS := hid hs
          have HT := hid ht
          clear hs ht
          have hS := litFates w2 47 freshF #[.bool false, .int .i64 1, .int .i64 1] rfl (by decide) 1 rfl
          have kA := (Kp.refl w2).alloc (.cells #[.bool false, .int .i64 1, .int .i64 1] 47)
          go_wp2_with fail
          refine (nNew_any 2 _ freshF _ hS (by decide)).mono ?_
          rintro e w3 ⟨hres, k3⟩
          rcases hres with ⟨hbad, -⟩ | ⟨-, nb, mb, vf, rfl, N3⟩
          · rw [fresh_new] at hbad
            cases hbad
          have hlo : w.heap.size ≤ (w2.alloc (.cells #[.bool false, .int .i64 1, .int .i64 1] 47)).heap.size := (K2.trans kA).size
          generalize w2.alloc (.cells #[.bool false, .int .i64 1, .int .i64 1] 47) = wA at *
          have kA3 := kA.trans k3
          have K3 := K2.trans kA3
          have B3 := B2.keep (kA3.block hb2)
          have hb3 := Nat.lt_of_lt_of_le hb2 kA3.size
          clear B2 K2 kA k3 kA3 hb2 hS d1 d2 d3
          obtain ⟨hth, X4, kb, hlb⟩ := msg_box w3 cs HCS.out
          have N4 := N3.kp kb
          have B4 := B3.keep (kb.block hb3)
          have K4 := K3.trans kb
          have hb4 := Nat.lt_of_lt_of_le hb3 kb.size
          have hnb := N3.lt
          have hmlt := N3.mlt
          have hvf := hid N3.ownb
          have hb7 := hid (Nat.le_refl w3.heap.size)
          have hK3s := hid K3.size
          have hbb3 := hid hb3
          go_upto_region 9 with (first | (refine wpList_load_mid rfl 34 (.tmp 2) rfl b 0 rfl cs _ B3.range Try.underlying34 rfl hi ?_) | (refine wpList_store_mid rfl 34 (.tmp 7) (.tmp 44) rfl w3.heap.size 0 cs.toArray rfl rfl hth hi (all_oneCell_toArray H1C.out) ?_; generalize (w3.alloc (.cells #[.int .i64 0, .int .i64 0, .int .i64 0, .slice none 0 0, .slice none 0 0, .slice none 0 0, .int .i64 0, .int .i64 0, .int .i64 0, .int .i64 0, .int .i64 0, .slice none 0 0, .int .i64 0, .int .i64 0, .int .i64 0, .int .i64 0, .bool false, .slice none 0 0] 34)).setCells w3.heap.size 0 cs = w4 at *))
          clear hth N3 B3 K3 kb hb3
          generalize hbb : w3.heap.size = b7 at *
          clear hbb
          have d3 := B4.cell HC3.out
          go_wp2_with fail
          refine (CloneInt_any _ m.clock _ (HI3.out.keep (pl_stable _) K4) (by have := clock_len m; omega)).mono ?_
          rintro e w5 ⟨vcl, rfl, ownC, k5⟩
          obtain ⟨gc, cc, hvc, hcl1, hcl2, hgc1, hgc2⟩ := ownC.row (by omega)
          subst hvc
          have N5 := N4.kp k5
          have B5 := B4.keep (k5.block hb4)
          have X5 := X4.keep (k5.block hlb)
          have K5 := K4.trans k5
          have hb5 := Nat.lt_of_lt_of_le hb4 k5.size
          have hlb5 := Nat.lt_of_lt_of_le hlb k5.size
          have h318 : 3 < cs.length := by rw [HCS.out]; omega
          have x3 := X5.cell HC3.out
          have f3 := X5.free h318
          have kg6 := (Kg.refl w5 b7).set (p := ⟨b7, 3, none⟩) (.inl rfl) (.slice (some ⟨gc, 0, none⟩) m.clock.length cc)
          have X6 := X5.set h318 (.slice (some ⟨gc, 0, none⟩) m.clock.length cc)
          have hz4 := hid k5.size
          have N6 := N5.fr (kg6.fr (S := (· = b7)) rfl) (by omega) (by omega) (fun q hq h => by have := (hvf.out q hq).1; omega) (fun q hq => by cases hq)
          have B6 := B5.kg kg6 hb5 (by have := hbb3.out; omega)
          have ownC6 := ownC.kg kg6 hlb
          have K6 := Kg.to_kp K5 kg6 hK3s.out
          have hb6 := Nat.lt_of_lt_of_le hb5 kg6.size
          have hlb6 := Nat.lt_of_lt_of_le hlb5 kg6.size
          have hgc6 := Nat.lt_of_lt_of_le hgc2 kg6.size
          clear N4 B4 X4 K4 hb4 d3 k5 ownC
          go_upto_region 10 with (fail)
          generalize w5.setCell ⟨b7, 3, none⟩ (.slice (some ⟨gc, 0, none⟩) m.clock.length cc) = w6 at *
          clear N5 B5 X5 K5 hb5 hlb5 x3 f3 kg6 hgc2
          generalize hcs' : cs.set 3 (.slice (some ⟨gc, 0, none⟩) m.clock.length cc) = cs' at *
          have hc3' : Hid (cs'[3]? = some (.slice (some ⟨gc, 0, none⟩) m.clock.length cc)) := hid (by rw [← hcs']; simp [h318])
          have hi' : (Try.prog.info? 34).map (·.size) = some cs'.length := by rw [← hcs', List.length_set]; exact hi
          have V6 : MessageV w6 (.agg cs'.toArray) m := by rw [← hcs']; exact HSET.out w6 _ K6 (ownC6.sl encInt_len)
          clear hcs'
          go_wp2_with (refine wpList_load_mid rfl 34 (.tmp 7) rfl b7 0 rfl cs' _ X6.range Try.underlying34 rfl hi' ?_)
          refine (nSend_any _ nb mb vf _ _ freshN m 0 w6 N6 (fresh_few m).1 V6 (by unfold Room; simp; omega)).mono ?_
          rintro e w7 ⟨rfl, sv7, N7, fr7, hsv7⟩
          have K7 := fr7.to_kp K6 fun i hi => Nat.le_trans hlo (N6.qb_ge i hi)
          by_cases he : (encE (numMessage m)).2 = 0
          · rw [fresh_send HS.out HT.out he] at N7
            rw [fresh_send HS.out HT.out he]
            dsimp only at N7 ⊢
            have HE := hid he
            have hnQ : ∀ i, b7 ≤ i → i < w6.heap.size → ¬ Qb nb (.slice none 0 0) i := fun i hi _ hq => by
              rcases hq with h | h
              · omega
              · cases h
            have X7 := X6.keep (fr7.block b7 hlb6 (hnQ b7 (Nat.le_refl _) hlb6))
            have B7 := B6.keep (fr7.block b hb6 (fun hq => by
              rcases hq with h | h
              · have := hbw.out
                have := hlo
                have := N6.mlo
                omega
              · cases h))
            have ownC7 := ownC6.owS w7 fr7.size fun i hi hlt => fr7.block i hlt (hnQ i (by have := ownC6.ge i hi; omega) hlt)
            have hx0 : OkI m.clock[0] := (encE_zero (l := numMessage m) (bs := (encE (numMessage m)).1) (by rw [← he])).2.1 _ (clock_mem (List.getElem_mem (by omega)))
            have g0 := ownC7.intCell rfl (k := 0) (by omega)
            have gf := ownC7.frozen rfl 0
            have hgb : b7 < gc := by omega
            have x3 := X7.cell hc3'.out
            generalize m.clock[0]'(by omega) = x0 at *
            have hx1 : -4611686018427387904 ≤ x0 := hx0.1
            have hx2 : x0 ≤ 4611686018427387903 := hx0.2
            have hb7' := Nat.lt_of_lt_of_le hb6 fr7.size
            have hgc7 := Nat.lt_of_lt_of_le hgc6 fr7.size
            have hlp : 0 < m.clock.length := by omega
            have kg8 := (Kg.refl w7 gc).set (p := ⟨gc, 0, none⟩) (.inl rfl) (.int .i64 (x0 + 1))
            have N8 := N7.fr (kg8.fr (S := (· = gc)) rfl) (by omega) (by omega) (fun q hq h => by have := (hvf.out q hq).1; omega) (fun q hq h => by
              rcases hsv7 q hq with h2 | h2
              · cases h2
              · omega)
            have B8 := B7.kg kg8 hb7' (by have := hbb3.out; omega)
            have K8 := Kg.to_kp K7 kg8 (by have := hK3s.out; omega)
            have hb8 := Nat.lt_of_lt_of_le hb7' kg8.size
            clear N6 B6 X6 K6 hb6 hlb6 ownC6 V6 fr7
            have HX1 := hid (encE_zero (l := numMessage m) (bs := (encE (numMessage m)).1) (by rw [← HE.out])).2.1
            go_upto_region 14 with (fail)
            generalize w7.setCell ⟨gc, 0, none⟩ (.int .i64 (x0 + 1)) = w8 at *
            have hb8s := hid K8.size
            have hbl8 : b < w8.heap.size := hb8
            have hnQ8 : ∀ i, i < gc → i ≠ nb → ¬ Qb nb sv7 i := fun i hi hn hq => by
              rcases hq with h | h
              · exact hn h
              · rcases hsv7 i h with h2 | h2
                · cases h2
                · omega
            clear N7 B7 K7 hb7' hgc7 g0 gf x3 kg8 X7 hnQ
            clear ownC7
            go_wp2_with fail
            refine (nDeliverO_any _ nb mb vf _ (fresh1 m) 1 w8 N8 (fresh_few m).2).mono ?_
            rintro e wD ⟨vl, rfl, sv9, top, css, N9, fr9, hq9, own9, em9⟩
            rw [fresh_del HS.out HT.out HE.out] at em9
            rw [fresh_del HS.out HT.out HE.out]
            dsimp only at em9 ⊢
            have B9 := B8.keep (fr9.block b hbl8 (hnQ8 b (by have := hbb3.out; omega) (by have := hbw.out; have := N8.mlo; omega)))
            have K9 := fr9.to_kp K8 fun i hi => Nat.le_trans hlo (N8.qb_ge i hi)
            have hb9 := Nat.lt_of_lt_of_le hbl8 fr9.size
            have hl2 : css.length = 2 := em9.1
            obtain ⟨gl, cl, hvl, hgl1, hgl2, hgl3, hgl4⟩ := own9.row (by omega)
            subst hvl
            obtain ⟨-, -, htop, bs, ts, hdis, hel⟩ := em9
            obtain ⟨p1, p2, p3, p4⟩ := hel 0 (by omega) (by simp)
            obtain ⟨q1, q2, q3, q4⟩ := hel 1 (by omega) (by simp)
            have hd01 := hdis 0 1 (by omega) (by omega)
            have p3' := p3 gl rfl
            have q3' := q3 gl rfl
            have r0 : wD.rangeAt gl 0 (css[0]'(by omega)).val := fun j v hj => by
              have := own9.cellAt encC_len rfl (k := 0) (j := j) (by omega) (by have := (List.getElem?_eq_some_iff.1 hj).1; rw [(css[0]'(by omega)).property.1] at this; exact this)
              rw [Nat.zero_mul] at this
              exact this.trans hj
            have r1 : wD.rangeAt gl 18 (css[1]'(by omega)).val := fun j v hj => by
              have := own9.cellAt encC_len rfl (k := 1) (j := j) (by omega) (by have := (List.getElem?_eq_some_iff.1 hj).1; rw [(css[1]'(by omega)).property.1] at this; exact this)
              rw [Nat.one_mul] at this
              exact this.trans hj
            have V0 : MessageVO wD (.agg (css[0]'(by omega)).val.toArray) m := p4.here
            clear hel hdis p3 q3 own9 fr9 N8 B8 K8 hq9 hsv7 hnQ8
            generalize css[0]'(by omega) = E0 at *
            generalize css[1]'(by omega) = E1 at *
            rw [hl2] at hgl1
            rw [hl2]
            have hiE0 : (Try.prog.info? 34).map (·.size) = some E0.val.length := by rw [E0.property.1]; kernel_rfl
            have hiE1 : (Try.prog.info? 34).map (·.size) = some E1.val.length := by rw [E1.property.1]; kernel_rfl
            clear hl2
            go_upto_region 15 with (fail)
            refine G2.wp_region_growG Kp [] 14 109 (G2.pvL [G2.eqv (.int .i64 0), G2.eqv (.bool false), G2.eqv (.bool false), G2.eqv (.slice (some ⟨gl, 0, none⟩) 2 cl), G2.eqv (.int .i64 2), G2.eqv (.bool false), G2.eqv (.bool false), G2.eqv (.bool false), G2.eqv (.slice (some ⟨gl, 0, none⟩) 2 cl), G2.eqv (.pointer (some ⟨gl, 0, none⟩)), G2.eqv (.agg E0.val.toArray), G2.eqv (.agg cs.toArray), G2.eqv (.bool true), G2.eqv (.bool false)]) (by kernel_rfl) (by kernel_rfl) rfl (fun x => Kp.refl x) (fun _ _ _ h k => h.trans k) (Kp.refl _).drew (fun _ _ _ _ _ h => h) (G2.pvL_keep (G2.stabL_cons (G2.stab_eq _) (G2.stabL_cons (G2.stab_eq _) (G2.stabL_cons (G2.stab_eq _) (G2.stabL_cons (G2.stab_eq _) (G2.stabL_cons (G2.stab_eq _) (G2.stabL_cons (G2.stab_eq _) (G2.stabL_cons (G2.stab_eq _) (G2.stabL_cons (G2.stab_eq _) (G2.stabL_cons (G2.stab_eq _) (G2.stabL_cons (G2.stab_eq _) (G2.stabL_cons (G2.stab_eq _) (G2.stabL_cons (G2.stab_eq _) (G2.stabL_cons (G2.stab_eq _) (G2.stabL_cons (G2.stab_eq _) (G2.stabL_nil)))))))))))))))) ?_ ?_ ?_
            · intro i0 hi0
              have hi' : i0 = 0 ∨ i0 = 1 ∨ i0 = 2 ∨ i0 = 3 ∨ i0 = 4 ∨ i0 = 5 ∨ i0 = 6 ∨ i0 = 7 ∨ i0 = 8 ∨ i0 = 9 ∨ i0 = 10 ∨ i0 = 11 ∨ i0 = 12 ∨ i0 = 13 := by omega
              rcases hi' with rfl | rfl | rfl | rfl | rfl | rfl | rfl | rfl | rfl | rfl | rfl | rfl | rfl | rfl
              · intro a w' hk hF hD K hK
                simp only [List.getElem?_toArray, List.getElem?_cons_zero, List.getElem?_cons_succ, Option.map_some, Option.getD_some]
                have h6 : a.tmps[6]?.getD undef = .int .i64 0 := hF 6 (by kernel_rfl)
                clear hF hD
                go_simp
                exact hK.out _ _ (Kp.refl _) rfl
              · intro a w' hk hF hD K hK
                simp only [List.getElem?_toArray, List.getElem?_cons_zero, List.getElem?_cons_succ, Option.map_some, Option.getD_some]
                have h72 : a.tmps[72]?.getD undef = .int .i64 0 := hD 0 (by kernel_rfl)
                clear hF hD
                go_simp
                exact hK.out _ _ (Kp.refl _) rfl
              · intro a w' hk hF hD K hK
                simp only [List.getElem?_toArray, List.getElem?_cons_zero, List.getElem?_cons_succ, Option.map_some, Option.getD_some]
                have h73 : a.tmps[73]?.getD undef = .bool false := hD 1 (by kernel_rfl)
                clear hF hD
                go_simp
                exact hK.out _ _ (Kp.refl _) rfl
              · intro a w' hk hF hD K hK
                simp only [List.getElem?_toArray, List.getElem?_cons_zero, List.getElem?_cons_succ, Option.map_some, Option.getD_some]
                have h9 : a.tmps[9]?.getD undef = .slice (some ⟨gl, 0, none⟩) 2 cl := hF 9 (by kernel_rfl)
                have h74 : a.tmps[74]?.getD undef = .bool false := hD 2 (by kernel_rfl)
                have g74 := guard_get h74
                clear hF hD
                go_simp
                exact hK.out _ _ (Kp.refl _) rfl
              · intro a w' hk hF hD K hK
                simp only [List.getElem?_toArray, List.getElem?_cons_zero, List.getElem?_cons_succ, Option.map_some, Option.getD_some]
                have h75 : a.tmps[75]?.getD undef = .slice (some ⟨gl, 0, none⟩) 2 cl := hD 3 (by kernel_rfl)
                have h74 : a.tmps[74]?.getD undef = .bool false := hD 2 (by kernel_rfl)
                have g74 := guard_get h74
                clear hF hD
                go_simp
                exact hK.out _ _ (Kp.refl _) rfl
              · intro a w' hk hF hD K hK
                simp only [List.getElem?_toArray, List.getElem?_cons_zero, List.getElem?_cons_succ, Option.map_some, Option.getD_some]
                have h76 : a.tmps[76]?.getD undef = .int .i64 2 := hD 4 (by kernel_rfl)
                have h74 : a.tmps[74]?.getD undef = .bool false := hD 2 (by kernel_rfl)
                have g74 := guard_get h74
                clear hF hD
                go_simp
                exact hK.out _ _ (Kp.refl _) rfl
              · intro a w' hk hF hD K hK
                simp only [List.getElem?_toArray, List.getElem?_cons_zero, List.getElem?_cons_succ, Option.map_some, Option.getD_some]
                have h74 : a.tmps[74]?.getD undef = .bool false := hD 2 (by kernel_rfl)
                have h77 : a.tmps[77]?.getD undef = .bool false := hD 5 (by kernel_rfl)
                clear hF hD
                go_simp
                exact hK.out _ _ (Kp.refl _) rfl
              · intro a w' hk hF hD K hK
                simp only [List.getElem?_toArray, List.getElem?_cons_zero, List.getElem?_cons_succ, Option.map_some, Option.getD_some]
                have h78 : a.tmps[78]?.getD undef = .bool false := hD 6 (by kernel_rfl)
                clear hF hD
                go_simp
                exact hK.out _ _ (Kp.refl _) rfl
              · intro a w' hk hF hD K hK
                simp only [List.getElem?_toArray, List.getElem?_cons_zero, List.getElem?_cons_succ, Option.map_some, Option.getD_some]
                have h9 : a.tmps[9]?.getD undef = .slice (some ⟨gl, 0, none⟩) 2 cl := hF 9 (by kernel_rfl)
                have h79 : a.tmps[79]?.getD undef = .bool false := hD 7 (by kernel_rfl)
                have g79 := guard_get h79
                clear hF hD
                go_simp
                exact hK.out _ _ (Kp.refl _) rfl
              · intro a w' hk hF hD K hK
                simp only [List.getElem?_toArray, List.getElem?_cons_zero, List.getElem?_cons_succ, Option.map_some, Option.getD_some]
                have h80 : a.tmps[80]?.getD undef = .slice (some ⟨gl, 0, none⟩) 2 cl := hD 8 (by kernel_rfl)
                have h79 : a.tmps[79]?.getD undef = .bool false := hD 7 (by kernel_rfl)
                have g79 := guard_get h79
                clear hF hD
                go_simp
                exact hK.out _ _ (Kp.refl _) rfl
              · intro a w' hk hF hD K hK
                simp only [List.getElem?_toArray, List.getElem?_cons_zero, List.getElem?_cons_succ, Option.map_some, Option.getD_some]
                have h81 : a.tmps[81]?.getD undef = .pointer (some ⟨gl, 0, none⟩) := hD 9 (by kernel_rfl)
                have h79 : a.tmps[79]?.getD undef = .bool false := hD 7 (by kernel_rfl)
                have g79 := guard_get h79
                clear hF hD
                rw [if_pos (by simp [Region.wanted, yielded, g79])]
                refine wp_load_mid 34 (.tmp 81) rfl gl 0 (by simpa [Act.eval] using h81) E0.val _ (hk.range r0) Try.underlying34 rfl hiE0 ?_
                exact hK.out _ _ (Kp.refl _) rfl
              · intro a w' hk hF hD K hK
                simp only [List.getElem?_toArray, List.getElem?_cons_zero, List.getElem?_cons_succ, Option.map_some, Option.getD_some]
                have h2 : a.tmps[2]?.getD undef = .pointer (some ⟨b, 0, none⟩) := hF 2 (by kernel_rfl)
                have h79 : a.tmps[79]?.getD undef = .bool false := hD 7 (by kernel_rfl)
                have g79 := guard_get h79
                clear hF hD
                rw [if_pos (by simp [Region.wanted, yielded, g79])]
                refine wp_load_mid 34 (.tmp 2) rfl b 0 (by simpa [Act.eval] using h2) cs _ (hk.range B9.range) Try.underlying34 rfl hi ?_
                exact hK.out _ _ (Kp.refl _) rfl
              · intro a w' hk hF hD K hK
                simp only [List.getElem?_toArray, List.getElem?_cons_zero, List.getElem?_cons_succ, Option.map_some, Option.getD_some]
                have h82 : a.tmps[82]?.getD undef = .agg E0.val.toArray := hD 10 (by kernel_rfl)
                have h83 : a.tmps[83]?.getD undef = .agg cs.toArray := hD 11 (by kernel_rfl)
                have h79 : a.tmps[79]?.getD undef = .bool false := hD 7 (by kernel_rfl)
                have g79 := guard_get h79
                clear hF hD
                go_simp
                refine (SameMessage_any _ _ m m _ (V0.1.kp hk) (HV.out.kp (K9.trans hk)) hlen hlen).mono ?_
                rw [decide_eq_true rfl]
                rintro e w9 ⟨rfl, hk9⟩
                exact hK.out _ _ hk9 rfl
              · intro a w' hk hF hD K hK
                simp only [List.getElem?_toArray, List.getElem?_cons_zero, List.getElem?_cons_succ, Option.map_some, Option.getD_some]
                have h84 : a.tmps[84]?.getD undef = .bool true := hD 12 (by kernel_rfl)
                have h79 : a.tmps[79]?.getD undef = .bool false := hD 7 (by kernel_rfl)
                have g79 := guard_get h79
                clear hF hD
                go_simp
                exact hK.out _ _ (Kp.refl _) rfl
            · exact fun i0 hi0 => by simp at hi0
            intro v w9 k9 hv
            have v7 : v 7 = .bool false := hv 7 (by omega)
            have v13 : v 13 = .bool false := hv 13 (by omega)
            clear hv
            simp only [G2.growPut, G2.gSlot, List.getElem?_toArray, List.getElem?_cons_zero, List.getElem?_cons_succ, Option.bind_some, List.setIfInBounds_toArray, List.set_cons_zero, List.set_cons_succ, List.drop_succ_cons, List.drop_zero, v7, v13]
            have p4' : Ow (bs 0) (ts 0) wD (fun w' => rdMsgO w' E0.val m) := p4
            have q4' : Ow (bs 1) (ts 1) wD (fun w' => rdMsgO w' E1.val m) := q4
            have V1 := q4'.step k9.size fun i hi1 hi2 => k9.block (by omega)
            have R1 := k9.range r1
            have BA := B9.keep (k9.block hb9)
            have KA := K9.trans k9
            have hbA := Nat.lt_of_lt_of_le hb9 k9.size
            obtain ⟨q, o, cq, hq3, hqs, hqc⟩ := rdMsg_clock V0.1 hlp
            have hqin := clock_in (p4'.imp fun w' h => h.1) hq3 hlp
            have hqf := V0.2 E0.val rfl q o _ _ hq3 o
            have g3 := k9.cellS (r0 3 _ hq3)
            have gq := k9.cellS hqc
            have gf : w9.frozen? ⟨q, o, none⟩ = false := ((kcell k9).2 q o hqs).trans hqf
            have hq9 : q < w9.heap.size := block_lt_of_cell gq
            have hg9 := Nat.lt_of_lt_of_le hgl4 k9.size
            have hY := HX1.out _ (clock_mem (List.getElem_mem hlp))
            have hY1 : -4611686018427387904 ≤ m.clock[0] := hY.1
            have hY2 : m.clock[0] ≤ 4611686018427387903 := hY.2
            have hwb := hbw.out
            have hz9D := k9.size
            have hcl0 : decide ((0 : Int) < (m.clock.length : Int)) = true := decide_eq_true (by omega)
            clear p4 q4 p4' q4' r0 r1 B9 K9 hb9 hqc hqf hqs hgl4 V0 hY
            generalize m.clock[0]'hlp = y0 at *
            cases ag with
            | false =>
              go_upto_region 19 with (fail)
              refine G2.wp_region_growG Kp [] 5 109 (G2.pvL [G2.eqv (.slice (some ⟨gl, 0, none⟩) 2 cl), G2.eqv (.pointer (some ⟨gl, 18, none⟩)), G2.eqv (.agg E1.val.toArray), G2.eqv (.agg cs.toArray), G2.eqv (.bool true)]) (by kernel_rfl) (by kernel_rfl) rfl (fun x => Kp.refl x) (fun _ _ _ h k => h.trans k) (Kp.refl _).drew (fun _ _ _ _ _ h => h) (G2.pvL_keep (G2.stabL_cons (G2.stab_eq _) (G2.stabL_cons (G2.stab_eq _) (G2.stabL_cons (G2.stab_eq _) (G2.stabL_cons (G2.stab_eq _) (G2.stabL_cons (G2.stab_eq _) (G2.stabL_nil))))))) ?_ ?_ ?_
              · intro i0 hi0
                have hi' : i0 = 0 ∨ i0 = 1 ∨ i0 = 2 ∨ i0 = 3 ∨ i0 = 4 := by omega
                rcases hi' with rfl | rfl | rfl | rfl | rfl
                · intro a w' hk hF hD K hK
                  simp only [List.getElem?_toArray, List.getElem?_cons_zero, List.getElem?_cons_succ, Option.map_some, Option.getD_some]
                  have h9 : a.tmps[9]?.getD undef = .slice (some ⟨gl, 0, none⟩) 2 cl := hF 9 (by kernel_rfl)
                  clear hF hD
                  go_simp
                  exact hK.out _ _ (Kp.refl _) rfl
                · intro a w' hk hF hD K hK
                  simp only [List.getElem?_toArray, List.getElem?_cons_zero, List.getElem?_cons_succ, Option.map_some, Option.getD_some]
                  have h104 : a.tmps[104]?.getD undef = .slice (some ⟨gl, 0, none⟩) 2 cl := hD 0 (by kernel_rfl)
                  clear hF hD
                  go_simp
                  exact hK.out _ _ (Kp.refl _) rfl
                · intro a w' hk hF hD K hK
                  simp only [List.getElem?_toArray, List.getElem?_cons_zero, List.getElem?_cons_succ, Option.map_some, Option.getD_some]
                  have h105 : a.tmps[105]?.getD undef = .pointer (some ⟨gl, 18, none⟩) := hD 1 (by kernel_rfl)
                  clear hF hD
                  rw [if_pos (show Region.wanted _ _ = true from rfl)]
                  refine wp_load_mid 34 (.tmp 105) rfl gl 18 (by simpa [Act.eval] using h105) E1.val _ (hk.range R1) Try.underlying34 rfl hiE1 ?_
                  exact hK.out _ _ (Kp.refl _) rfl
                · intro a w' hk hF hD K hK
                  simp only [List.getElem?_toArray, List.getElem?_cons_zero, List.getElem?_cons_succ, Option.map_some, Option.getD_some]
                  have h2 : a.tmps[2]?.getD undef = .pointer (some ⟨b, 0, none⟩) := hF 2 (by kernel_rfl)
                  clear hF hD
                  rw [if_pos (show Region.wanted _ _ = true from rfl)]
                  refine wp_load_mid 34 (.tmp 2) rfl b 0 (by simpa [Act.eval] using h2) cs _ (hk.range (BA).range) Try.underlying34 rfl hi ?_
                  exact hK.out _ _ (Kp.refl _) rfl
                · intro a w' hk hF hD K hK
                  simp only [List.getElem?_toArray, List.getElem?_cons_zero, List.getElem?_cons_succ, Option.map_some, Option.getD_some]
                  have h106 : a.tmps[106]?.getD undef = .agg E1.val.toArray := hD 2 (by kernel_rfl)
                  have h107 : a.tmps[107]?.getD undef = .agg cs.toArray := hD 3 (by kernel_rfl)
                  clear hF hD
                  go_simp
                  refine (SameMessage_any _ _ m m _ ((V1.here.1).kp hk) (HV.out.kp ((KA).trans hk)) hlen hlen).mono ?_
                  rw [decide_eq_true rfl]
                  rintro e w9 ⟨rfl, hk9⟩
                  exact hK.out _ _ hk9 rfl
              · exact fun i0 hi0 => by simp at hi0
              intro v w9 k9 hv
              have v4 : v 4 = .bool true := hv 4 (by omega)
              clear hv
              simp only [G2.growPut, G2.gSlot, List.getElem?_toArray, List.getElem?_cons_zero, List.getElem?_cons_succ, Option.bind_some, List.setIfInBounds_toArray, List.set_cons_zero, List.set_cons_succ, List.drop_succ_cons, List.drop_zero, v4]
              have kF := (KA).trans k9
              go_wp2
              go_ret
              exact ⟨rfl, kF⟩
            | true =>
              have kgq := (Kg.refl w9 q).set (p := ⟨q, o, none⟩) (.inl rfl) (.int .i64 (y0 - 1))
              have RB := Kg.range kgq R1 (by omega)
              have BB := BA.kg kgq hbA (by omega)
              have KB := Kg.to_kp KA kgq (by omega)
              have VB := V1.step kgq.size fun i hi1 hi2 => kgq.block i (by omega) (fun e => by injection e with e; omega)
              clear R1 BA KA V1 k9
              go_upto_region 19 with (fail)
              generalize w9.setCell ⟨q, o, none⟩ (.int .i64 (y0 - 1)) = wB at *
              refine G2.wp_region_growG Kp [] 5 109 (G2.pvL [G2.eqv (.slice (some ⟨gl, 0, none⟩) 2 cl), G2.eqv (.pointer (some ⟨gl, 18, none⟩)), G2.eqv (.agg E1.val.toArray), G2.eqv (.agg cs.toArray), G2.eqv (.bool true)]) (by kernel_rfl) (by kernel_rfl) rfl (fun x => Kp.refl x) (fun _ _ _ h k => h.trans k) (Kp.refl _).drew (fun _ _ _ _ _ h => h) (G2.pvL_keep (G2.stabL_cons (G2.stab_eq _) (G2.stabL_cons (G2.stab_eq _) (G2.stabL_cons (G2.stab_eq _) (G2.stabL_cons (G2.stab_eq _) (G2.stabL_cons (G2.stab_eq _) (G2.stabL_nil))))))) ?_ ?_ ?_
              · intro i0 hi0
                have hi' : i0 = 0 ∨ i0 = 1 ∨ i0 = 2 ∨ i0 = 3 ∨ i0 = 4 := by omega
                rcases hi' with rfl | rfl | rfl | rfl | rfl
                · intro a w' hk hF hD K hK
                  simp only [List.getElem?_toArray, List.getElem?_cons_zero, List.getElem?_cons_succ, Option.map_some, Option.getD_some]
                  have h9 : a.tmps[9]?.getD undef = .slice (some ⟨gl, 0, none⟩) 2 cl := hF 9 (by kernel_rfl)
                  clear hF hD
                  go_simp
                  exact hK.out _ _ (Kp.refl _) rfl
                · intro a w' hk hF hD K hK
                  simp only [List.getElem?_toArray, List.getElem?_cons_zero, List.getElem?_cons_succ, Option.map_some, Option.getD_some]
                  have h104 : a.tmps[104]?.getD undef = .slice (some ⟨gl, 0, none⟩) 2 cl := hD 0 (by kernel_rfl)
                  clear hF hD
                  go_simp
                  exact hK.out _ _ (Kp.refl _) rfl
                · intro a w' hk hF hD K hK
                  simp only [List.getElem?_toArray, List.getElem?_cons_zero, List.getElem?_cons_succ, Option.map_some, Option.getD_some]
                  have h105 : a.tmps[105]?.getD undef = .pointer (some ⟨gl, 18, none⟩) := hD 1 (by kernel_rfl)
                  clear hF hD
                  rw [if_pos (show Region.wanted _ _ = true from rfl)]
                  refine wp_load_mid 34 (.tmp 105) rfl gl 18 (by simpa [Act.eval] using h105) E1.val _ (hk.range RB) Try.underlying34 rfl hiE1 ?_
                  exact hK.out _ _ (Kp.refl _) rfl
                · intro a w' hk hF hD K hK
                  simp only [List.getElem?_toArray, List.getElem?_cons_zero, List.getElem?_cons_succ, Option.map_some, Option.getD_some]
                  have h2 : a.tmps[2]?.getD undef = .pointer (some ⟨b, 0, none⟩) := hF 2 (by kernel_rfl)
                  clear hF hD
                  rw [if_pos (show Region.wanted _ _ = true from rfl)]
                  refine wp_load_mid 34 (.tmp 2) rfl b 0 (by simpa [Act.eval] using h2) cs _ (hk.range (BB).range) Try.underlying34 rfl hi ?_
                  exact hK.out _ _ (Kp.refl _) rfl
                · intro a w' hk hF hD K hK
                  simp only [List.getElem?_toArray, List.getElem?_cons_zero, List.getElem?_cons_succ, Option.map_some, Option.getD_some]
                  have h106 : a.tmps[106]?.getD undef = .agg E1.val.toArray := hD 2 (by kernel_rfl)
                  have h107 : a.tmps[107]?.getD undef = .agg cs.toArray := hD 3 (by kernel_rfl)
                  clear hF hD
                  go_simp
                  refine (SameMessage_any _ _ m m _ ((VB.here.1).kp hk) (HV.out.kp ((KB).trans hk)) hlen hlen).mono ?_
                  rw [decide_eq_true rfl]
                  rintro e w9 ⟨rfl, hk9⟩
                  exact hK.out _ _ hk9 rfl
              · exact fun i0 hi0 => by simp at hi0
              intro v w9 k9 hv
              have v4 : v 4 = .bool true := hv 4 (by omega)
              clear hv
              simp only [G2.growPut, G2.gSlot, List.getElem?_toArray, List.getElem?_cons_zero, List.getElem?_cons_succ, Option.bind_some, List.setIfInBounds_toArray, List.set_cons_zero, List.set_cons_succ, List.drop_succ_cons, List.drop_zero, v4]
              have kF := (KB).trans k9
              go_wp2
              go_ret
              exact ⟨rfl, kF⟩
          · have h2 : (encE (numMessage m)).2 = 2 := by
              rcases encE_small (l := numMessage m) (by omega) with h | h
              · exact absurd h he
              · exact h
            rw [fresh_no HS.out HT.out he, h2] at N7
            rw [fresh_no HS.out HT.out he, h2]
            dsimp only at N7 ⊢
            replace he := hid he
            replace h2 := hid h2
            go_wp2_with fail
            refine (nInFlight_any _ nb mb vf _ _ _ N7).mono ?_
            rintro e w8 ⟨rfl, rfl⟩
            have hfl : freshN.fly.length = 0 := rfl
            rw [hfl]
            go_wp2
            go_ret
            exact ⟨rfl, K7⟩
        · have e5 : (m.to != 1) = true := by simpa using ht
          go_wp2
          go_ret
          exact ⟨rfl, K2⟩
      · have e4 : (m.sender != 0) = true := by simpa using hs
        go_wp2
        go_ret
        exact ⟨rfl, K2⟩
end Go.Proofs.Ytmokpnkpfodppaa
