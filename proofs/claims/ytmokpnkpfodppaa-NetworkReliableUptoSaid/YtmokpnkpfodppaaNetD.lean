
/-
A network's Deliver: the walk.
-/
import Derived.Test.YtmokpnkpfodppaaNetQ
import Derived.Deep.LoopGhost
namespace Go.Proofs.Ytmokpnkpfodppaa
set_option linter.unusedSimpArgs false
set_option linter.unusedVariables false
open Go.RowKit

/-- how a message's cells read -/
def rdMsg : Rd Message := fun w cs x => MessageV w (.agg cs.toArray) x
theorem rdMsg_one {w : World} {cs : List Value} {x : Message} (h : rdMsg w cs x) : cs.length = 18 ∧ ∀ u ∈ cs, u.oneCell' = true := by
  obtain ⟨cs', e, h1, h2⟩ := message_cells _ _ _ h
  injection e with e
  have := congrArg Array.toList e
  simp at this
  subst this
  exact ⟨h1, h2⟩
theorem stMsgM : SliceT Try.prog 22 34 18 224 := SliceT.mk' Try.underlying22 (z := .agg #[.int .i64 0, .int .i64 0, .int .i64 0, .slice none 0 0, .slice none 0 0, .slice none 0 0, .int .i64 0, .int .i64 0, .int .i64 0, .int .i64 0, .int .i64 0, .slice none 0 0, .int .i64 0, .int .i64 0, .int .i64 0, .int .i64 0, .bool false, .slice none 0 0]) (by kernel_rfl) rfl (by omega)
/-- what Deliver leaves -/
def DelE (lo nb mb : Nat) (vf sv : Value) (w : World) (r : Net × List Message × Int) (e : Ending) (w' : World) : Prop :=
  ∃ v, e = .returned (.tuple #[v, .int .i64 r.2.2]) ∧ ∃ (sv' : Value) (top : Nat) (css : List (Elm 18)), NetW lo nb mb vf sv' w' r.1 ∧ Fr (Qb nb sv) w w' ∧ (∀ k, sv'.ownBlock = some k → sv.ownBlock = some k) ∧
    Own encC 34 18 w.heap.size w' v css ∧ EmX rdMsg w.heap.size top w' v.ownBlock css r.2.1
theorem assertPar (v : Value) (w : World) : Sem.run Try.prog (Instr.typeAssert (.iface 105 v) 20 105 false) w = .ok v w := by kernel_rfl
set_option maxRecDepth 8000 in
set_option maxHeartbeats 4000000 in
theorem nDeliver_any (lo nb mb : Nat) (vf sv : Value) (N : Net) (t : Int) (w : World) (h : NetW lo nb mb vf sv w N) (hf : Few N) :
    Calls Try.prog 12 #[.pointer (some ⟨nb, 0, none⟩), .int .i64 t] w (DelE lo nb mb vf sv w (deliverN N t)) := by
  obtain ⟨A0, cA, rfl⟩ := h.svForm
  generalize hR : deliverN N t = R
  have HR := hid hR
  clear hR
  have hnbw := h.lt
  have hsvw : ∀ k, (Value.slice A0 N.fly.length cA).ownBlock = some k → k < w.heap.size := fun k hk => by
    obtain ⟨Q, own, -⟩ := h.fl
    exact own.blk_lt k hk
  have HSV := hid hsvw
  have HOK := hid h.ok
  have HFF := hid hf
  have ff0 := h.box.free (j := 1) (by simp)
  have hN := hid h
  have c0 := (h).box.cell (j := 0) rfl
  have c1 := (h).box.cell (j := 1) rfl
  have c2 := (h).box.cell (j := 2) rfl
  have c3 := (h).box.cell (j := 3) rfl
  have c4 := (h).box.cell (j := 4) rfl
  have c5 := (h).box.cell (j := 5) rfl
  have c6 := (h).box.cell (j := 6) rfl
  have c7 := (h).box.cell (j := 7) rfl
  have c8 := (h).box.cell (j := 8) rfl
  clear h hsvw hf
  go_enter Try.func12, Try.ntmps12
  go_wp2_with fail
  refine (nLate_any nb _ _ _ c1).mono ?_
  rintro e w1 ⟨rfl, rfl⟩
  cases hlt : lateB N.tick t with
  | true =>
    have HF : Hid (R = (N, [], 2)) := hid (by rw [← HR.out, deliverN, if_pos hlt])
    obtain rfl := HF.out
    go_wp2
    go_ret2
    exact ⟨_, rfl, _, _, [], hN.out, Fr.refl _ _, fun k hk => hk, Own.nil _ _ _ _ _, EmX.nil _ _ _ _ _ (Nat.le_refl _)⟩
  | false =>
    have HF : Hid (R = (delK N t (dueL t N.fly).length, outK N (dueL t N.fly).length, 0)) := hid (by rw [← HR.out, deliverN, if_neg (by rw [hlt]; simp)])
    obtain rfl := HF.out
    have HT : Hid (0 ≤ t ∧ t ≤ 1048576) := hid (by
      have := HOK.out.tick
      simp only [lateB, Bool.or_eq_false_iff, decide_eq_false_iff_not] at hlt
      omega)
    have hkS := (Kg.refl w1 nb).set (p := ⟨nb, 1, none⟩) (.inl rfl) (.int .i64 t)
    have N2 : NetW lo nb mb vf (.slice A0 N.fly.length cA) (w1.setCell ⟨nb, 1, none⟩ (.int .i64 t)) (delK N t 0) := by
      rw [delK_zero]
      exact hN.out.updB hkS (hN.out.box.set (j := 1) (by simp) (.int .i64 t)) rfl rfl rfl (by have := HOK.out.delK HT.out 0; rwa [delK_zero] at this)
    have F2 := hkS.fr (S := Qb nb (.slice A0 N.fly.length cA)) (.inl rfl)
    go_wp2_with fail
    generalize w1.setCell ⟨nb, 1, none⟩ (.int .i64 t) = w2 at *
    have HD := hid (due_cases t N.fly)
    generalize hn : (dueL t N.fly).length = n at *
    clear hn hkS c0 c1 c2 c3 c4 c5 c6 c7 c8 ff0 HR hlt
    go_loopg [6] (n + 1) (fun gk v wr => ∃ (k : Nat) (sv' : Value) (css : List (Elm 18)) (top : Nat), n < k + gk ∧ k ≤ n ∧ NetW lo nb mb vf sv' wr (delK N t k) ∧ Fr (Qb nb (.slice A0 N.fly.length cA)) w1 wr ∧ Hid (∀ q, sv'.ownBlock = some q → (Value.slice A0 N.fly.length cA).ownBlock = some q) ∧ Own encC 34 18 w1.heap.size wr v css ∧ EmX rdMsg w1.heap.size top wr v.ownBlock css (outK N k))
    case atStart => exact ⟨0, _, [], _, by omega, by omega, N2, F2, hid fun q hq => hq, Own.nil _ _ _ _ _, EmX.nil _ _ _ _ _ F2.size⟩
    case round =>
      clear N2 F2
      obtain ⟨k, sv', css, top, hgk, hkn, NK, KK, HQ, own, hem⟩ := hrel
      have HGK := hid hgk
      clear hgk
      have HE := hid hem
      have HOW := hid own
      have hkz := hid KK.size
      obtain ⟨Q, ownQ, hp⟩ := NK.fl
      have hNK := hid NK
      have c0 := (NK).box.cell (j := 0) rfl
      have c1 := (NK).box.cell (j := 1) rfl
      have c2 := (NK).box.cell (j := 2) rfl
      have c3 := (NK).box.cell (j := 3) rfl
      have c4 := (NK).box.cell (j := 4) rfl
      have c5 := (NK).box.cell (j := 5) rfl
      have c6 := (NK).box.cell (j := 6) rfl
      have c7 := (NK).box.cell (j := 7) rfl
      have c8 := (NK).box.cell (j := 8) rfl
      have hnbk := NK.lt
      have hfb := hid (delK_bounds HFF.out HOK.out.len t k)
      by_cases hk : k < n
      · obtain ⟨p, hpk, hdr, hdue⟩ := (HD.out k hkn).1 hk
        have hp' : HeapOf Q (p :: N.fly.drop (k + 1)) := by rw [← hdr]; exact hp
        have HP1 := hid (heap_first hp')
        have hlen : Q.length = (N.fly.drop (k + 1)).length + 1 := hp'.perm.length_eq
        generalize hm : (N.fly.drop (k + 1)).length = m at *
        have HM := hid hm
        have HPOP := hid (heap_pop hp' m (by omega))
        have HPK := hid hpk
        have HLEN := hid hlen
        obtain ⟨g, c, hsv, hc1, hc2, hg1, hg2⟩ := ownQ.row (by omega)
        rw [hlen] at hsv hc1
        subst hsv
        rw [← HLEN.out] at ownQ
        obtain ⟨b', o', he, hb', i0, -⟩ := (ownQ.sl encPar_len).par (k := 0) (by omega)
        rw [HLEN.out] at ownQ
        injection he with he
        injection he with e1 e2
        subst e1 e2
        have hq0 : (Q[0]'(by omega)).due = p.due := by rw [← HP1.out]; simp [gt, List.getD, show 0 < Q.length by omega]
        rw [hq0] at i0
        have hm2 : m + 1 ≤ 1024 := by
          have h1 := HOK.out.len
          have h2 := HM.out
          rw [List.length_drop] at h2
          have h3 : (N.fly.drop k).length = m + 1 := by rw [hdr, List.length_cons, HM.out]
          rw [List.length_drop] at h3
          omega
        clear hp hp' hem own NK hdr hpk hm hlen hq0
        have e3 : decide (p.due ≤ t) = true := decide_eq_true hdue
        have hpos : (0 : Int) < (m : Int) + 1 := by omega
        have hpos2 : (0 : Int) < ((m + 1 : Nat) : Int) := by omega
        have hQlt : ∀ i, Qb nb (.slice (some ⟨g, 0, none⟩) (m + 1) c) i → i < w1.heap.size := fun i hi => by
          rcases hi with rfl | hi
          · exact hnbw
          · exact HSV.out i (HQ.out i hi)
        have hQq : ∀ i, Qb nb (.slice (some ⟨g, 0, none⟩) (m + 1) c) i → Qb nb (.slice A0 N.fly.length cA) i := fun i hi => by
          rcases hi with rfl | hi
          · exact .inl rfl
          · exact .inr (HQ.out i hi)
        have HQLT := hid hQlt
        have HQQ := hid hQq
        clear hQlt hQq
        go_wp2_with fail
        refine (hPop_any nb g m c _ Q _ hNK.out.box rfl ownQ HLEN.out.symm (by rw [HLEN.out]; omega)).mono ?_
        rintro e w4 ⟨rfl, own4, B4, fr4⟩
        rw [HPOP.out.1, show (encPar p).toArray = #[.int .i64 p.due, .int .i64 p.num, .int .i64 p.frm, .int .i64 p.dst, strV p.data] from rfl]
        have N4 : NetW lo nb mb vf (.slice (some ⟨g, 0, none⟩) m c) w4 (popK N t k) := hNK.out.upd fr4 B4 rfl rfl ⟨_, own4, HPOP.out.2⟩ (HOK.out.popK HT.out k)
        have K4 := KK.trans2 fr4 fun i hi _ => HQQ.out i hi
        have E4 := HE.out.step (w' := w4) fr4.size fun i hi1 hi2 _ => fr4.block i (by have := HE.out.2.2.1; omega) (fun hq => by have := HQLT.out i hq; omega)
        have O4 := HOW.out.owS w4 fr4.size fun i hi hlt => fr4.block i hlt (fun hq => by have := HQLT.out i hq; have := HOW.out.ge i hi; omega)
        have hfz := hid fr4.size
        clear HPOP own4 B4 fr4 c0 c1 c2 c3 c4 c5 c6 c7 c8 i0 ownQ KK HE HOW hNK e3 hpos hpos2 hnbk hg1 hg2 hc1 hc2 hb'
        have tA := assertPar (.agg #[.int .i64 p.due, .int .i64 p.num, .int .i64 p.frm, .int .i64 p.dst, strV p.data]) w4
        have k5 := (Kp.refl w4).alloc (.cells #[.int .i64 p.due, .int .i64 p.num, .int .i64 p.frm, .int .i64 p.dst, .string ⟨p.data.toArray⟩] 105)
        have P5 := Bx.new w4 #[.int .i64 p.due, .int .i64 p.num, .int .i64 p.frm, .int .i64 p.dst, .string ⟨p.data.toArray⟩] 105
        have N5 := N4.kp k5
        have K5 := K4.kp k5
        have E5 := E4.step k5.size fun i hi1 hi2 _ => k5.block (Nat.lt_of_lt_of_le hi2 E4.2.2.1)
        have O5 := O4.kp k5
        have hp5 := alloc_lt w4 (.cells #[.int .i64 p.due, .int .i64 p.num, .int .i64 p.frm, .int .i64 p.dst, .string ⟨p.data.toArray⟩] 105)
        clear N4 K4 E4 O4 k5
        go_upto_region 7 with (fail)
        clear tA
        generalize w4.alloc (.cells #[.int .i64 p.due, .int .i64 p.num, .int .i64 p.frm, .int .i64 p.dst, .string ⟨p.data.toArray⟩] 105) = w5 at *
        generalize hbb : w4.heap.size = bp at *
        clear hbb
        have c0 := (N5).box.cell (j := 0) rfl
        have c1 := (N5).box.cell (j := 1) rfl
        have c2 := (N5).box.cell (j := 2) rfl
        have c3 := (N5).box.cell (j := 3) rfl
        have c4 := (N5).box.cell (j := 4) rfl
        have c5 := (N5).box.cell (j := 5) rfl
        have c6 := (N5).box.cell (j := 6) rfl
        have c7 := (N5).box.cell (j := 7) rfl
        have c8 := (N5).box.cell (j := 8) rfl
        obtain ⟨es, clock, hmp, hmo⟩ := N5.mp
        have e2 := P5.cell (j := 2) rfl
        have e3 := P5.cell (j := 3) rfl
        go_wp2_with fail
        refine (nLinked_any nb mb clock _ _ _ es _ _ c0 c3 hmp hmo).mono ?_
        rintro e w6 ⟨rfl, k6⟩
        have HLK : Hid (lkP N p = linkedB (popK N t k).reps (popK N t k).cuts p.frm p.dst) := hid rfl
        generalize linkedB (popK N t k).reps (popK N t k).cuts p.frm p.dst = lk at *
        have N6 := N5.kp k6
        have K6 := K5.kp k6
        have E6 := E5.step k6.size fun i hi1 hi2 _ => k6.block (Nat.lt_of_lt_of_le hi2 E5.2.2.1)
        have O6 := O5.kp k6
        have P6 := P5.kp k6 hp5
        have hp6 := Nat.lt_of_lt_of_le hp5 k6.size
        clear N5 K5 E5 O5 P5 hp5 k6 c0 c1 c2 c3 c4 c5 c6 c7 c8 e2 e3 hmp hmo
        have hnb6 := N6.lt
        have hff := HOK.out.pos
        cases lk with
        | false =>
          obtain ⟨a1, a2⟩ := delK_lost (t := t) HPK.out HLK.out
          have a1 := hid a1
          have a2 := hid a2
          have c8 : w6.cell? ⟨nb, 8, none⟩ = some (.int .i64 (delK N t k).lost) := N6.box.cell (j := 8) rfl
          have df := N6.box.free (j := 8) (by simp)
          have hl0 := (HOK.out.delK HT.out k).pos.2.2.2
          have hl1 := hfb.out.2
          have hkS := (Kg.refl w6 nb).set (p := ⟨nb, 8, none⟩) (.inl rfl) (.int .i64 ((delK N t k).lost + 1))
          have N7 : NetW lo nb mb vf (.slice (some ⟨g, 0, none⟩) m c) (w6.setCell ⟨nb, 8, none⟩ (.int .i64 ((delK N t k).lost + 1))) (delK N t (k + 1)) := by
            have ok1 := HOK.out.delK HT.out (k + 1)
            rw [a1.out] at ok1 ⊢
            exact N6.updB hkS (N6.box.set (j := 8) (by simp) (.int .i64 ((delK N t k).lost + 1))) rfl rfl rfl ok1
          have K7 := K6.trans (hkS.fr (S := Qb nb (.slice A0 N.fly.length cA)) (.inl rfl))
          have E7 := E6.step hkS.size fun i hi1 hi2 _ => hkS.block i (Nat.lt_of_lt_of_le hi2 E6.2.2.1) (fun e => by injection e with e; omega)
          have O7 := O6.kg hkS hnbw
          clear N6 K6 E6 O6 P6 hkS
          generalize (delK N t k).lost = ls at *
          go_wp2_with fail
          go_roundg (gk - 1)
          case measure => have := HGK.out; omega
          case rel => exact ⟨k + 1, _, css, top, by have := HGK.out; omega, hk, N7, K7, hid fun q hq => HQ.out q hq, O7, by rw [a2.out]; exact E7⟩
        | true =>
          obtain ⟨a1, a2⟩ := delK_del (t := t) HPK.out HLK.out
          have a1 := hid a1
          have a2 := hid a2
          obtain ⟨A2, c2, rfl, hc2, hm2'⟩ := O6.form
          have hcl : css.length ≤ 1024 := by
            rw [E6.1]
            unfold outK
            rw [List.length_map]
            refine Nat.le_trans (List.length_filter_le _ _) ?_
            have := HOK.out.len
            simp
            omega
          have e4 : w6.cell? ⟨bp, 4, none⟩ = some (strV p.data) := P6.cell (j := 4) rfl
          go_wp2_with fail
          refine (decodeMessage p.data w6).mono ?_
          rintro e w7 ⟨v7, rfl, ho, k7⟩
          have ho : Ow w6.heap.size w7.heap.size w7 (fun w2 => MessageV w2 v7 (msgOf p)) := ho
          generalize (readE messageP p.data).2 = er at *
          obtain ⟨cm, rfl, hl7, h17⟩ := message_cells _ _ _ ho.here
          have hth := there_new w7 #[.int .i64 0, .int .i64 0, .int .i64 0, .slice none 0 0, .slice none 0 0, .slice none 0 0, .int .i64 0, .int .i64 0, .int .i64 0, .int .i64 0, .int .i64 0, .slice none 0 0, .int .i64 0, .int .i64 0, .int .i64 0, .int .i64 0, .bool false, .slice none 0 0] 34 cm.length (by rw [hl7]; rfl)
          have hin : (Try.prog.info? 34).map (·.size) = some cm.length := by rw [hl7]; kernel_rfl
          have hfl3 : cm.length = (#[.int .i64 0, .int .i64 0, .int .i64 0, .slice none 0 0, .slice none 0 0, .slice none 0 0, .int .i64 0, .int .i64 0, .int .i64 0, .int .i64 0, .int .i64 0, .slice none 0 0, .int .i64 0, .int .i64 0, .int .i64 0, .int .i64 0, .bool false, .slice none 0 0] : Array Value).size := hl7
          have hB := (Bx.new w7 #[.int .i64 0, .int .i64 0, .int .i64 0, .slice none 0 0, .slice none 0 0, .slice none 0 0, .int .i64 0, .int .i64 0, .int .i64 0, .int .i64 0, .int .i64 0, .slice none 0 0, .int .i64 0, .int .i64 0, .int .i64 0, .int .i64 0, .bool false, .slice none 0 0] 34).all (cs := cm) (by rw [hl7]; rfl)
          have k8 : Kp w7 ((w7.alloc (.cells #[.int .i64 0, .int .i64 0, .int .i64 0, .slice none 0 0, .slice none 0 0, .slice none 0 0, .int .i64 0, .int .i64 0, .int .i64 0, .int .i64 0, .int .i64 0, .slice none 0 0, .int .i64 0, .int .i64 0, .int .i64 0, .int .i64 0, .bool false, .slice none 0 0] 34)).setCells w7.heap.size 0 cm) := Kp.setCells (Nat.le_refl _) cm 0 _ ((Kp.refl w7).alloc _)
          have k78 := k7.trans k8
          have N8 := N6.kp k78
          have K8 := K6.kp k78
          have E8 := E6.step k78.size fun i hi1 hi2 _ => k78.block (Nat.lt_of_lt_of_le hi2 E6.2.2.1)
          have O8 := O6.kp k78
          have ho8 := ho.step k8.size fun i hi1 hi2 => k8.block hi2
          have hz7 := k7.size
          have hz8 := k8.size
          have hbl := O6.blk_lt
          have htop := E6.2.2.1
          have HLEN7 := hid hl7
          have HONE7 := hid h17
          clear N6 K6 E6 O6 P6 k7 k8 k78 ho hl7 hp6 hnb6
          go_upto_region 10 with (refine wpList_store_mid rfl 34 (.tmp 8) (.tmp 58) rfl w7.heap.size 0 cm.toArray rfl rfl hth hin (all_oneCell_toArray HONE7.out) ?_; generalize (w7.alloc (.cells #[.int .i64 0, .int .i64 0, .int .i64 0, .slice none 0 0, .slice none 0 0, .slice none 0 0, .int .i64 0, .int .i64 0, .int .i64 0, .int .i64 0, .int .i64 0, .slice none 0 0, .int .i64 0, .int .i64 0, .int .i64 0, .int .i64 0, .bool false, .slice none 0 0] 34)).setCells w7.heap.size 0 cm = w8 at *)
          clear hth
          generalize hb8 : w7.heap.size = b8 at *
          clear hb8
          have kA := (Kp.refl w8).alloc (.cells cm.toArray 34)
          have NA := N8.kp kA
          have KA := K8.kp kA
          have EA := E8.step kA.size fun i hi1 hi2 _ => kA.block (Nat.lt_of_lt_of_le hi2 E8.2.2.1)
          have hoA := ho8.step kA.size fun i hi1 hi2 => kA.block (by omega)
          have hzA := kA.size
          have hzK := K8.size
          go_upto_region 11 with (first | (refine wpList_load_mid rfl 34 (.tmp 8) rfl b8 0 rfl cm _ hB.range Try.underlying34 rfl hin ?_) | (at_builtin; rw [fold_fill #[.int .i64 0, .int .i64 0, .int .i64 0, .slice none 0 0, .slice none 0 0, .slice none 0 0, .int .i64 0, .int .i64 0, .int .i64 0, .int .i64 0, .int .i64 0, .slice none 0 0, .int .i64 0, .int .i64 0, .int .i64 0, .int .i64 0, .bool false, .slice none 0 0] cm hfl3]; refine wpl_append_flat rfl (.tmp 60) (.tmp 62) rfl stMsgM encC_len encC_one rfl (O8.alloc _) rfl (Sl.one (R := Pl encC) w8 _ 34 18 (⟨cm, HLEN7.out, HONE7.out⟩ : Elm 18) HLEN7.out rfl) (by simp; omega) (by simp; omega) (by simp; omega) ?_; intro v9 w9 hown9 hgrow9 hat9 hnil9; obtain ⟨A9, c9, e9, hc9, hm9⟩ := hown9.form; rw [List.length_append, List.length_singleton] at e9; subst e9))
          have hgr : (w8.alloc (.cells cm.toArray 34)).grownBy w9 (Value.slice A2 css.length c2).ownBlock := hgrow9
          clear hgrow9 hnil9
          have EB := (EA.snoc (⟨cm, HLEN7.out, HONE7.out⟩ : Elm 18) (msgOf p) htop hz7 (by omega) (fun q hq => .inl (hbl q hq)) hoA).grow hgr hat9
          have hfr9 : Fr (fun q => (Value.slice A2 css.length c2).ownBlock = some q) (w8.alloc (.cells cm.toArray 34)) w9 := ⟨hgr.os, hgr.tape, hgr.output, hgr.size, fun q hq hn => hgr.block q hq (fun e => hn e.symm)⟩
          have hge := O8.ge
          have N9 : NetW lo nb mb vf (.slice (some ⟨g, 0, none⟩) m c) w9 (popK N t k) := NA.fr hfr9 (fun h => by have := hge nb h; omega) (fun h => by have := hge mb h; have := NA.mlt; omega) (fun q hq h => by have := hge q h; have := (NA.ownb q hq).1; omega) (fun q hq h => by have := hge q h; have := HQLT.out q (.inr hq); omega)
          have K9 := KA.trans2 hfr9 fun i hi hlt => by have := hge i hi; omega
          have hnb9 := N9.lt
          have c7 : w9.cell? ⟨nb, 7, none⟩ = some (.int .i64 (delK N t k).delivered) := N9.box.cell (j := 7) rfl
          have df := N9.box.free (j := 7) (by simp)
          have hl0 := (HOK.out.delK HT.out k).pos.2.2.1
          have hl1 := hfb.out.1
          have hkS := (Kg.refl w9 nb).set (p := ⟨nb, 7, none⟩) (.inl rfl) (.int .i64 ((delK N t k).delivered + 1))
          have NB : NetW lo nb mb vf (.slice (some ⟨g, 0, none⟩) m c) (w9.setCell ⟨nb, 7, none⟩ (.int .i64 ((delK N t k).delivered + 1))) (delK N t (k + 1)) := by
            have ok1 := HOK.out.delK HT.out (k + 1)
            rw [a1.out] at ok1 ⊢
            exact N9.updB hkS (N9.box.set (j := 7) (by simp) (.int .i64 ((delK N t k).delivered + 1))) rfl rfl rfl ok1
          have KB := K9.trans (hkS.fr (S := Qb nb (.slice A0 N.fly.length cA)) (.inl rfl))
          have EC := EB.step hkS.size fun i hi1 hi2 _ => hkS.block i (Nat.lt_of_lt_of_le hi2 EB.2.2.1) (fun e => by injection e with e; omega)
          have OC := hown9.kg hkS hnbw
          clear N9 K9 EB hown9 hkS NA KA EA hoA N8 K8 E8 O8 ho8 hB hgr hfr9 hge hat9 kA hbl htop hin hfl3
          generalize (delK N t k).delivered = ds at *
          go_wp2_with fail
          go_roundg (gk - 1)
          case measure => have := HGK.out; omega
          case rel => exact ⟨k + 1, _, _, _, by have := HGK.out; omega, hk, NB, KB, hid fun q hq => HQ.out q hq, OC, by rw [a2.out]; exact EC⟩
      · obtain rfl : k = n := by omega
        have hend := (HD.out k hkn).2 rfl
        have hlen := hp.perm.length_eq
        have hfl : (delK N t k).fly = N.fly.drop k := rfl
        rw [hfl] at hp hlen
        obtain ⟨A2, c2, rfl, hc2, hm2'⟩ := own.form
        rcases hend with hend | ⟨p, S', hend, hdue⟩
        · rw [hend] at hp
          obtain rfl := hp.nil_of
          obtain ⟨A1, c1', rfl, hc1, hm1⟩ := ownQ.form
          clear hp hend hlen hfl own hem ownQ
          go_wp2_with fail
          go_ret2
          exact ⟨_, rfl, _, top, css, hNK.out, KK, HQ.out, HOW.out, HE.out⟩
        · rw [hend] at hp hlen
          have HP1 := hid (heap_first hp)
          have hq1 : 0 < Q.length := by rw [hlen]; simp
          obtain ⟨g, c, rfl, hc1, hc2', hg1, hg2⟩ := ownQ.row hq1
          obtain ⟨b', o', he, hb', i0, -⟩ := (ownQ.sl encPar_len).par hq1
          injection he with he
          injection he with e1 e2
          subst e1 e2
          have hq0 : Q[0].due = p.due := by rw [← HP1.out]; simp [gt, List.getD, hq1]
          rw [hq0] at i0
          have e3 : decide (p.due ≤ t) = false := decide_eq_false (by omega)
          have hpos : (0 : Int) < (Q.length : Int) := by omega
          have hdn : ¬ p.due ≤ t := by omega
          clear hp hend hlen hfl own hem ownQ hq0 HP1
          generalize Q.length = ql at *
          go_wp2_with fail
          go_ret2
          exact ⟨_, rfl, _, top, css, hNK.out, KK, HQ.out, HOW.out, HE.out⟩
end Go.Proofs.Ytmokpnkpfodppaa
