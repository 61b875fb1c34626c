
/-
Each message that arrives was sent before, and none arrives more than twice as often: the walk.
-/
import Derived.Test.YtmokpnkpfodppaaSentP
import Derived.Deep.LoopGhost
import Derived.Deep.Cut
namespace Go.Proofs.Ytmokpnkpfodppaa
set_option linter.unusedSimpArgs false
set_option linter.unusedVariables false
open Go.RowKit

theorem cmd_box (w : World) (cs : List Value) (h : cs.length = 22) :
    (w.alloc (.cells #[.int .i64 0, .int .i64 0, .int .i64 0, .int .i64 0, .int .i64 0, .int .i64 0, .int .i64 0, .slice none 0 0, .slice none 0 0, .slice none 0 0, .int .i64 0, .int .i64 0, .int .i64 0, .int .i64 0, .int .i64 0, .slice none 0 0, .int .i64 0, .int .i64 0, .int .i64 0, .int .i64 0, .bool false, .slice none 0 0] 59)).there w.heap.size 0 cs.length ∧ Bx ((w.alloc (.cells #[.int .i64 0, .int .i64 0, .int .i64 0, .int .i64 0, .int .i64 0, .int .i64 0, .int .i64 0, .slice none 0 0, .slice none 0 0, .slice none 0 0, .int .i64 0, .int .i64 0, .int .i64 0, .int .i64 0, .int .i64 0, .slice none 0 0, .int .i64 0, .int .i64 0, .int .i64 0, .int .i64 0, .bool false, .slice none 0 0] 59)).setCells w.heap.size 0 cs) w.heap.size cs ∧ Kp w ((w.alloc (.cells #[.int .i64 0, .int .i64 0, .int .i64 0, .int .i64 0, .int .i64 0, .int .i64 0, .int .i64 0, .slice none 0 0, .slice none 0 0, .slice none 0 0, .int .i64 0, .int .i64 0, .int .i64 0, .int .i64 0, .int .i64 0, .slice none 0 0, .int .i64 0, .int .i64 0, .int .i64 0, .int .i64 0, .bool false, .slice none 0 0] 59)).setCells w.heap.size 0 cs) ∧ w.heap.size < ((w.alloc (.cells #[.int .i64 0, .int .i64 0, .int .i64 0, .int .i64 0, .int .i64 0, .int .i64 0, .int .i64 0, .slice none 0 0, .slice none 0 0, .slice none 0 0, .int .i64 0, .int .i64 0, .int .i64 0, .int .i64 0, .int .i64 0, .slice none 0 0, .int .i64 0, .int .i64 0, .int .i64 0, .int .i64 0, .bool false, .slice none 0 0] 59)).setCells w.heap.size 0 cs).heap.size :=
  ⟨there_new w #[.int .i64 0, .int .i64 0, .int .i64 0, .int .i64 0, .int .i64 0, .int .i64 0, .int .i64 0, .slice none 0 0, .slice none 0 0, .slice none 0 0, .int .i64 0, .int .i64 0, .int .i64 0, .int .i64 0, .int .i64 0, .slice none 0 0, .int .i64 0, .int .i64 0, .int .i64 0, .int .i64 0, .bool false, .slice none 0 0] 59 cs.length (by rw [h]; rfl), (Bx.new w #[.int .i64 0, .int .i64 0, .int .i64 0, .int .i64 0, .int .i64 0, .int .i64 0, .int .i64 0, .slice none 0 0, .slice none 0 0, .slice none 0 0, .int .i64 0, .int .i64 0, .int .i64 0, .int .i64 0, .int .i64 0, .slice none 0 0, .int .i64 0, .int .i64 0, .int .i64 0, .int .i64 0, .bool false, .slice none 0 0] 59).all (cs := cs) (by rw [h]; rfl), Kp.setCells (Nat.le_refl _) cs 0 _ ((Kp.refl w).alloc _), by rw [setCells_size]; exact alloc_lt w _⟩
theorem Fr.range {S : Nat → Prop} {w w' : World} {b o : Nat} {cs : List Value} (k : Fr S w w') (h : w.rangeAt b o cs) (hn : ¬ S b) : w'.rangeAt b o cs := fun j v hj => k.cellS (h j v hj) hn
set_option maxRecDepth 8000 in
set_option maxHeartbeats 1600000 in
/-- the law's own test -/
theorem sentSame_any (b : Nat) (csx csm : List Value) (x m : Message) (w : World) (hx : rdMsg w csx x) (hr : w.rangeAt b 0 csm) (hm : rdMsg w csm m) (lx : (numMessage x).length ≤ 1000000000) (lm : (numMessage m).length ≤ 1000000000) :
    Calls Try.prog 21 #[.agg csx.toArray, .pointer (some ⟨b, 0, none⟩)] w fun e w' => e = .returned (.bool (decide (numMessage x = numMessage m))) ∧ Kp w w' := by
  obtain ⟨hl, h1⟩ := rdMsg_one hx
  obtain ⟨hl2, -⟩ := rdMsg_one hm
  have k0 := (Kp.refl w).alloc (.cells csx.toArray 34)
  have r0 := range_box w csx 34
  have r1 := k0.range hr
  have hi : (Try.prog.info? 34).map (·.size) = some csx.length := by rw [hl]; kernel_rfl
  have hi2 : (Try.prog.info? 34).map (·.size) = some csm.length := by rw [hl2]; kernel_rfl
  have V0 := rdMsg_stable _ _ _ _ k0 hx
  have V1 := rdMsg_stable _ _ _ _ k0 hm
  clear hx hm hr hl hl2 h1
  go_enter Try.func21, Try.ntmps21
  go_upto_region 1 with (fail)
  generalize w.alloc (.cells csx.toArray 34) = w0 at *
  generalize w.heap.size = b2 at *
  go_wp2_with (first | (refine wpList_load_mid rfl 34 (.tmp 2) rfl b2 0 rfl csx _ r0 Try.underlying34 rfl hi ?_) | (refine wpList_load_mid rfl 34 (.tmp 1) rfl b 0 rfl csm _ r1 Try.underlying34 rfl hi2 ?_))
  refine (SameMessage_any _ _ x m _ V0 V1 lx lm).mono ?_
  rintro e w1 ⟨rfl, k1⟩
  go_wp2
  go_ret
  exact ⟨rfl, k0.trans k1⟩
theorem cntM_step (κ : List Int) (l : List Message) (j : Nat) (h : j < l.length) : cntM κ (l.take (j + 1)) = cntM κ (l.take j) + if numMessage l[j] = κ then 1 else 0 := by
  rw [List.take_succ_eq_append_getElem h, cntM_append]
  congr 1
  unfold cntM
  rw [List.map_cons, List.map_nil, List.count_cons, List.count_nil]
  simp
theorem cntM_len (κ : List Int) (l : List Message) : cntM κ l ≤ l.length := by
  unfold cntM
  have := List.count_le_length (a := κ) (l := l.map numMessage)
  simpa using this
set_option maxRecDepth 100000 in
set_option maxHeartbeats 16000000 in
theorem sent_walk (r : Int) (vf0 vl : Value) (fs : List Fate) (l : List Cmd) (w : World) (hfs : Fates w vf0 fs) (hl : Cmds w vl l) (hb : ∀ x ∈ l, (numMessage x.m).length ≤ 1000000000) (hfl : fs.length ≤ 1000000000) :
    Calls Try.prog 6 #[.int .i64 r, vf0, vl] w fun e w' => e = .returned (.bool true) ∧ Kp w w' := by
  obtain ⟨Af, cf, rfl, hcf, hmf⟩ := hfs.form
  obtain ⟨A, ca, rfl, hca, hma⟩ := hl.form
  have HB := hid hb
  have HL := hid hl
  have HMS := hid (fun k (hk : k < l.length) => hl.cmd hk)
  have HFS := hid hfs
  clear hb hl hfs
  go_enter Try.func6, Try.ntmps6
  go_wp2_with fail
  refine (awake50_any _).mono ?_
  rintro e w1 ⟨rfl, k1⟩
  go_wp2_with fail
  refine (few50L_any _ l 40 _ (HL.out.keep rdCmd_stable k1) HB.out).mono ?_
  rintro e w1b ⟨rfl, k1b⟩
  have k1 := k1.trans k1b
  cases hfw : fewL l 40 with
  | false =>
    go_wp2
    go_ret
    exact ⟨rfl, k1⟩
  | true =>
    have h40 : l.length ≤ 40 := by
      simp only [fewL, Bool.and_eq_true, decide_eq_true_eq] at hfw
      omega
    clear hfw k1b
    go_wp2_with fail
    refine (few50_any Af fs.length cf w1b).mono ?_
    rintro e w2' ⟨rfl, rfl⟩
    by_cases h300 : fs.length ≤ 300
    · rw [decide_eq_true h300]
      go_wp2_with fail
      refine (nNew_any r _ fs _ (HFS.out.keep (pl_stable _) k1) hfl).mono ?_
      rintro e w2 ⟨hres, k2⟩
      have hlo1 := k1.size
      have K2 := k1.trans k2
      rcases hres with ⟨hbad, rfl⟩ | ⟨hgood, nb, mb, vf, rfl, N2⟩
      · go_wp2
        go_ret
        exact ⟨rfl, K2⟩
      · have hB2 := N2.lt
        have hmlt := N2.mlt
        have HMV := hid (fun q (hq : vf.ownBlock = some q) => by have := (N2.ownb q hq).1; exact (by omega : q < w2.heap.size))
        have hlo2 := K2.size
        clear k1 k2 hgood
        go_wp2_with fail
        go_loopw [9, 10, 50] (fun vs va i wr => ∃ (k : Nat) (N : Net) (sent arr : List Message) (sv : Value) (cssS cssA : List (Elm 18)) (S : Nat → Prop), k ≤ l.length ∧ i = .int .i64 (k : Int) ∧ NetW w2'.heap.size nb mb vf sv wr N ∧ Kp w wr ∧ Own encC 34 18 w2.heap.size wr vs cssS ∧ Hid (cssS.length = sent.length ∧ ∀ j (h1 : j < cssS.length) (h2 : j < sent.length), rdMsg w cssS[j].val sent[j]) ∧ NL rdMsg 34 18 S wr va cssA arr ∧ Hid (∀ i, S i → w2.heap.size ≤ i ∧ i < wr.heap.size ∧ ¬ Qm nb mb sv i ∧ vs.ownBlock ≠ some i) ∧ Hid (∀ q, vs.ownBlock = some q → ¬ Qm nb mb sv q) ∧ Hid (SInv k N sent arr) ∧ w2.heap.size ≤ wr.heap.size) (fun _ _ i _ => l.length - (intOf i).toNat)
        case atStart => exact ⟨0, newN r fs, [], [], _, [], [], fun _ => False, Nat.zero_le _, rfl, N2, K2, Own.nil _ _ _ _ _, hid ⟨rfl, fun j h1 _ => absurd h1 (by simp)⟩, NL.nil _ _ _ _ _, hid (fun i h => h.elim), hid (fun q hq => by cases hq), hid ⟨fun κ => by simp [cntM, newN], by simp [newN], by simp [newN], by simp [newN], by simp, by simp [newN], fun x hx => by simp at hx, fun x hx => by simp at hx, fun p hp => by simp [newN] at hp⟩, Nat.le_refl _⟩
        case round =>
          clear N2 K2
          obtain ⟨k, N, sent, arr, sv, cssS, cssA, S, hk, rfl, NW, KW, own, HC, nl, HS, HV, HD, hzw⟩ := hrel
          obtain ⟨A2, c2, rfl, hc2, hm2⟩ := own.form
          by_cases hlt : k < l.length
          · obtain ⟨ga, o, cs, rfl, hg, hcs, hr, hx⟩ := HMS.out k hlt
            have hxb := hid (HB.out _ (List.getElem_mem hlt))
            generalize l[k] = x at *
            have hlk : (k : Int) < (l.length : Int) := by omega
            have hi : (Try.prog.info? 59).map (·.size) = some cs.length := by rw [hcs]; kernel_rfl
            have H1C := hid (rdCmd_one hx).2
            have HX := hid hx
            have hr1 := KW.range hr
            obtain ⟨hth, hbx, kb, hlb⟩ := cmd_box wr cs hcs
            clear hcs hx
            have K5 := KW.trans kb
            have N5 := NW.kp kb
            have O5 := own.kp kb
            have L5 := nl.kp kb
            have hqw := hid NW.qb_lt
            have hmw := hid NW.mblt
            have hvw := hid own.blk_lt
            have hfew := HD.out.few (by omega) NW.ok
            have hcl : cssS.length ≤ 40 := by
              have h1 := HC.out.1
              have h2 := HD.out.c4
              omega
            go_upto_region 12 with (first | (refine wpList_load_mid rfl 59 (.tmp 52) rfl ga (o + k * 22) rfl cs _ hr1 Try.underlying59 rfl hi ?_) | (refine wpList_store_mid rfl 59 (.tmp 12) (.tmp 53) rfl wr.heap.size 0 cs.toArray rfl rfl hth hi (all_oneCell_toArray H1C.out) ?_; generalize (wr.alloc (.cells #[.int .i64 0, .int .i64 0, .int .i64 0, .int .i64 0, .int .i64 0, .int .i64 0, .int .i64 0, .slice none 0 0, .slice none 0 0, .slice none 0 0, .int .i64 0, .int .i64 0, .int .i64 0, .int .i64 0, .int .i64 0, .slice none 0 0, .int .i64 0, .int .i64 0, .int .i64 0, .int .i64 0, .bool false, .slice none 0 0] 59)).setCells wr.heap.size 0 cs = w5 at *))
            have hzb := kb.size
            clear hth hr1 hr NW KW own nl kb
            generalize hbb : wr.heap.size = b2 at *
            have HBB := hid hbb
            clear hbb
            go_wp2_with (refine wpList_load_mid rfl 59 (.tmp 12) rfl b2 0 rfl cs _ hbx.range Try.underlying59 rfl hi ?_)
            refine (doCmd_any _ nb mb vf _ N x cs w5 N5 hfew (rdCmd_stable _ _ _ _ K5 HX.out) (by unfold Room; have := hxb.out; simp; omega)).mono ?_
            rintro e w6 ⟨v6, rfl, sv', top6, css6, N6, fr6, hs6, ht6, own6, em6⟩
            have hnQ : ∀ i, b2 ≤ i → i < w5.heap.size → ¬ Qm nb mb sv i := fun i hi _ hq => by
              rcases hq with h | h
              · have := hqw.out i h
                omega
              · have := hmw.out
                omega
            have K6 := fr6.to_kp K5 fun i hi => by
              rcases hi with h | h
              · exact Nat.le_trans hlo1 (N5.qb_ge i h)
              · have := N5.mlo
                omega
            have O6 := O5.owS w6 fr6.size fun i hi hlt => fr6.block i hlt (HV.out i hi)
            have L6 := L5.step fr6.size fun i hi hlt => fr6.block i hlt (HS.out i hi).2.2.1
            have B6 := hbx.keep (fr6.block b2 hlb (hnQ b2 (Nat.le_refl _) hlb))
            have hb6 := Nat.lt_of_lt_of_le hlb fr6.size
            have hz6 := fr6.size
            have HT6 := hid ht6
            have hQ' : ∀ i, i < b2 → ¬ Qm nb mb sv i → ¬ Qm nb mb sv' i := fun i hlt hn hq => by
              rcases hq with (h | h) | h
              · exact hn (.inl (.inl h))
              · rcases hs6 i h with h | h
                · exact hn (.inl (.inr h))
                · omega
              · exact hn (.inr h)
            have HV6 : Hid (∀ q, (Value.slice A2 cssS.length c2).ownBlock = some q → ¬ Qm nb mb sv' q) := hid fun q hq => hQ' q (hvw.out q hq) (HV.out q hq)
            have HS6 : Hid (∀ i, S i → w2.heap.size ≤ i ∧ i < b2 ∧ ¬ Qm nb mb sv' i ∧ (Value.slice A2 cssS.length c2).ownBlock ≠ some i) := hid fun i hi => by
              obtain ⟨a1, a2, a3, a4⟩ := HS.out i hi
              exact ⟨a1, a2, hQ' i a2 a3, a4⟩
            have HSD := hid (s_do HD.out x hxb.out)
            have hb2w := hlb
            have htop6 := em6.2.2.1
            have hbt6 := em6.2.1
            clear N5 O5 L5 hbx K5 fr6 hnQ hQ' HV HS HD hs6 ht6 hfew hlb hqw hmw
            have HSB : Hid (sentBy N x sent = if x.kind = 0 ∧ (doN N x).2.2 = 0 then sent ++ [x.m] else sent) := hid rfl
            rw [HSB.out] at HSD
            clear HSB
            generalize (doN N x).1 = N' at *
            generalize (doN N x).2.2 = er at *
            generalize (doN N x).2.1 = out at *
            obtain ⟨ms, hce, hms⟩ := HX.out
            have q0 : w6.cell? ⟨b2, 0, none⟩ = some (.int .i64 x.kind) := B6.cell (by rw [hce]; rfl)
            have r4 : w6.rangeAt b2 4 ms := fun j v hj => B6.cell (j := 4 + j) (by
              rw [hce, List.getElem?_append_right (by simp)]
              simpa using hj)
            obtain ⟨h18, h1m⟩ := rdMsg_one hms
            have hi2 : (Try.prog.info? 34).map (·.size) = some ms.length := by rw [h18]; kernel_rfl
            have H18 := hid h18
            have H1M := hid h1m
            clear hce h18 h1m B6
            obtain ⟨kd, tk, xa, xb, m⟩ := x
            dsimp only at HSD hms q0 hxb
            by_cases hk0 : kd = 0
            · have q1 : (kd == 0) = true := by simpa using hk0
              by_cases he0 : er = 0
              · have q2 : (er == 0) = true := by simpa using he0
                have HD7 : Hid (SInv (k + 1) N' (sent ++ [m]) (arr ++ out)) := hid (by have := HSD.out; rwa [if_pos ⟨hk0, he0⟩] at this)
                replace hk0 := hid hk0
                replace he0 := hid he0
                have hfl3 : ms.length = (#[.int .i64 0, .int .i64 0, .int .i64 0, .slice none 0 0, .slice none 0 0, .slice none 0 0, .int .i64 0, .int .i64 0, .int .i64 0, .int .i64 0, .int .i64 0, .slice none 0 0, .int .i64 0, .int .i64 0, .int .i64 0, .int .i64 0, .bool false, .slice none 0 0] : Array Value).size := H18.out
                go_upto_region 15 with (first | (refine wpList_load_mid rfl 34 (.tmp 68) rfl b2 4 rfl ms _ r4 Try.underlying34 rfl hi2 ?_) | (at_builtin; rw [fold_fill #[.int .i64 0, .int .i64 0, .int .i64 0, .slice none 0 0, .slice none 0 0, .slice none 0 0, .int .i64 0, .int .i64 0, .int .i64 0, .int .i64 0, .int .i64 0, .slice none 0 0, .int .i64 0, .int .i64 0, .int .i64 0, .int .i64 0, .bool false, .slice none 0 0] ms hfl3]; refine wpl_append_flat rfl (.tmp 67) (.tmp 70) rfl stMsgM encC_len encC_one rfl (O6.alloc _) rfl (Sl.one (R := Pl encC) w6 _ 34 18 (⟨ms, H18.out, H1M.out⟩ : Elm 18) H18.out rfl) (by simp; omega) (by simp; omega) (by simp; omega) ?_; intro v9 w7 O7 hgrow7 hat7 hnil7; obtain ⟨A7, c7, e7, hc7, hm7⟩ := O7.form; rw [List.length_append, List.length_singleton] at e7; subst e7))
                have kA := (Kp.refl w6).alloc (.cells ms.toArray 34)
                have hsA := World.size_alloc w6 (.cells ms.toArray 34)
                have hgr7 : (w6.alloc (.cells ms.toArray 34)).grownBy w7 (Value.slice A2 cssS.length c2).ownBlock := hgrow7
                have hat7' : (Value.slice A7 (cssS.length + 1) c7).ownBlock = (Value.slice A2 cssS.length c2).ownBlock ∨ (Value.slice A7 (cssS.length + 1) c7).ownBlock = some (w6.alloc (.cells ms.toArray 34)).heap.size := hat7
                clear hgrow7 hat7 hnil7
                have hge6 := O6.ge
                have hq6 := N6.qb_lt
                have hml6 := N6.mlt
                have hfr7 : Fr (fun q => (Value.slice A2 cssS.length c2).ownBlock = some q) (w6.alloc (.cells ms.toArray 34)) w7 := ⟨hgr7.os, hgr7.tape, hgr7.output, hgr7.size, fun i hi hn => hgr7.block i hi (fun e => hn e.symm)⟩
                have N7 := (N6.kp kA).fr hfr7 (fun h => HV6.out nb h (.inl (.inl rfl))) (fun h => HV6.out mb h (.inr rfl)) (fun i hi h => by have := hge6 i h; have := HMV.out i hi; omega) (fun i hi h => HV6.out i h (.inl (.inr hi)))
                have K7 := (K6.trans kA).grown hgr7 (fun i hi => by have := hge6 i hi; omega)
                have NL7 := (L6.kp kA).step hfr7.size fun i hi hlt => hfr7.block i hlt (HS6.out i hi).2.2.2
                have own7 := (own6.kp kA).owS w7 hfr7.size fun i hi hlt => hfr7.block i hlt (fun h => by have := own6.ge i hi; have := hvw.out i h; omega)
                have em7 := (em6.step (w' := w6.alloc (.cells ms.toArray 34)) kA.size fun i _ hi _ => kA.block (by omega)).step (w' := w7) hfr7.size fun i hi1 hi2 _ => hfr7.block i (by omega) (fun h => by have := hvw.out i h; omega)
                have HV7 : Hid (∀ q, (Value.slice A7 (cssS.length + 1) c7).ownBlock = some q → ¬ Qm nb mb sv' q) := hid fun q hq => by
                  rcases hat7' with e | e
                  · rw [e] at hq
                    exact HV6.out q hq
                  · rw [e] at hq
                    injection hq with hq
                    rintro (h | h)
                    · have := hq6 q h
                      omega
                    · omega
                have HS7 : Hid (∀ i, S i → w2.heap.size ≤ i ∧ i < b2 ∧ ¬ Qm nb mb sv' i ∧ (Value.slice A7 (cssS.length + 1) c7).ownBlock ≠ some i) := hid fun i hi => by
                  obtain ⟨a1, a2, a3, a4⟩ := HS6.out i hi
                  refine ⟨a1, a2, a3, fun h => ?_⟩
                  rcases hat7' with e | e
                  · rw [e] at h
                    exact a4 h
                  · rw [e] at h
                    injection h with h
                    omega
                have HR7 : Hid (∀ i, w5.heap.size ≤ i → i < top6 → (Value.slice A7 (cssS.length + 1) c7).ownBlock ≠ some i) := hid fun i h1 h2 h => by
                  rcases hat7' with e | e
                  · rw [e] at h
                    have := hvw.out i h
                    omega
                  · rw [e] at h
                    injection h with h
                    omega
                have HC7 : Hid ((cssS ++ [(⟨ms, H18.out, H1M.out⟩ : Elm 18)]).length = (sent ++ [m]).length ∧ ∀ j (h1 : j < (cssS ++ [(⟨ms, H18.out, H1M.out⟩ : Elm 18)]).length) (h2 : j < (sent ++ [m]).length), rdMsg w (cssS ++ [(⟨ms, H18.out, H1M.out⟩ : Elm 18)])[j].val (sent ++ [m])[j]) := hid (by
                  have hc1 := HC.out.1
                  refine ⟨by simp [hc1], fun j h1 h2 => ?_⟩
                  by_cases hj : j < cssS.length
                  · rw [List.getElem_append_left hj, List.getElem_append_left (by omega)]
                    exact HC.out.2 j hj (by omega)
                  · have e1 : j = cssS.length := by simp at h1; omega
                    subst e1
                    have e2 : (cssS ++ [(⟨ms, H18.out, H1M.out⟩ : Elm 18)])[cssS.length] = ⟨ms, H18.out, H1M.out⟩ := by simp
                    have e3 : (sent ++ [m])[cssS.length]'h2 = m := by simp [hc1]
                    rw [e2, e3]
                    exact hms)
                have hz7 := hfr7.size
                have hzw5 : w2.heap.size ≤ w5.heap.size := by omega
                have h67 : w5.heap.size ≤ w7.heap.size := by omega
                have ht7 : top6 ≤ w7.heap.size := by omega
                obtain ⟨sent7, hs7⟩ : ∃ s7, s7 = sent ++ [m] := ⟨_, rfl⟩
                rw [← hs7] at HC7 HD7
                clear hs7 N6 K6 O6 L6 own6 em6 HV6 HS6 HC HSD kA hgr7 hat7' hge6 hq6 hfr7 hfl3 hsA r4 q0 hz6 htop6
                have hz67 := N7.lt
                obtain ⟨A3, c3, rfl, hc3, hm3⟩ := NL7.own.form
                obtain ⟨A6, c6, rfl, hc6, hm6⟩ := own7.form
                have hbl7 := O7.blk_lt
                have hqb7 := N7.qb_lt
                have hbig : cssA.length + css6.length ≤ 400 := by
                  have h1 := HD7.out.c5
                  have h2 := HD7.out.c3
                  have h3 := NL7.len
                  have h4 := em7.1
                  have h5 := N7.ok.pos
                  rw [List.length_append] at h1
                  omega
                go_upto_region 16 with (at_builtin; refine wpl_append_flat rfl (.tmp 72) (.tmp 73) rfl stMsgM encC_len encC_one rfl NL7.own rfl (own7.sl encC_len) (by omega) (by omega) (Nat.zero_le _) ?_; intro v9 w8 O8 hgrow9 hat9 hnil9; obtain ⟨A9, c9, e9, hc9, hm9⟩ := O8.form; rw [List.length_append] at e9; subst e9)
                have hgr : w7.grownBy w8 (Value.slice A3 cssA.length c3).ownBlock := hgrow9
                have hat : (Value.slice A9 (cssA.length + css6.length) c9).ownBlock = (Value.slice A3 cssA.length c3).ownBlock ∨ (Value.slice A9 (cssA.length + css6.length) c9).ownBlock = some w7.heap.size := hat9
                have NL8 := NL7.appendX (S' := fun i => S i ∨ (w5.heap.size ≤ i ∧ i < top6) ∨ (Value.slice A9 (cssA.length + css6.length) c9).ownBlock = some i) em7 O8 hgr hat (fun i h => .inl h) (fun q h => .inr (.inr h)) (fun i h1 h2 => .inr (.inl ⟨h1, h2⟩)) (fun q hq => by have := (HS7.out q (NL7.blk q hq)).2.1; omega)
                have hfr8 : Fr (fun q => (Value.slice A3 cssA.length c3).ownBlock = some q) w7 w8 := ⟨hgr.os, hgr.tape, hgr.output, hgr.size, fun i hi hn => hgr.block i hi (fun e => hn e.symm)⟩
                have hvS : ∀ q, (Value.slice A3 cssA.length c3).ownBlock = some q → S q := NL7.blk
                have N8 := N7.fr hfr8 (fun h => (HS7.out nb (hvS nb h)).2.2.1 (.inl (.inl rfl))) (fun h => (HS7.out mb (hvS mb h)).2.2.1 (.inr rfl)) (fun i hi h => by have := (HS7.out i (hvS i h)).1; have := HMV.out i hi; omega) (fun i hi h => (HS7.out i (hvS i h)).2.2.1 (.inl (.inr hi)))
                have O8s := O7.owS w8 hfr8.size fun i hi hlt => hfr8.block i hlt (fun h => (HS7.out i (hvS i h)).2.2.2 hi)
                have K8 := K7.grown hgr (fun i hi => by have := (HS7.out i (hvS i hi)).1; omega)
                have hz8 := hgr.size
                have htop7 := em7.2.2.1
                have hlt8 := NL8.own.blk_lt
                have HS8 : Hid (∀ i, (S i ∨ (w5.heap.size ≤ i ∧ i < top6) ∨ (Value.slice A9 (cssA.length + css6.length) c9).ownBlock = some i) → w2.heap.size ≤ i ∧ i < w8.heap.size ∧ ¬ Qm nb mb sv' i ∧ (Value.slice A7 (cssS.length + 1) c7).ownBlock ≠ some i) := hid fun i hi => by
                  rcases hi with hi | hi | hi
                  · obtain ⟨a1, a2, a3, a4⟩ := HS7.out i hi
                    exact ⟨a1, by omega, a3, a4⟩
                  · refine ⟨by omega, by omega, fun h => ?_, HR7.out i hi.1 hi.2⟩
                    rcases h with (h | h) | h
                    · omega
                    · exact HT6.out i hi.1 hi.2 h
                    · omega
                  · have hi8 := hlt8 i hi
                    rcases hat with hh | hh
                    · obtain ⟨a1, a2, a3, a4⟩ := HS7.out i (hvS i (hh ▸ hi))
                      exact ⟨a1, hi8, a3, a4⟩
                    · rw [hh] at hi
                      injection hi with hi
                      subst hi
                      refine ⟨by omega, hi8, fun h => ?_, fun h => ?_⟩
                      · rcases h with h | h
                        · have := hqb7 _ h
                          omega
                        · omega
                      · have := hbl7 _ h
                        omega
                have hzz8 : w2.heap.size ≤ w8.heap.size := by omega
                clear NL7 em7 own7 O7 N7 K7 hgr hat hfr8 hvS hgrow9 hat9 hnil9 O8 hlt8
                go_wp2_with fail
                go_roundw
                case rel => exact ⟨k + 1, N', sent7, arr ++ out, sv', _, _, _, by omega, by go_num, N8, K8, O8s, HC7, NL8, HS8, HV7, HD7, hzz8⟩
                case measure => simp [intOf]; omega
              · have q2 : (er == 0) = false := beq_false_of_ne he0
                have HD7 : Hid (SInv (k + 1) N' sent (arr ++ out)) := hid (by have := HSD.out; rwa [if_neg (fun h => he0 h.2)] at this)
                replace hk0 := hid hk0
                replace he0 := hid he0
                go_upto_region 15 with (fail)
                obtain ⟨w7, rfl⟩ : ∃ w7 : World, w7 = w6 := ⟨_, rfl⟩
                obtain ⟨sent7, rfl⟩ : ∃ s7, s7 = sent := ⟨_, rfl⟩
                have N7 := N6
                have K7 := K6
                have O7 := O6
                have NL7 := L6
                have own7 := own6
                have em7 := em6
                have HV7 := HV6
                have HS7 := HS6
                have HC7 := HC
                have HR7 : Hid (∀ i, w5.heap.size ≤ i → i < top6 → (Value.slice A2 cssS.length c2).ownBlock ≠ some i) := hid fun i h1 h2 h => by
                  have := hvw.out i h
                  omega
                have hzw5 : w2.heap.size ≤ w5.heap.size := by omega
                have hml6 := N6.mlt
                have h67 : w5.heap.size ≤ w7.heap.size := by omega
                have ht7 : top6 ≤ w7.heap.size := by omega
                clear N6 K6 O6 L6 own6 em6 HV6 HS6 HC HSD r4 q0 hz6 htop6
                have hz67 := N7.lt
                obtain ⟨A3, c3, rfl, hc3, hm3⟩ := NL7.own.form
                obtain ⟨A6, c6, rfl, hc6, hm6⟩ := own7.form
                have hbl7 := O7.blk_lt
                have hqb7 := N7.qb_lt
                have hbig : cssA.length + css6.length ≤ 400 := by
                  have h1 := HD7.out.c5
                  have h2 := HD7.out.c3
                  have h3 := NL7.len
                  have h4 := em7.1
                  have h5 := N7.ok.pos
                  rw [List.length_append] at h1
                  omega
                go_upto_region 16 with (at_builtin; refine wpl_append_flat rfl (.tmp 72) (.tmp 73) rfl stMsgM encC_len encC_one rfl NL7.own rfl (own7.sl encC_len) (by omega) (by omega) (Nat.zero_le _) ?_; intro v9 w8 O8 hgrow9 hat9 hnil9; obtain ⟨A9, c9, e9, hc9, hm9⟩ := O8.form; rw [List.length_append] at e9; subst e9)
                have hgr : w7.grownBy w8 (Value.slice A3 cssA.length c3).ownBlock := hgrow9
                have hat : (Value.slice A9 (cssA.length + css6.length) c9).ownBlock = (Value.slice A3 cssA.length c3).ownBlock ∨ (Value.slice A9 (cssA.length + css6.length) c9).ownBlock = some w7.heap.size := hat9
                have NL8 := NL7.appendX (S' := fun i => S i ∨ (w5.heap.size ≤ i ∧ i < top6) ∨ (Value.slice A9 (cssA.length + css6.length) c9).ownBlock = some i) em7 O8 hgr hat (fun i h => .inl h) (fun q h => .inr (.inr h)) (fun i h1 h2 => .inr (.inl ⟨h1, h2⟩)) (fun q hq => by have := (HS7.out q (NL7.blk q hq)).2.1; omega)
                have hfr8 : Fr (fun q => (Value.slice A3 cssA.length c3).ownBlock = some q) w7 w8 := ⟨hgr.os, hgr.tape, hgr.output, hgr.size, fun i hi hn => hgr.block i hi (fun e => hn e.symm)⟩
                have hvS : ∀ q, (Value.slice A3 cssA.length c3).ownBlock = some q → S q := NL7.blk
                have N8 := N7.fr hfr8 (fun h => (HS7.out nb (hvS nb h)).2.2.1 (.inl (.inl rfl))) (fun h => (HS7.out mb (hvS mb h)).2.2.1 (.inr rfl)) (fun i hi h => by have := (HS7.out i (hvS i h)).1; have := HMV.out i hi; omega) (fun i hi h => (HS7.out i (hvS i h)).2.2.1 (.inl (.inr hi)))
                have O8s := O7.owS w8 hfr8.size fun i hi hlt => hfr8.block i hlt (fun h => (HS7.out i (hvS i h)).2.2.2 hi)
                have K8 := K7.grown hgr (fun i hi => by have := (HS7.out i (hvS i hi)).1; omega)
                have hz8 := hgr.size
                have htop7 := em7.2.2.1
                have hlt8 := NL8.own.blk_lt
                have HS8 : Hid (∀ i, (S i ∨ (w5.heap.size ≤ i ∧ i < top6) ∨ (Value.slice A9 (cssA.length + css6.length) c9).ownBlock = some i) → w2.heap.size ≤ i ∧ i < w8.heap.size ∧ ¬ Qm nb mb sv' i ∧ (Value.slice A2 cssS.length c2).ownBlock ≠ some i) := hid fun i hi => by
                  rcases hi with hi | hi | hi
                  · obtain ⟨a1, a2, a3, a4⟩ := HS7.out i hi
                    exact ⟨a1, by omega, a3, a4⟩
                  · refine ⟨by omega, by omega, fun h => ?_, HR7.out i hi.1 hi.2⟩
                    rcases h with (h | h) | h
                    · omega
                    · exact HT6.out i hi.1 hi.2 h
                    · omega
                  · have hi8 := hlt8 i hi
                    rcases hat with hh | hh
                    · obtain ⟨a1, a2, a3, a4⟩ := HS7.out i (hvS i (hh ▸ hi))
                      exact ⟨a1, hi8, a3, a4⟩
                    · rw [hh] at hi
                      injection hi with hi
                      subst hi
                      refine ⟨by omega, hi8, fun h => ?_, fun h => ?_⟩
                      · rcases h with h | h
                        · have := hqb7 _ h
                          omega
                        · omega
                      · have := hbl7 _ h
                        omega
                have hzz8 : w2.heap.size ≤ w8.heap.size := by omega
                clear NL7 em7 own7 O7 N7 K7 hgr hat hfr8 hvS hgrow9 hat9 hnil9 O8 hlt8
                go_wp2_with fail
                go_roundw
                case rel => exact ⟨k + 1, N', sent7, arr ++ out, sv', _, _, _, by omega, by go_num, N8, K8, O8s, HC7, NL8, HS8, HV7, HD7, hzz8⟩
                case measure => simp [intOf]; omega
            · have q1 : (kd == 0) = false := beq_false_of_ne hk0
              have HD7 : Hid (SInv (k + 1) N' sent (arr ++ out)) := hid (by have := HSD.out; rwa [if_neg (fun h => hk0 h.1)] at this)
              replace hk0 := hid hk0
              go_upto_region 15 with (fail)
              obtain ⟨w7, rfl⟩ : ∃ w7 : World, w7 = w6 := ⟨_, rfl⟩
              obtain ⟨sent7, rfl⟩ : ∃ s7, s7 = sent := ⟨_, rfl⟩
              have N7 := N6
              have K7 := K6
              have O7 := O6
              have NL7 := L6
              have own7 := own6
              have em7 := em6
              have HV7 := HV6
              have HS7 := HS6
              have HC7 := HC
              have HR7 : Hid (∀ i, w5.heap.size ≤ i → i < top6 → (Value.slice A2 cssS.length c2).ownBlock ≠ some i) := hid fun i h1 h2 h => by
                have := hvw.out i h
                omega
              have hzw5 : w2.heap.size ≤ w5.heap.size := by omega
              have hml6 := N6.mlt
              have h67 : w5.heap.size ≤ w7.heap.size := by omega
              have ht7 : top6 ≤ w7.heap.size := by omega
              clear N6 K6 O6 L6 own6 em6 HV6 HS6 HC HSD r4 q0 hz6 htop6
              have hz67 := N7.lt
              obtain ⟨A3, c3, rfl, hc3, hm3⟩ := NL7.own.form
              obtain ⟨A6, c6, rfl, hc6, hm6⟩ := own7.form
              have hbl7 := O7.blk_lt
              have hqb7 := N7.qb_lt
              have hbig : cssA.length + css6.length ≤ 400 := by
                have h1 := HD7.out.c5
                have h2 := HD7.out.c3
                have h3 := NL7.len
                have h4 := em7.1
                have h5 := N7.ok.pos
                rw [List.length_append] at h1
                omega
              go_upto_region 16 with (at_builtin; refine wpl_append_flat rfl (.tmp 72) (.tmp 73) rfl stMsgM encC_len encC_one rfl NL7.own rfl (own7.sl encC_len) (by omega) (by omega) (Nat.zero_le _) ?_; intro v9 w8 O8 hgrow9 hat9 hnil9; obtain ⟨A9, c9, e9, hc9, hm9⟩ := O8.form; rw [List.length_append] at e9; subst e9)
              have hgr : w7.grownBy w8 (Value.slice A3 cssA.length c3).ownBlock := hgrow9
              have hat : (Value.slice A9 (cssA.length + css6.length) c9).ownBlock = (Value.slice A3 cssA.length c3).ownBlock ∨ (Value.slice A9 (cssA.length + css6.length) c9).ownBlock = some w7.heap.size := hat9
              have NL8 := NL7.appendX (S' := fun i => S i ∨ (w5.heap.size ≤ i ∧ i < top6) ∨ (Value.slice A9 (cssA.length + css6.length) c9).ownBlock = some i) em7 O8 hgr hat (fun i h => .inl h) (fun q h => .inr (.inr h)) (fun i h1 h2 => .inr (.inl ⟨h1, h2⟩)) (fun q hq => by have := (HS7.out q (NL7.blk q hq)).2.1; omega)
              have hfr8 : Fr (fun q => (Value.slice A3 cssA.length c3).ownBlock = some q) w7 w8 := ⟨hgr.os, hgr.tape, hgr.output, hgr.size, fun i hi hn => hgr.block i hi (fun e => hn e.symm)⟩
              have hvS : ∀ q, (Value.slice A3 cssA.length c3).ownBlock = some q → S q := NL7.blk
              have N8 := N7.fr hfr8 (fun h => (HS7.out nb (hvS nb h)).2.2.1 (.inl (.inl rfl))) (fun h => (HS7.out mb (hvS mb h)).2.2.1 (.inr rfl)) (fun i hi h => by have := (HS7.out i (hvS i h)).1; have := HMV.out i hi; omega) (fun i hi h => (HS7.out i (hvS i h)).2.2.1 (.inl (.inr hi)))
              have O8s := O7.owS w8 hfr8.size fun i hi hlt => hfr8.block i hlt (fun h => (HS7.out i (hvS i h)).2.2.2 hi)
              have K8 := K7.grown hgr (fun i hi => by have := (HS7.out i (hvS i hi)).1; omega)
              have hz8 := hgr.size
              have htop7 := em7.2.2.1
              have hlt8 := NL8.own.blk_lt
              have HS8 : Hid (∀ i, (S i ∨ (w5.heap.size ≤ i ∧ i < top6) ∨ (Value.slice A9 (cssA.length + css6.length) c9).ownBlock = some i) → w2.heap.size ≤ i ∧ i < w8.heap.size ∧ ¬ Qm nb mb sv' i ∧ (Value.slice A2 cssS.length c2).ownBlock ≠ some i) := hid fun i hi => by
                rcases hi with hi | hi | hi
                · obtain ⟨a1, a2, a3, a4⟩ := HS7.out i hi
                  exact ⟨a1, by omega, a3, a4⟩
                · refine ⟨by omega, by omega, fun h => ?_, HR7.out i hi.1 hi.2⟩
                  rcases h with (h | h) | h
                  · omega
                  · exact HT6.out i hi.1 hi.2 h
                  · omega
                · have hi8 := hlt8 i hi
                  rcases hat with hh | hh
                  · obtain ⟨a1, a2, a3, a4⟩ := HS7.out i (hvS i (hh ▸ hi))
                    exact ⟨a1, hi8, a3, a4⟩
                  · rw [hh] at hi
                    injection hi with hi
                    subst hi
                    refine ⟨by omega, hi8, fun h => ?_, fun h => ?_⟩
                    · rcases h with h | h
                      · have := hqb7 _ h
                        omega
                      · omega
                    · have := hbl7 _ h
                      omega
              have hzz8 : w2.heap.size ≤ w8.heap.size := by omega
              clear NL7 em7 own7 O7 N7 K7 hgr hat hfr8 hvS hgrow9 hat9 hnil9 O8 hlt8
              go_wp2_with fail
              go_roundw
              case rel => exact ⟨k + 1, N', sent7, arr ++ out, sv', _, _, _, by omega, by go_num, N8, K8, O8s, HC7, NL8, HS8, HV7, HD7, hzz8⟩
              case measure => simp [intOf]; omega
          · have hlk : ¬ (k : Int) < (l.length : Int) := by omega
            have SS := sent_sl own HC.out KW
            have SA := nl.sl
            obtain ⟨A3, c3, rfl, hc3, hm3⟩ := nl.own.form
            have hnS := HC.out.1
            have hnA := nl.len
            have hl1 : sent.length ≤ 40 := by have := HD.out.c4; omega
            have hl2 : arr.length ≤ 400 := by
              have h1 := HD.out.c5
              have h2 := HD.out.c3
              have h3 := NW.ok.pos
              omega
            have HCN := hid HD.out.cnt
            have HB1 := hid HD.out.b1
            have HB2 := hid HD.out.b2
            clear own nl HC HS HV HD NW HMS HB HL HFS
            generalize cssS.length = nS at *
            generalize cssA.length = nA at *
            subst hnS hnA
            have HSS := hid SS
            have HSA := hid SA
            clear SS SA
            obtain ⟨wo, rfl⟩ : ∃ wo : World, wo = wr := ⟨_, rfl⟩
            go_wp2_with fail
            go_loopw [78] (fun i wr => ∃ ka : Nat, ka ≤ arr.length ∧ i = .int .i64 (ka : Int) ∧ Kp wo wr) (fun i _ => arr.length - (intOf i).toNat)
            case atStart => exact ⟨0, Nat.zero_le _, rfl, Kp.refl _⟩
            case round =>
              obtain ⟨ka, hka, rfl, kr⟩ := hrel
              by_cases hkl : ka < arr.length
              · obtain ⟨gm, om, cm, hAm, hgm, hcm, hrm, hvm⟩ := (HSA.out.keep rdMsg_stable kr).msg hkl
                subst hAm
                have hlm := hid (HB2.out _ (List.getElem_mem hkl))
                generalize arr[ka] = m at *
                have hmk : (ka : Int) < (arr.length : Int) := by omega
                have him : (Try.prog.info? 34).map (·.size) = some cm.length := by rw [hcm]; kernel_rfl
                have H1M := hid (rdMsg_one (w := wr) (x := m) hvm).2
                obtain ⟨hthm, hbxm, kbm, hlbm⟩ := msg_box wr cm hcm
                clear hcm
                have kq := kr.trans kbm
                have hmq := rdMsg_stable _ _ _ _ kbm hvm
                have hrq := hbxm.range
                go_upto_region 20 with (first | (refine wpList_load_mid rfl 34 (.tmp 80) rfl gm (om + ka * 18) rfl cm _ hrm Try.underlying34 rfl him ?_) | (refine wpList_store_mid rfl 34 (.tmp 16) (.tmp 81) rfl wr.heap.size 0 cm.toArray rfl rfl hthm him (all_oneCell_toArray H1M.out) ?_; generalize (wr.alloc (.cells #[.int .i64 0, .int .i64 0, .int .i64 0, .slice none 0 0, .slice none 0 0, .slice none 0 0, .int .i64 0, .int .i64 0, .int .i64 0, .int .i64 0, .int .i64 0, .slice none 0 0, .int .i64 0, .int .i64 0, .int .i64 0, .int .i64 0, .bool false, .slice none 0 0] 34)).setCells wr.heap.size 0 cm = wq at *))
                clear hthm hrm hvm hbxm kbm kr
                generalize wr.heap.size = bm at *
                have HK1 := hid hka
                clear hka
                go_wp2_with fail
                go_loopw [18, 85] (fun cv iv wr => ∃ j : Nat, j ≤ (sent).length ∧ iv = .int .i64 (j : Int) ∧ Hid (cv = .int .i64 ((cntM (numMessage m) ((sent).take j) : Nat) : Int)) ∧ Kp wq wr) (fun _ iv _ => (sent).length - (intOf iv).toNat)
                case atStart => exact ⟨0, Nat.zero_le _, rfl, hid (by simp [cntM]), Kp.refl _⟩
                case round =>
                  obtain ⟨j, hj, rfl, HCV, hjr⟩ := hrel
                  obtain rfl := HCV.out
                  by_cases hjl : j < (sent).length
                  · have kj := kq.trans hjr
                    obtain ⟨gj, oj, cj, hAj, hgj, hcj, hrj, hvj⟩ := ((HSS).out.keep rdMsg_stable kj).msg hjl
                    first | subst hAj | (injection hAj with hAj; injection hAj with a1 a2; subst a1 a2)
                    have hST := hid (cntM_step (numMessage m) (sent) j hjl)
                    have hbj := hid ((HB1).out _ (List.getElem_mem hjl))
                    have hcl := cntM_len (numMessage m) ((sent).take j)
                    have hcl2 : cntM (numMessage m) ((sent).take j) ≤ 400 := by
                      rw [List.length_take] at hcl
                      omega
                    clear hcl HCV
                    generalize (sent)[j] = y at *
                    generalize cntM (numMessage m) ((sent).take j) = cn at *
                    have hjk : (j : Int) < ((sent).length : Int) := by omega
                    have hij : (Try.prog.info? 34).map (·.size) = some cj.length := by rw [hcj]; kernel_rfl
                    have H1J := hid (rdMsg_one (w := wr) (x := y) hvj).2
                    obtain ⟨hthj, hbxj, kbj, hlbj⟩ := msg_box wr cj hcj
                    clear hcj
                    have kjb := hjr.trans kbj
                    have hvb := rdMsg_stable _ _ _ _ kbj hvj
                    have hmb := rdMsg_stable _ _ _ _ kjb hmq
                    have hrb := kjb.range hrq
                    go_upto_region 25 with (first | (refine wpList_load_mid rfl 34 (.tmp 87) rfl _ _ rfl cj _ hrj Try.underlying34 rfl hij ?_) | (refine wpList_store_mid rfl 34 (.tmp 21) (.tmp 88) rfl wr.heap.size 0 cj.toArray rfl rfl hthj hij (all_oneCell_toArray H1J.out) ?_; generalize (wr.alloc (.cells #[.int .i64 0, .int .i64 0, .int .i64 0, .slice none 0 0, .slice none 0 0, .slice none 0 0, .int .i64 0, .int .i64 0, .int .i64 0, .int .i64 0, .int .i64 0, .slice none 0 0, .int .i64 0, .int .i64 0, .int .i64 0, .int .i64 0, .bool false, .slice none 0 0] 34)).setCells wr.heap.size 0 cj = wj at *))
                    clear hthj hrj hvj
                    generalize wr.heap.size = bj at *
                    go_wp2_with (refine wpList_load_mid rfl 34 (.tmp 21) rfl bj 0 rfl cj _ hbxj.range Try.underlying34 rfl hij ?_)
                    refine (sentSame_any bm cj cm y m _ hvb hrb hmb hbj.out hlm.out).mono ?_
                    rintro e wj2 ⟨rfl, kj2⟩
                    have kjf := kjb.trans kj2
                    clear hbxj hvb hmb hrb kbj kjb kj2
                    by_cases hye : numMessage y = numMessage m
                    · rw [decide_eq_true hye]
                      have HN : Hid (cntM (numMessage m) ((sent).take (j + 1)) = cn + 1) := hid (by rw [hST.out, if_pos hye])
                      replace hye := hid hye
                      go_wp2_with fail
                      go_roundw
                      case rel => exact ⟨j + 1, by omega, by go_num, hid (by rw [HN.out]; rfl), kjf⟩
                      case measure => simp [intOf]; omega
                    · rw [decide_eq_false hye]
                      have HN : Hid (cntM (numMessage m) ((sent).take (j + 1)) = cn) := hid (by rw [hST.out, if_neg hye]; rfl)
                      replace hye := hid hye
                      go_wp2_with fail
                      go_roundw
                      case rel => exact ⟨j + 1, by omega, by go_num, hid (by rw [HN.out]), kjf⟩
                      case measure => simp [intOf]; omega
                  have hjk : ¬ (j : Int) < ((sent).length : Int) := by omega
                  have HT : Hid ((sent).take j = sent) := hid (List.take_of_length_le (by omega))
                  rw [HT.out]
                  clear HCV HT
                  have hmq2 := rdMsg_stable _ _ _ _ hjr hmq
                  have hrq2 := hjr.range hrq
                  have kq3 := kq.trans hjr
                  clear hmq hrq kq hjr
                  obtain ⟨wq, rfl⟩ : ∃ wq : World, wq = wr := ⟨_, rfl⟩
                  have hmq := hmq2
                  have hrq := hrq2
                  have kq := kq3
                  clear hmq2 hrq2 kq3
                  have hoc := cntM_len (numMessage m) sent
                  have HCM := hid (HCN.out (numMessage m))
                  generalize cntM (numMessage m) sent = oc at *
                  go_wp2_with fail
                  go_loopw [19, 97] (fun cv iv wr => ∃ j : Nat, j ≤ (arr).length ∧ iv = .int .i64 (j : Int) ∧ Hid (cv = .int .i64 ((cntM (numMessage m) ((arr).take j) : Nat) : Int)) ∧ Kp wq wr) (fun _ iv _ => (arr).length - (intOf iv).toNat)
                  case atStart => exact ⟨0, Nat.zero_le _, rfl, hid (by simp [cntM]), Kp.refl _⟩
                  case round =>
                    obtain ⟨j, hj, rfl, HCV, hjr⟩ := hrel
                    obtain rfl := HCV.out
                    by_cases hjl : j < (arr).length
                    · have kj := kq.trans hjr
                      obtain ⟨gj, oj, cj, hAj, hgj, hcj, hrj, hvj⟩ := ((HSA).out.keep rdMsg_stable kj).msg hjl
                      first | subst hAj | (injection hAj with hAj; injection hAj with a1 a2; subst a1 a2)
                      have hST := hid (cntM_step (numMessage m) (arr) j hjl)
                      have hbj := hid ((HB2).out _ (List.getElem_mem hjl))
                      have hcl := cntM_len (numMessage m) ((arr).take j)
                      have hcl2 : cntM (numMessage m) ((arr).take j) ≤ 400 := by
                        rw [List.length_take] at hcl
                        omega
                      clear hcl HCV
                      generalize (arr)[j] = y at *
                      generalize cntM (numMessage m) ((arr).take j) = cn at *
                      have hjk : (j : Int) < ((arr).length : Int) := by omega
                      have hij : (Try.prog.info? 34).map (·.size) = some cj.length := by rw [hcj]; kernel_rfl
                      have H1J := hid (rdMsg_one (w := wr) (x := y) hvj).2
                      obtain ⟨hthj, hbxj, kbj, hlbj⟩ := msg_box wr cj hcj
                      clear hcj
                      have kjb := hjr.trans kbj
                      have hvb := rdMsg_stable _ _ _ _ kbj hvj
                      have hmb := rdMsg_stable _ _ _ _ kjb hmq
                      have hrb := kjb.range hrq
                      go_upto_region 31 with (first | (refine wpList_load_mid rfl 34 (.tmp 99) rfl _ _ rfl cj _ hrj Try.underlying34 rfl hij ?_) | (refine wpList_store_mid rfl 34 (.tmp 23) (.tmp 100) rfl wr.heap.size 0 cj.toArray rfl rfl hthj hij (all_oneCell_toArray H1J.out) ?_; generalize (wr.alloc (.cells #[.int .i64 0, .int .i64 0, .int .i64 0, .slice none 0 0, .slice none 0 0, .slice none 0 0, .int .i64 0, .int .i64 0, .int .i64 0, .int .i64 0, .int .i64 0, .slice none 0 0, .int .i64 0, .int .i64 0, .int .i64 0, .int .i64 0, .bool false, .slice none 0 0] 34)).setCells wr.heap.size 0 cj = wj at *))
                      clear hthj hrj hvj
                      generalize wr.heap.size = bj at *
                      go_wp2_with (refine wpList_load_mid rfl 34 (.tmp 23) rfl bj 0 rfl cj _ hbxj.range Try.underlying34 rfl hij ?_)
                      refine (sentSame_any bm cj cm y m _ hvb hrb hmb hbj.out hlm.out).mono ?_
                      rintro e wj2 ⟨rfl, kj2⟩
                      have kjf := kjb.trans kj2
                      clear hbxj hvb hmb hrb kbj kjb kj2
                      by_cases hye : numMessage y = numMessage m
                      · rw [decide_eq_true hye]
                        have HN : Hid (cntM (numMessage m) ((arr).take (j + 1)) = cn + 1) := hid (by rw [hST.out, if_pos hye])
                        replace hye := hid hye
                        go_wp2_with fail
                        go_roundw
                        case rel => exact ⟨j + 1, by omega, by go_num, hid (by rw [HN.out]; rfl), kjf⟩
                        case measure => simp [intOf]; omega
                      · rw [decide_eq_false hye]
                        have HN : Hid (cntM (numMessage m) ((arr).take (j + 1)) = cn) := hid (by rw [hST.out, if_neg hye]; rfl)
                        replace hye := hid hye
                        go_wp2_with fail
                        go_roundw
                        case rel => exact ⟨j + 1, by omega, by go_num, hid (by rw [HN.out]), kjf⟩
                        case measure => simp [intOf]; omega
                    have hjk : ¬ (j : Int) < ((arr).length : Int) := by omega
                    have HT : Hid ((arr).take j = arr) := hid (List.take_of_length_le (by omega))
                    rw [HT.out]
                    clear HCV HT
                    have hca := cntM_len (numMessage m) arr
                    have hle : cntM (numMessage m) arr ≤ 2 * oc := by have := HCM.out; omega
                    generalize cntM (numMessage m) arr = ac at *
                    have hoc2 : oc ≤ 40 := by omega
                    have hac2 : ac ≤ 400 := by omega
                    have e9 : decide (2 * (oc : Int) < (ac : Int)) = false := decide_eq_false (by omega)
                    have kF := kq.trans hjr
                    clear hmq hrq kq hjr hca HCM
                    go_wp2_with fail
                    go_roundw
                    case rel => exact ⟨ka + 1, by omega, by go_num, kF⟩
                    case measure => simp [intOf]; omega
              · have hmk : ¬ (ka : Int) < (arr.length : Int) := by omega
                have KF := KW.trans kr
                go_wp2
                go_ret
                exact ⟨rfl, KF⟩
    · rw [decide_eq_false h300]
      go_wp2
      go_ret
      exact ⟨rfl, k1⟩
end Go.Proofs.Ytmokpnkpfodppaa
