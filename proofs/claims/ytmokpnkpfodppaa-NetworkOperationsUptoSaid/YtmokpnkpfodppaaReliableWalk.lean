
/-
Without fates and cuts each message arrives once, one tick later, in order: the walk.
-/
import Derived.Test.YtmokpnkpfodppaaNE
import Derived.Deep.Cut
namespace Go.Proofs.Ytmokpnkpfodppaa
set_option linter.unusedSimpArgs false
set_option linter.unusedVariables false
open Go.RowKit

/-- a box of a message made new and filled -/
theorem msg_box (w : World) (cs : List Value) (h : cs.length = 18) :
    (w.alloc (.cells #[.int .i64 0, .int .i64 0, .int .i64 0, .slice none 0 0, .slice none 0 0, .slice none 0 0, .int .i64 0, .int .i64 0, .int .i64 0, .int .i64 0, .int .i64 0, .slice none 0 0, .int .i64 0, .int .i64 0, .int .i64 0, .int .i64 0, .bool false, .slice none 0 0] 34)).there w.heap.size 0 cs.length ∧ Bx ((w.alloc (.cells #[.int .i64 0, .int .i64 0, .int .i64 0, .slice none 0 0, .slice none 0 0, .slice none 0 0, .int .i64 0, .int .i64 0, .int .i64 0, .int .i64 0, .int .i64 0, .slice none 0 0, .int .i64 0, .int .i64 0, .int .i64 0, .int .i64 0, .bool false, .slice none 0 0] 34)).setCells w.heap.size 0 cs) w.heap.size cs ∧ Kp w ((w.alloc (.cells #[.int .i64 0, .int .i64 0, .int .i64 0, .slice none 0 0, .slice none 0 0, .slice none 0 0, .int .i64 0, .int .i64 0, .int .i64 0, .int .i64 0, .int .i64 0, .slice none 0 0, .int .i64 0, .int .i64 0, .int .i64 0, .int .i64 0, .bool false, .slice none 0 0] 34)).setCells w.heap.size 0 cs) ∧ w.heap.size < ((w.alloc (.cells #[.int .i64 0, .int .i64 0, .int .i64 0, .slice none 0 0, .slice none 0 0, .slice none 0 0, .int .i64 0, .int .i64 0, .int .i64 0, .int .i64 0, .int .i64 0, .slice none 0 0, .int .i64 0, .int .i64 0, .int .i64 0, .int .i64 0, .bool false, .slice none 0 0] 34)).setCells w.heap.size 0 cs).heap.size :=
  ⟨there_new w #[.int .i64 0, .int .i64 0, .int .i64 0, .slice none 0 0, .slice none 0 0, .slice none 0 0, .int .i64 0, .int .i64 0, .int .i64 0, .int .i64 0, .int .i64 0, .slice none 0 0, .int .i64 0, .int .i64 0, .int .i64 0, .int .i64 0, .bool false, .slice none 0 0] 34 cs.length (by rw [h]; rfl), (Bx.new w #[.int .i64 0, .int .i64 0, .int .i64 0, .slice none 0 0, .slice none 0 0, .slice none 0 0, .int .i64 0, .int .i64 0, .int .i64 0, .int .i64 0, .int .i64 0, .slice none 0 0, .int .i64 0, .int .i64 0, .int .i64 0, .int .i64 0, .bool false, .slice none 0 0] 34).all (cs := cs) (by rw [h]; rfl), Kp.setCells (Nat.le_refl _) cs 0 _ ((Kp.refl w).alloc _), by rw [setCells_size]; exact alloc_lt w _⟩
theorem sameM_self (xs : List Message) : sameM xs xs = true := by simp [sameM]
theorem div_three (k : Nat) : (k : Int).tdiv 3 = ((k / 3 : Nat) : Int) := by
  rw [Int.tdiv_eq_ediv_of_nonneg (by omega)]
  omega
theorem mod_three (k : Nat) : (k : Int).tmod 3 = ((k % 3 : Nat) : Int) := by
  rw [Int.tmod_eq_emod_of_nonneg (by omega)]
  omega
/-- the row of what was sent, read -/
theorem sent_sl {w w' : World} {e base : Nat} {v : Value} {css : List (Elm 18)} {sent : List Message} (own : Own encC e 18 base w' v css) (h : css.length = sent.length ∧ ∀ j (h1 : j < css.length) (h2 : j < sent.length), rdMsg w css[j].val sent[j]) (k : Kp w w') : Msgs w' v sent :=
  sl_of (own.sl encC_len) h.1 fun j h1 h2 => rdMsg_stable _ _ _ _ k (h.2 j h1 h2)
set_option maxRecDepth 100000 in
set_option maxHeartbeats 8000000 in
theorem reliable_walk (r : Int) (vl : Value) (l : List Message) (w : World) (hl : Msgs w vl l) (hb : ∀ x ∈ l, (numMessage x).length ≤ 1000000000) : Calls Try.prog 3 #[.int .i64 r, vl] w fun e w' => e = .returned (.bool true) ∧ Kp w w' := by
  obtain ⟨A, ca, rfl, hca, hma⟩ := hl.form
  have HB := hid hb
  have HMS := hid (fun k (hk : k < l.length) => hl.msg hk)
  clear hb hl
  go_enter Try.func3, Try.ntmps3
  go_wp2_with fail
  refine (awake50_any _).mono ?_
  rintro e w1 ⟨rfl, k1⟩
  by_cases h40 : 40 < l.length
  · have e1 : decide (40 < (l.length : Int)) = true := decide_eq_true (by omega)
    go_wp2
    go_ret
    exact ⟨rfl, k1⟩
  · have e1 : decide (40 < (l.length : Int)) = false := decide_eq_false (by omega)
    go_wp2_with fail
    go_loopw [21] (fun i wr => ∃ k : Nat, k ≤ l.length ∧ i = .int .i64 (k : Int) ∧ Kp w wr) (fun i _ => l.length - (intOf i).toNat)
    case atStart => exact ⟨0, Nat.zero_le _, rfl, k1⟩
    case round =>
      clear k1
      obtain ⟨k, hk, rfl, hkr⟩ := hrel
      by_cases hlt : k < l.length
      · obtain ⟨g, o, cs, rfl, hg, hcs, hr, hv⟩ := HMS.out k hlt
        have hx := hid (HB.out _ (List.getElem_mem hlt))
        generalize l[k] = x at *
        have hlk : (k : Int) < (l.length : Int) := by omega
        have hi : (Try.prog.info? 34).map (·.size) = some cs.length := by rw [hcs]; kernel_rfl
        have H1C := hid (rdMsg_one (w := w) (x := x) hv).2
        have hr1 := hkr.range hr
        obtain ⟨hth, hbx, kb, hlb⟩ := msg_box wr cs hcs
        have HCS := hid hcs
        clear hcs
        have kk := hkr.trans kb
        go_upto_region 8 with (first | (refine wpList_load_mid rfl 34 (.tmp 23) rfl g (o + k * 18) rfl cs _ hr1 Try.underlying34 rfl hi ?_) | (refine wpList_store_mid rfl 34 (.tmp 6) (.tmp 24) rfl wr.heap.size 0 cs.toArray rfl rfl hth hi (all_oneCell_toArray H1C.out) ?_; generalize (wr.alloc (.cells #[.int .i64 0, .int .i64 0, .int .i64 0, .slice none 0 0, .slice none 0 0, .slice none 0 0, .int .i64 0, .int .i64 0, .int .i64 0, .int .i64 0, .int .i64 0, .slice none 0 0, .int .i64 0, .int .i64 0, .int .i64 0, .int .i64 0, .bool false, .slice none 0 0] 34)).setCells wr.heap.size 0 cs = w2 at *))
        clear hth hr1 hr
        generalize wr.heap.size = b2 at *
        go_wp2_with (refine wpList_load_mid rfl 34 (.tmp 6) rfl b2 0 rfl cs _ hbx.range Try.underlying34 rfl hi ?_)
        refine (nMessage_any _ x _ (hv.kp kk) hx.out).mono ?_
        rintro e w3 ⟨v3, rfl, own3, k3⟩
        obtain ⟨A3, c3, rfl, hc3, hm3⟩ := own3.form
        have k9 := kk.trans k3
        clear own3 hbx kb kk k3 hkr
        by_cases h100 : 100 < (numMessage x).length
        · have e3 : decide (100 < ((numMessage x).length : Int)) = true := decide_eq_true (by omega)
          go_wp2
          go_ret
          exact ⟨rfl, k9⟩
        · have e3 : decide (100 < ((numMessage x).length : Int)) = false := decide_eq_false (by omega)
          go_wp2_with fail
          go_roundw
          case rel => exact ⟨k + 1, by omega, by go_num, k9⟩
          case measure => simp [intOf]; omega
      · have hlk : ¬ (k : Int) < (l.length : Int) := by omega
        clear hk hlt
        go_wp2_with fail
        refine (nNew_any r _ [] _ (Sl.nil _ _ _) (by simp)).mono ?_
        rintro e w2 ⟨hres, k2⟩
        have k2' := hkr.trans k2
        rcases hres with ⟨hbad, rfl⟩ | ⟨hgood, nb, mb, vf, rfl, N2⟩
        · have hbad' : (decide (r < 1) || decide (5 < r)) = true := by simpa [badNew] using hbad
          clear hbad
          cases hr1 : decide (r < 1) with
          | true =>
            go_wp2
            go_ret
            exact ⟨rfl, k2'⟩
          | false =>
            have hr2 : decide (5 < r) = true := by simpa [hr1] using hbad'
            go_wp2
            go_ret
            exact ⟨rfl, k2'⟩
        · clear hgood
          have hlo := hkr.size
          have hB2 := N2.lt
          have hmv : ∀ q, vf.ownBlock = some q → q < w2.heap.size := fun q hq => by have := (N2.ownb q hq).1; omega
          have HMV := hid hmv
          have hmm := N2.mlt
          clear hkr k2 hmv
          obtain ⟨wo, rfl⟩ : ∃ wo : World, wo = wr := ⟨_, rfl⟩
          go_wp2_with fail
          go_loopw [9, 53] (fun v i w3 => ∃ (k : Nat) (N : Net) (sent : List Message) (sv : Value) (css : List (Elm 18)), k ≤ l.length ∧ i = .int .i64 (k : Int) ∧ NetW wo.heap.size nb mb vf sv w3 N ∧ Kp w w3 ∧ Own encC 34 18 w2.heap.size w3 v css ∧ Hid (css.length = sent.length ∧ ∀ j (h1 : j < css.length) (h2 : j < sent.length), rdMsg w css[j].val sent[j]) ∧ Hid (∀ q, v.ownBlock = some q → sv.ownBlock ≠ some q) ∧ Hid (k < l.length → RInv r (k / 3) k N sent) ∧ Hid (∀ x ∈ sent, (numMessage x).length ≤ 1000000000) ∧ w2.heap.size ≤ w3.heap.size) (fun _ i _ => l.length - (intOf i).toNat)
          case atStart => exact ⟨0, newN r [], [], _, [], Nat.zero_le _, rfl, N2, k2', Own.nil _ _ _ _ _, hid ⟨rfl, fun j h1 _ => absurd h1 (by simp)⟩, hid (fun q hq => by cases hq), hid (fun _ => ⟨rfl, rfl, rfl, Int.le_refl _, fun p hp => by simp [newN] at hp, rfl, Int.le_refl _, Int.le_refl _, by simp [newN], Int.le_refl _⟩), hid (fun x hx => by simp at hx), Nat.le_refl _⟩
          case round =>
            clear N2 k2'
            obtain ⟨k, N, sent, sv, css, hk, rfl, NW, KW, own, HC, HV, HR, HX, hzw⟩ := hrel
            obtain ⟨A2, c2, rfl, hc2, hm2⟩ := own.form
            by_cases hlt : k < l.length
            · have HR := hid (HR.out hlt)
              obtain ⟨ga, o, cs, rfl, hg, hcs, hr, hv⟩ := HMS.out k hlt
              have hx := hid (HB.out _ (List.getElem_mem hlt))
              have hml := List.getElem_mem hlt
              generalize l[k] = x at *
              have hlk : (k : Int) < (l.length : Int) := by omega
              have hi : (Try.prog.info? 34).map (·.size) = some cs.length := by rw [hcs]; kernel_rfl
              have H1C := hid (rdMsg_one (w := w) (x := x) hv).2
              have hr1 := KW.range hr
              obtain ⟨hth, hbx, kb, hlb⟩ := msg_box wr cs hcs
              have HCS := hid hcs
              clear hcs
              have hdv := div_three k
              have hmd := mod_three k
              have HG0 : Hid (k = 3 * (k / 3) + k % 3 ∧ k % 3 < 3 ∧ k / 3 ≤ 13) := hid (by omega)
              have hq3 : k % 3 < 3 := by omega
              generalize k / 3 = g at *
              generalize k % 3 = q at *
              have HG : Hid (k = 3 * g + q ∧ q < 3 ∧ g ≤ 13) := HG0
              have hg13 : g ≤ 13 := HG.out.2.2
              clear HG0
              have kk := KW.trans kb
              have NB := NW.kp kb
              have ownB := own.kp kb
              have hqlt := hid NW.qb_lt
              have hzb := kb.size
              have hvlt := hid own.blk_lt
              have hbge := hid (Nat.le_refl wr.heap.size)
              have hfew := HR.out.few (by omega) NW.ok.pos.2.2.1
              go_upto_region 18 with (first | (refine wpList_load_mid rfl 34 (.tmp 56) rfl ga (o + k * 18) rfl cs _ hr1 Try.underlying34 rfl hi ?_) | (refine wpList_store_mid rfl 34 (.tmp 11) (.tmp 57) rfl wr.heap.size 0 cs.toArray rfl rfl hth hi (all_oneCell_toArray H1C.out) ?_; generalize (wr.alloc (.cells #[.int .i64 0, .int .i64 0, .int .i64 0, .slice none 0 0, .slice none 0 0, .slice none 0 0, .int .i64 0, .int .i64 0, .int .i64 0, .int .i64 0, .int .i64 0, .slice none 0 0, .int .i64 0, .int .i64 0, .int .i64 0, .int .i64 0, .bool false, .slice none 0 0] 34)).setCells wr.heap.size 0 cs = w4 at *))
              clear hth hr1 hr NW own KW kb
              generalize hbb : wr.heap.size = b2 at *
              clear hbb
              go_wp2_with (refine wpList_load_mid rfl 34 (.tmp 11) rfl b2 0 rfl cs _ hbx.range Try.underlying34 rfl hi ?_)
              refine (nSend_any _ nb mb vf _ _ N x (g : Int) w4 NB hfew.1 (hv.kp kk) (by unfold Room; have := hx.out; simp; omega)).mono ?_
              rintro e w5 ⟨rfl, sv', N5, fr5, hsv5⟩
              have hcl : css.length ≤ 40 := by
                have h1 := HC.out.1
                have h2 := hfew.2
                have h3 := HR.out.out
                rw [h1, ← h3, List.length_map]
                omega
              obtain ⟨hsA, hsB⟩ := r_send HR.out NB.ok (by omega) (by omega) x
              have K5 := fr5.to_kp kk fun i hi => Nat.le_trans hlo (NB.qb_ge i hi)
              have O5 := ownB.owS w5 fr5.size fun i hi hlt => fr5.block i hlt (fun h => by
                rcases h with h | h
                · have := ownB.ge i hi
                  omega
                · exact HV.out i hi h)
              have HV5 : Hid (∀ i, (Value.slice A2 css.length c2).ownBlock = some i → sv'.ownBlock ≠ some i) := hid fun i hi h => by
                rcases hsv5 i h with h | h
                · exact HV.out i hi h
                · have := hvlt.out i hi
                  omega
              have B5 := hbx.keep (fr5.block b2 hlb (fun h => by have := hqlt.out b2 h; omega))
              have hb5 := Nat.lt_of_lt_of_le hlb fr5.size
              have hz5 := fr5.size
              have HSA := hid hsA
              have HSB := hid hsB
              have hlo5 := hid K5.size
              generalize (sendN N x (g : Int)).1 = N' at *
              generalize (sendN N x (g : Int)).2 = er at *
              clear NB ownB hbx kk hsA hsB fr5 hfew HV hlb hsv5 hqlt hvlt hzb
              by_cases he : er = 0
              · have HR6 := hid (HSA.out he)
                subst he
                have kA := (Kp.refl w5).alloc (.cells cs.toArray 34)
                have hfl3 : cs.length = (#[.int .i64 0, .int .i64 0, .int .i64 0, .slice none 0 0, .slice none 0 0, .slice none 0 0, .int .i64 0, .int .i64 0, .int .i64 0, .int .i64 0, .int .i64 0, .slice none 0 0, .int .i64 0, .int .i64 0, .int .i64 0, .int .i64 0, .bool false, .slice none 0 0] : Array Value).size := HCS.out
                go_upto_region 20 with (first | (refine wpList_load_mid rfl 34 (.tmp 11) rfl b2 0 rfl cs _ B5.range Try.underlying34 rfl hi ?_) | (at_builtin; rw [fold_fill #[.int .i64 0, .int .i64 0, .int .i64 0, .slice none 0 0, .slice none 0 0, .slice none 0 0, .int .i64 0, .int .i64 0, .int .i64 0, .int .i64 0, .int .i64 0, .slice none 0 0, .int .i64 0, .int .i64 0, .int .i64 0, .int .i64 0, .bool false, .slice none 0 0] cs hfl3]; refine wpl_append_flat rfl (.tmp 64) (.tmp 66) rfl stMsgM encC_len encC_one rfl (O5.alloc _) rfl (Sl.one (R := Pl encC) w5 _ 34 18 (⟨cs, HCS.out, H1C.out⟩ : Elm 18) HCS.out rfl) (by simp; omega) (by simp; omega) (by simp; omega) ?_; intro v9 w9 O6 hgrow9 hat9 hnil9; obtain ⟨A9, c9, e9, hc9, hm9⟩ := O6.form; rw [List.length_append, List.length_singleton] at e9; subst e9))
                have hgr : (w5.alloc (.cells cs.toArray 34)).grownBy w9 (Value.slice A2 css.length c2).ownBlock := hgrow9
                have hat : (Value.slice A9 (css.length + 1) c9).ownBlock = (Value.slice A2 css.length c2).ownBlock ∨ (Value.slice A9 (css.length + 1) c9).ownBlock = some (w5.alloc (.cells cs.toArray 34)).heap.size := hat9
                clear hgrow9 hnil9 hat9
                have hge := O5.ge
                have hmlo := N5.mlo
                have hqb5 := N5.qb_lt
                have hsA := World.size_alloc w5 (.cells cs.toArray 34)
                have hfr9 : Fr (fun q => (Value.slice A2 css.length c2).ownBlock = some q) (w5.alloc (.cells cs.toArray 34)) w9 := ⟨hgr.os, hgr.tape, hgr.output, hgr.size, fun i hi hn => hgr.block i hi (fun e => hn e.symm)⟩
                have N6 := (N5.kp kA).fr hfr9 (fun h => by have := hge nb h; omega) (fun h => by have := hge mb h; omega) (fun i hi h => by have := hge i h; have := HMV.out i hi; omega) (fun i hi h => HV5.out i h hi)
                have K6 := (K5.trans kA).grown hgr (fun i hi => by have := hge i hi; omega)
                have HV6 : Hid (∀ i, (Value.slice A9 (css.length + 1) c9).ownBlock = some i → sv'.ownBlock ≠ some i) := hid fun i hi h => by
                  rcases hat with e | e
                  · rw [e] at hi
                    exact HV5.out i hi h
                  · rw [e] at hi
                    injection hi with hi
                    have := hqb5 i (.inr h)
                    omega
                have HC6 : Hid ((css ++ [(⟨cs, HCS.out, H1C.out⟩ : Elm 18)]).length = (sent ++ [x]).length ∧ ∀ j (h1 : j < (css ++ [(⟨cs, HCS.out, H1C.out⟩ : Elm 18)]).length) (h2 : j < (sent ++ [x]).length), rdMsg w (css ++ [(⟨cs, HCS.out, H1C.out⟩ : Elm 18)])[j].val (sent ++ [x])[j]) := hid (by
                  have hc1 := HC.out.1
                  refine ⟨by simp [hc1], fun j h1 h2 => ?_⟩
                  by_cases hj : j < css.length
                  · rw [List.getElem_append_left hj, List.getElem_append_left (by omega)]
                    exact HC.out.2 j hj (by omega)
                  · have e1 : j = css.length := by simp at h1; omega
                    subst e1
                    have e2 : (css ++ [(⟨cs, HCS.out, H1C.out⟩ : Elm 18)])[css.length] = ⟨cs, HCS.out, H1C.out⟩ := by simp
                    have e3 : (sent ++ [x])[css.length]'h2 = x := by simp [hc1]
                    rw [e2, e3]
                    exact hv)
                have HX6 : Hid (∀ y ∈ sent ++ [x], (numMessage y).length ≤ 1000000000) := hid fun y hy => by
                  rcases List.mem_append.1 hy with hy | hy
                  · exact HX.out y hy
                  · simp only [List.mem_singleton] at hy
                    subst hy
                    exact hx.out
                have hz9 := hfr9.size
                have hzz : w2.heap.size ≤ w9.heap.size := by omega
                obtain ⟨sent6, hs6⟩ : ∃ s6, s6 = sent ++ [x] := ⟨_, rfl⟩
                rw [← hs6] at HC6 HX6 HR6
                clear hs6 N5 K5 O5 HV5 B5 kA hgr hat hge hfr9 HC HX HR hqb5 hfl3 hsA
                by_cases hq2 : q < 2
                · have e3 : decide ((q : Int) < 2) = true := decide_eq_true (by omega)
                  by_cases hk1 : k + 1 < l.length
                  · have e4 : decide ((k : Int) + 1 < (l.length : Int)) = true := decide_eq_true (by omega)
                    go_wp2_with fail
                    go_roundw
                    case rel => exact ⟨k + 1, N', sent6, _, _, by omega, by go_num, N6, K6, O6, HC6, HV6, hid (fun _ => by have h3 : (k + 1) / 3 = g := (by have := HG.out; omega); rw [h3]; exact HR6.out), HX6, by omega⟩
                    case measure => simp [intOf]; omega
                  · have e4 : decide ((k : Int) + 1 < (l.length : Int)) = false := decide_eq_false (by omega)
                    have hfew6 := (HR6.out.few (by omega) N6.ok.pos.2.2.1).1
                    have HDV := hid (r_deliver HR6.out (by omega))
                    go_wp2_with fail
                    refine (nDeliver_any _ nb mb vf _ N' ((g : Int) + 1) _ N6 hfew6).mono ?_
                    rintro e w7 ⟨vg, rfl, sv7, top7, css7, N7, fr7, hq7, own7, em7⟩
                    have hd1 : (deliverN N' ((g : Int) + 1)).2.2 = 0 := by rw [HDV.out.1]
                    have hd2 : (deliverN N' ((g : Int) + 1)).2.1 = sent6 := by rw [HDV.out.1]
                    rw [hd2] at em7
                    rw [hd1]
                    have hfl7 := hid HDV.out.2.1
                    have HR7 := hid HDV.out.2.2
                    clear hd1 hd2 HDV
                    generalize (deliverN N' ((g : Int) + 1)).1 = N'' at *
                    have K7 := fr7.to_kp K6 fun i hi => Nat.le_trans hlo (N6.qb_ge i hi)
                    have O7 := O6.owS w7 fr7.size fun q hq hlt => fr7.block q hlt (fun h => by
                      rcases h with h | h
                      · have := O6.ge q hq
                        omega
                      · exact HV6.out q hq h)
                    have SG := (em7.fin own7).here
                    have SS := sent_sl O7 HC6.out K7
                    obtain ⟨A7, c7, rfl, hc7, hm7⟩ := own7.form
                    have hz7 := fr7.size
                    clear own7 em7 fr7 O7 O6 N6 K6 hq7
                    go_wp2_with fail
                    refine (Same50_any _ _ sent6 sent6 _ SG SS HX6.out HX6.out).mono ?_
                    rintro e w8 ⟨rfl, k8⟩
                    rw [sameM_self]
                    have N8 := N7.kp k8
                    have K8 := K7.trans k8
                    have hz8 := k8.size
                    clear N7 K7 k8 SG SS
                    go_wp2_with fail
                    refine (nInFlight_any _ nb mb vf _ _ _ N8).mono ?_
                    rintro e w9 ⟨rfl, rfl⟩
                    rw [hfl7.out]
                    go_wp2_with fail
                    go_roundw
                    case rel => exact ⟨k + 1, N'', [], sv7, [], by omega, by go_num, N8, K8, Own.nil _ _ _ _ _, hid ⟨rfl, fun j h1 _ => absurd h1 (by simp)⟩, hid (fun q hq => by cases hq), hid (fun hlt => by have hh := HR7.out; have h3 : (k + 1) / 3 = g + 1 := (by have := HG.out; omega); rw [h3]; exact hh), hid (fun x hx => by simp at hx), by omega⟩
                    case measure => simp [intOf]; omega
                · have e3 : decide ((q : Int) < 2) = false := decide_eq_false (by omega)
                  have hfew6 := (HR6.out.few (by omega) N6.ok.pos.2.2.1).1
                  have HDV := hid (r_deliver HR6.out (by omega))
                  go_wp2_with fail
                  refine (nDeliver_any _ nb mb vf _ N' ((g : Int) + 1) _ N6 hfew6).mono ?_
                  rintro e w7 ⟨vg, rfl, sv7, top7, css7, N7, fr7, hq7, own7, em7⟩
                  have hd1 : (deliverN N' ((g : Int) + 1)).2.2 = 0 := by rw [HDV.out.1]
                  have hd2 : (deliverN N' ((g : Int) + 1)).2.1 = sent6 := by rw [HDV.out.1]
                  rw [hd2] at em7
                  rw [hd1]
                  have hfl7 := hid HDV.out.2.1
                  have HR7 := hid HDV.out.2.2
                  clear hd1 hd2 HDV
                  generalize (deliverN N' ((g : Int) + 1)).1 = N'' at *
                  have K7 := fr7.to_kp K6 fun i hi => Nat.le_trans hlo (N6.qb_ge i hi)
                  have O7 := O6.owS w7 fr7.size fun q hq hlt => fr7.block q hlt (fun h => by
                    rcases h with h | h
                    · have := O6.ge q hq
                      omega
                    · exact HV6.out q hq h)
                  have SG := (em7.fin own7).here
                  have SS := sent_sl O7 HC6.out K7
                  obtain ⟨A7, c7, rfl, hc7, hm7⟩ := own7.form
                  have hz7 := fr7.size
                  clear own7 em7 fr7 O7 O6 N6 K6 hq7
                  go_wp2_with fail
                  refine (Same50_any _ _ sent6 sent6 _ SG SS HX6.out HX6.out).mono ?_
                  rintro e w8 ⟨rfl, k8⟩
                  rw [sameM_self]
                  have N8 := N7.kp k8
                  have K8 := K7.trans k8
                  have hz8 := k8.size
                  clear N7 K7 k8 SG SS
                  go_wp2_with fail
                  refine (nInFlight_any _ nb mb vf _ _ _ N8).mono ?_
                  rintro e w9 ⟨rfl, rfl⟩
                  rw [hfl7.out]
                  go_wp2_with fail
                  go_roundw
                  case rel => exact ⟨k + 1, N'', [], sv7, [], by omega, by go_num, N8, K8, Own.nil _ _ _ _ _, hid ⟨rfl, fun j h1 _ => absurd h1 (by simp)⟩, hid (fun q hq => by cases hq), hid (fun hlt => by have hh := HR7.out; have h3 : (k + 1) / 3 = g + 1 := (by have := HG.out; omega); rw [h3]; exact hh), hid (fun x hx => by simp at hx), by omega⟩
                  case measure => simp [intOf]; omega
              · have HR6 := hid (HSB.out he)
                have e7 : (er == 0) = false := beq_false_of_ne he
                obtain ⟨sent6, rfl⟩ : ∃ s6, s6 = sent := ⟨_, rfl⟩
                have N6 := N5
                have K6 := K5
                have O6 := O5
                have HC6 := HC
                have HV6 := HV5
                have HX6 := HX
                clear N5 K5 O5 HV5 B5 HC HX HR
                replace he := hid he
                by_cases hq2 : q < 2
                · have e3 : decide ((q : Int) < 2) = true := decide_eq_true (by omega)
                  by_cases hk1 : k + 1 < l.length
                  · have e4 : decide ((k : Int) + 1 < (l.length : Int)) = true := decide_eq_true (by omega)
                    go_wp2_with fail
                    go_roundw
                    case rel => exact ⟨k + 1, N', sent6, _, _, by omega, by go_num, N6, K6, O6, HC6, HV6, hid (fun _ => by have h3 : (k + 1) / 3 = g := (by have := HG.out; omega); rw [h3]; exact HR6.out), HX6, by omega⟩
                    case measure => simp [intOf]; omega
                  · have e4 : decide ((k : Int) + 1 < (l.length : Int)) = false := decide_eq_false (by omega)
                    have hfew6 := (HR6.out.few (by omega) N6.ok.pos.2.2.1).1
                    have HDV := hid (r_deliver HR6.out (by omega))
                    go_wp2_with fail
                    refine (nDeliver_any _ nb mb vf _ N' ((g : Int) + 1) _ N6 hfew6).mono ?_
                    rintro e w7 ⟨vg, rfl, sv7, top7, css7, N7, fr7, hq7, own7, em7⟩
                    have hd1 : (deliverN N' ((g : Int) + 1)).2.2 = 0 := by rw [HDV.out.1]
                    have hd2 : (deliverN N' ((g : Int) + 1)).2.1 = sent6 := by rw [HDV.out.1]
                    rw [hd2] at em7
                    rw [hd1]
                    have hfl7 := hid HDV.out.2.1
                    have HR7 := hid HDV.out.2.2
                    clear hd1 hd2 HDV
                    generalize (deliverN N' ((g : Int) + 1)).1 = N'' at *
                    have K7 := fr7.to_kp K6 fun i hi => Nat.le_trans hlo (N6.qb_ge i hi)
                    have O7 := O6.owS w7 fr7.size fun q hq hlt => fr7.block q hlt (fun h => by
                      rcases h with h | h
                      · have := O6.ge q hq
                        omega
                      · exact HV6.out q hq h)
                    have SG := (em7.fin own7).here
                    have SS := sent_sl O7 HC6.out K7
                    obtain ⟨A7, c7, rfl, hc7, hm7⟩ := own7.form
                    have hz7 := fr7.size
                    clear own7 em7 fr7 O7 O6 N6 K6 hq7
                    go_wp2_with fail
                    refine (Same50_any _ _ sent6 sent6 _ SG SS HX6.out HX6.out).mono ?_
                    rintro e w8 ⟨rfl, k8⟩
                    rw [sameM_self]
                    have N8 := N7.kp k8
                    have K8 := K7.trans k8
                    have hz8 := k8.size
                    clear N7 K7 k8 SG SS
                    go_wp2_with fail
                    refine (nInFlight_any _ nb mb vf _ _ _ N8).mono ?_
                    rintro e w9 ⟨rfl, rfl⟩
                    rw [hfl7.out]
                    go_wp2_with fail
                    go_roundw
                    case rel => exact ⟨k + 1, N'', [], sv7, [], by omega, by go_num, N8, K8, Own.nil _ _ _ _ _, hid ⟨rfl, fun j h1 _ => absurd h1 (by simp)⟩, hid (fun q hq => by cases hq), hid (fun hlt => by have hh := HR7.out; have h3 : (k + 1) / 3 = g + 1 := (by have := HG.out; omega); rw [h3]; exact hh), hid (fun x hx => by simp at hx), by omega⟩
                    case measure => simp [intOf]; omega
                · have e3 : decide ((q : Int) < 2) = false := decide_eq_false (by omega)
                  have hfew6 := (HR6.out.few (by omega) N6.ok.pos.2.2.1).1
                  have HDV := hid (r_deliver HR6.out (by omega))
                  go_wp2_with fail
                  refine (nDeliver_any _ nb mb vf _ N' ((g : Int) + 1) _ N6 hfew6).mono ?_
                  rintro e w7 ⟨vg, rfl, sv7, top7, css7, N7, fr7, hq7, own7, em7⟩
                  have hd1 : (deliverN N' ((g : Int) + 1)).2.2 = 0 := by rw [HDV.out.1]
                  have hd2 : (deliverN N' ((g : Int) + 1)).2.1 = sent6 := by rw [HDV.out.1]
                  rw [hd2] at em7
                  rw [hd1]
                  have hfl7 := hid HDV.out.2.1
                  have HR7 := hid HDV.out.2.2
                  clear hd1 hd2 HDV
                  generalize (deliverN N' ((g : Int) + 1)).1 = N'' at *
                  have K7 := fr7.to_kp K6 fun i hi => Nat.le_trans hlo (N6.qb_ge i hi)
                  have O7 := O6.owS w7 fr7.size fun q hq hlt => fr7.block q hlt (fun h => by
                    rcases h with h | h
                    · have := O6.ge q hq
                      omega
                    · exact HV6.out q hq h)
                  have SG := (em7.fin own7).here
                  have SS := sent_sl O7 HC6.out K7
                  obtain ⟨A7, c7, rfl, hc7, hm7⟩ := own7.form
                  have hz7 := fr7.size
                  clear own7 em7 fr7 O7 O6 N6 K6 hq7
                  go_wp2_with fail
                  refine (Same50_any _ _ sent6 sent6 _ SG SS HX6.out HX6.out).mono ?_
                  rintro e w8 ⟨rfl, k8⟩
                  rw [sameM_self]
                  have N8 := N7.kp k8
                  have K8 := K7.trans k8
                  have hz8 := k8.size
                  clear N7 K7 k8 SG SS
                  go_wp2_with fail
                  refine (nInFlight_any _ nb mb vf _ _ _ N8).mono ?_
                  rintro e w9 ⟨rfl, rfl⟩
                  rw [hfl7.out]
                  go_wp2_with fail
                  go_roundw
                  case rel => exact ⟨k + 1, N'', [], sv7, [], by omega, by go_num, N8, K8, Own.nil _ _ _ _ _, hid ⟨rfl, fun j h1 _ => absurd h1 (by simp)⟩, hid (fun q hq => by cases hq), hid (fun hlt => by have hh := HR7.out; have h3 : (k + 1) / 3 = g + 1 := (by have := HG.out; omega); rw [h3]; exact hh), hid (fun x hx => by simp at hx), by omega⟩
                  case measure => simp [intOf]; omega
            · have hlk : ¬ (k : Int) < (l.length : Int) := by omega
              go_wp2
              go_ret
              exact ⟨rfl, KW⟩
end Go.Proofs.Ytmokpnkpfodppaa
