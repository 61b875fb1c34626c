
/-
Messages arrive by their due ticks; delivering tick by tick is like delivering at once: the walk.
-/
import Derived.Test.YtmokpnkpfodppaaDueP
import Derived.Deep.LoopGhost
import Derived.Deep.Cut
namespace Go.Proofs.Ytmokpnkpfodppaa
set_option linter.unusedSimpArgs false
set_option linter.unusedVariables false
open Go.RowKit

set_option maxRecDepth 100000 in
set_option maxHeartbeats 8000000 in
theorem due_walk (r : Int) (vf0 vl : Value) (fs : List Fate) (l : List Message) (w : World) (hfs : Fates w vf0 fs) (hl : Msgs w vl l) (hb : ∀ x ∈ l, (numMessage x).length ≤ 1000000000) (hfl : fs.length ≤ 1000000000) :
    Calls Try.prog 5 #[.int .i64 r, vf0, vl] w fun e w' => e = .returned (.bool true) ∧ Kp w w' := by
  obtain ⟨Af, cf, rfl, hcf, hmf⟩ := hfs.form
  obtain ⟨A, ca, rfl, hca, hma⟩ := hl.form
  have HB := hid hb
  have HMS := hid (fun k (hk : k < l.length) => hl.msg hk)
  have HFS := hid hfs
  clear hb hl hfs
  go_enter Try.func5, Try.ntmps5
  go_wp2_with fail
  refine (awake50_any _).mono ?_
  rintro e w1 ⟨rfl, k1⟩
  by_cases h30 : 30 < l.length
  · have e1 : decide (30 < (l.length : Int)) = true := decide_eq_true (by omega)
    go_wp2
    go_ret
    exact ⟨rfl, k1⟩
  · have e1 : decide (30 < (l.length : Int)) = false := decide_eq_false (by omega)
    go_wp2_with fail
    refine (few50_any Af fs.length cf w1).mono ?_
    rintro e w2 ⟨rfl, rfl⟩
    by_cases h300 : fs.length ≤ 300
    · rw [decide_eq_true h300]
      go_wp2_with fail
      refine (nNew_any r _ fs _ (HFS.out.keep (pl_stable _) k1) hfl).mono ?_
      rintro e w3 ⟨hres, k3⟩
      have hlo1 := k1.size
      have K3 := k1.trans k3
      rcases hres with ⟨hbad, rfl⟩ | ⟨hgood, nbA, mbA, vfA, rfl, NA3⟩
      · go_wp2_with fail
        refine (nNew_any r _ fs _ (HFS.out.keep (pl_stable _) K3) hfl).mono ?_
        rintro e w4 ⟨hres, k4⟩
        have K4 := K3.trans k4
        rcases hres with ⟨-, rfl⟩ | ⟨hgood, -⟩
        · go_wp2
          go_ret
          exact ⟨rfl, K4⟩
        · rw [hbad] at hgood
          cases hgood
      · go_wp2_with fail
        refine (nNew_any r _ fs _ (HFS.out.keep (pl_stable _) K3) hfl).mono ?_
        rintro e w4 ⟨hres, k4⟩
        have hlo3 := K3.size
        have K4 := K3.trans k4
        rcases hres with ⟨hbad, -⟩ | ⟨-, nbB, mbB, vfB, rfl, NB4⟩
        · rw [hbad] at hgood
          cases hgood
        clear hgood
        have hnA3 := NA3.lt
        have NA4 := NA3.kp k4
        have hBlo := NB4.mlo
        have hBlt := NB4.mlt
        have HAP : Hid (Apart nbB mbB vfB (.slice none 0 0) (.slice none 0 0)) := hid fun q hq => by cases hq
        have hvB := hid NB4.vlo
        clear NA3 k1 k3 K3 k4
        go_wp2_with fail
        go_loopw [67] (fun i wr => ∃ (k : Nat) (N : Net) (svA svB : Value), k ≤ l.length ∧ i = .int .i64 (k : Int) ∧ NetW w2.heap.size nbA mbA vfA svA wr N ∧ NetW w3.heap.size nbB mbB vfB svB wr N ∧ Hid (Apart nbB mbB vfB svB svA) ∧ Kp w wr ∧ Hid (DInv N ∧ N.tick = 0 ∧ cntD N k)) (fun i _ => l.length - (intOf i).toNat)
        case atStart => exact ⟨0, newN r fs, _, _, Nat.zero_le _, rfl, NA4, NB4, HAP, K4, hid ⟨⟨rfl, Int.le_refl _, fun p hp => by simp [newN] at hp⟩, rfl, Int.le_refl _, Int.le_refl _, rfl, Int.le_refl _, by simp [newN]⟩⟩
        case round =>
          clear NA4 NB4 HAP K4
          obtain ⟨k, N, svA, svB, hk, rfl, NA, NB, HAP, KW, HD⟩ := hrel
          by_cases hlt : k < l.length
          · obtain ⟨ga, o, cs, rfl, hg, hcs, hr, hv⟩ := HMS.out k hlt
            have hx := hid (HB.out _ (List.getElem_mem hlt))
            generalize l[k] = x at *
            have hlk : (k : Int) < (l.length : Int) := by omega
            have hi : (Try.prog.info? 34).map (·.size) = some cs.length := by rw [hcs]; kernel_rfl
            have H1C := hid (rdMsg_one (w := w) (x := x) hv).2
            have hr1 := KW.range hr
            obtain ⟨hth, hbx, kb, hlb⟩ := msg_box wr cs hcs
            have HCS := hid hcs
            clear hcs
            have KB := KW.trans kb
            have NA1 := NA.kp kb
            have NB1 := NB.kp kb
            have hqA := hid NA.qb_lt
            have hqB := hid NB.qb_lt
            go_upto_region 12 with (first | (refine wpList_load_mid rfl 34 (.tmp 69) rfl ga (o + k * 18) rfl cs _ hr1 Try.underlying34 rfl hi ?_) | (refine wpList_store_mid rfl 34 (.tmp 12) (.tmp 70) rfl wr.heap.size 0 cs.toArray rfl rfl hth hi (all_oneCell_toArray H1C.out) ?_; generalize (wr.alloc (.cells #[.int .i64 0, .int .i64 0, .int .i64 0, .slice none 0 0, .slice none 0 0, .slice none 0 0, .int .i64 0, .int .i64 0, .int .i64 0, .int .i64 0, .int .i64 0, .slice none 0 0, .int .i64 0, .int .i64 0, .int .i64 0, .int .i64 0, .bool false, .slice none 0 0] 34)).setCells wr.heap.size 0 cs = w5 at *))
            clear hth hr1 hr NA NB KW kb
            generalize hbb : wr.heap.size = b2 at *
            clear hbb
            go_wp2_with (refine wpList_load_mid rfl 34 (.tmp 12) rfl b2 0 rfl cs _ hbx.range Try.underlying34 rfl hi ?_)
            refine (nMessage_any _ x _ (hv.kp KB) hx.out).mono ?_
            rintro e w6 ⟨v6, rfl, own6, k6⟩
            obtain ⟨A6, c6, rfl, hc6, hm6⟩ := own6.form
            have K6 := KB.trans k6
            have NA6 := NA1.kp k6
            have NB6 := NB1.kp k6
            have hbx6 := hbx.keep (k6.block hlb)
            have hlb6 := Nat.lt_of_lt_of_le hlb k6.size
            clear own6 KB NA1 NB1 hbx hlb
            by_cases h100 : 100 < (numMessage x).length
            · have e3 : decide (100 < ((numMessage x).length : Int)) = true := decide_eq_true (by omega)
              go_wp2
              go_ret
              exact ⟨rfl, K6⟩
            · have e3 : decide (100 < ((numMessage x).length : Int)) = false := decide_eq_false (by omega)
              have hRoom : Room [] (numMessage x).length := by unfold Room; have := hx.out; simp; omega
              have hcn := HD.out.2.2
              have hfewA : Few N := ⟨by have := hcn.1; omega, by have := hcn.2.1; omega, by have := hcn.2.2.1; omega, by have := hcn.2.2.2.1; omega⟩
              have HSD := hid (d_send HD.out.1 HD.out.2.1 NA6.ok HD.out.2.2 x hx.out)
              go_upto_region 14 with (fail)
              refine wp_region_held_drew (S := fun W => W.rangeAt b2 0 cs) (by kernel_rfl) (((Kp.refl _).drew).range hbx6.range) (fun hHeld => ?_)
              refine take_at 1 76 (v := _) rfl rfl (by kernel_rfl) (by kernel_rfl) (by kernel_rfl) (fun _ _ _ h => h) hHeld (yieldsIf_load_mid (by kernel_rfl) 34 _ rfl b2 0 rfl cs _ (fun _ h => h) Try.underlying34 rfl (by assumption)) ?_
              simp only [Act.put, List.setIfInBounds_toArray, List.set_cons_zero, List.set_cons_succ]
              refine take_at 4 79 (v := _) rfl rfl (by kernel_rfl) (by kernel_rfl) (by kernel_rfl) (fun _ _ _ h => h) hHeld (yieldsIf_load_mid (by kernel_rfl) 34 _ rfl b2 0 rfl cs _ (fun _ h => h) Try.underlying34 rfl (by assumption)) ?_
              simp only [Act.put, List.setIfInBounds_toArray, List.set_cons_zero, List.set_cons_succ]
              refine take_at 0 75 (v := ?_) rfl rfl (by kernel_rfl) (by kernel_rfl) (by kernel_rfl) (fun _ _ _ h => h) hHeld (Or.inl ⟨by kernel_rfl, ?_⟩) ?_
              rotate_left
              · intro w hSw; (try dsimp only at hSw); go_simp; try with_reducible rfl
              simp only [Act.put, List.setIfInBounds_toArray, List.set_cons_zero, List.set_cons_succ]
              refine take_at 3 78 (v := ?_) rfl rfl (by kernel_rfl) (by kernel_rfl) (by kernel_rfl) (fun _ _ _ h => h) hHeld (Or.inl ⟨by kernel_rfl, ?_⟩) ?_
              rotate_left
              · intro w hSw; (try dsimp only at hSw); go_simp; try with_reducible rfl
              simp only [Act.put, List.setIfInBounds_toArray, List.set_cons_zero, List.set_cons_succ]
              have kd := (Kp.refl w6).drew
              have NA7 := NA6.kp kd
              have NB7 := NB6.kp kd
              have K7 := K6.trans kd
              refine wpAnyH_ready (rs := [2]) (by kernel_rfl) (by simp) ?_
              refine AllReadyH.cons (o := _) rfl (fun K hK => ?_) AllReadyH.nil
              go_simp
              refine (nSend_any _ nbA mbA vfA svA _ N x 0 _ NA7 hfewA (hv.kp K7) hRoom).mono ?_
              rintro e w8 ⟨rfl, svA', NA8, fr8, hs8⟩
              have NB8 := NB7.beside fr8 (by omega) HAP.out hvB.out
              have HAP8 := hid (HAP.out.step NB7 hs8)
              have K8 := fr8.to_kp K7 fun i hi => Nat.le_trans (by omega) (NA7.qb_ge i hi)
              have hr8 : w8.rangeAt b2 0 cs := fun j v hj => fr8.cellS (hHeld j v hj) (fun h => by have := hqA.out b2 h; omega)
              have hlo3' : w.heap.size ≤ w3.heap.size := hlo3
              clear NA7 NB7 K7 fr8 NA6 NB6 K6 kd hbx6
              refine hK.out _ _ hr8 (fun hHeld2 => ?_)
              clear hK K hHeld
              have hHeld := hHeld2
              clear hHeld2
              refine wpAnyH_ready (rs := [5]) (by kernel_rfl) (by simp) ?_
              refine AllReadyH.cons (o := _) rfl (fun K hK => ?_) AllReadyH.nil
              go_simp
              refine (nSend_any _ nbB mbB vfB svB _ N x 0 _ NB8 hfewA (hv.kp K8) hRoom).mono ?_
              rintro e w9 ⟨rfl, svB', NB9, fr9, hs9⟩
              have NA9 := NA8.before fr9 (by omega) HAP8.out NB8.svgt
              have HAP9 := hid (HAP8.out.step2 NA8 hs9)
              have K9 := fr9.to_kp K8 fun i hi => Nat.le_trans hlo3' (NB8.qb_ge i hi)
              have hr9 : w9.rangeAt b2 0 cs := fun j v hj => fr9.cellS (hHeld j v hj) (fun h => by have := hqB.out b2 h; omega)
              clear NA8 NB8 K8 fr9 HAP8
              refine hK.out _ _ hr9 (fun hHeld2 => ?_)
              clear hK K hHeld
              have hHeld := hHeld2
              clear hHeld2
              refine wpAnyH_ready (rs := [6]) (by kernel_rfl) (by simp) ?_
              refine AllReadyH.cons (o := _) rfl (fun K hK => ?_) AllReadyH.nil
              go_simp
              refine hK.out _ _ hHeld (fun hHeld2 => ?_)
              clear hK K hHeld
              have hHeld := hHeld2
              clear hHeld2
              refine wpAnyH_ready (rs := [7]) (by kernel_rfl) (by simp) ?_
              refine AllReadyH.cons (o := _) rfl (fun K hK => ?_) AllReadyH.nil
              go_simp
              refine hK.out _ _ hHeld (fun hHeld2 => ?_)
              clear hK K hHeld
              have hHeld := hHeld2
              clear hHeld2
              refine wpAnyH_done (by kernel_rfl) ?_ _
              generalize (sendN N x 0).1 = N' at *
              generalize (sendN N x 0).2 = er at *
              have e7 : (er != er) = false := by simp
              go_wp2_with fail
              go_roundw
              case rel => exact ⟨k + 1, N', svA', svB', by omega, by go_num, NA9, NB9, HAP9, K9, HSD⟩
              case measure => simp [intOf]; omega
          · have hlk : ¬ (k : Int) < (l.length : Int) := by omega
            have hk30 : k ≤ 30 := by omega
            have hqA := hid NA.qb_lt
            have hqB := hid NB.qb_lt
            have hcn := HD.out.2.2
            have HCN := hid hcn
            have HDI := hid HD.out.1
            have HT0 := hid HD.out.2.1
            have HAP0 := HAP
            have hvw := hid KW.size
            obtain ⟨wo, rfl⟩ : ∃ wo : World, wo = wr := ⟨_, rfl⟩
            clear HMS HB HFS hk hlt hcn HD
            go_wp2_with fail
            go_loopg [15] (N.fly.length + 1) (fun gk v wr => ∃ (N' : Net) (svA' : Value) (css : List (Elm 18)) (xs : List Message) (top : Nat), N'.fly.length < gk ∧ NetW w2.heap.size nbA mbA vfA svA' wr N' ∧ NetW w3.heap.size nbB mbB vfB svB wr N ∧ Hid (∀ q, svA'.ownBlock = some q → svA.ownBlock = some q) ∧ Kp w wr ∧ Hid (DInv N' ∧ xs ++ N'.fly.map msgOf = N.fly.map msgOf ∧ N'.copies ≤ 60 ∧ N'.sent ≤ 60 ∧ N'.delivered + (N'.fly.length : Int) ≤ 60 ∧ N'.lost ≤ 60) ∧ Own encC 34 18 wo.heap.size wr v css ∧ EmX rdMsg wo.heap.size top wr v.ownBlock css xs ∧ wo.heap.size ≤ wr.heap.size)
            case atStart => exact ⟨N, svA, [], [], _, Nat.lt_succ_self _, NA, NB, hid fun q hq => hq, KW, hid ⟨HDI.out, rfl, by have := HCN.out.1; omega, by have := HCN.out.2.1; omega, by have := HCN.out.2.2.1; have := HCN.out.2.2.2.2; omega, by have := HCN.out.2.2.2.1; omega⟩, Own.nil _ _ _ _ _, EmX.nil _ _ _ _ _ (Nat.le_refl _), Nat.le_refl _⟩
            case round =>
              clear NA NB KW HAP
              obtain ⟨N', svA', css, xs, top, hgk, NA, NB, HQ, KW, HD, own, em, hzw⟩ := hrel
              have HGK := hid hgk
              clear hgk
              have HAP := hid (show Apart nbB mbB vfB svB svA' from fun q hq => HAP0.out q (HQ.out q hq))
              have hql := hid (fun i (hi : Qb nbA svA' i) => hqA.out i (by rcases hi with h | h; exact .inl h; exact .inr (HQ.out i h)))
              obtain ⟨A2, c2, rfl, hc2, hm2⟩ := own.form
              have hxl : css.length + N'.fly.length ≤ 60 := by
                have h1 := congrArg List.length HD.out.2.1
                have h2 := em.1
                have h3 := HCN.out.2.2.2.2
                rw [List.length_append, List.length_map, List.length_map] at h1
                omega
              go_wp2_with fail
              refine (nNext_any _ nbA mbA vfA svA' _ N' NA).mono ?_
              rintro e w5 ⟨rfl, rfl⟩
              have hfewA : Few N' := ⟨by have := HD.out.2.2.1; omega, by have := HD.out.2.2.2.1; omega, by have := HD.out.2.2.2.2.1; omega, by have := HD.out.2.2.2.2.2; omega⟩
              cases hfly : N'.fly with
              | nil =>
                have hn : nextR N' = (0, false) := by rw [nextR, hfly]
                rw [hn]
                dsimp only
                have hfewB : Few N := ⟨by have := HCN.out.1; omega, by have := HCN.out.2.1; omega, by have := HCN.out.2.2.1; omega, by have := HCN.out.2.2.2.1; omega⟩
                have HXS : Hid (xs = N.fly.map msgOf) := hid (by have := HD.out.2.1; rw [hfly] at this; simpa using this)
                have HAL := hid (d_all HDI.out HT0.out)
                have HFA := hid hfly
                clear hn hfly
                go_wp2_with fail
                refine (nDeliver_any _ nbB mbB vfB svB N 1024 _ NB hfewB).mono ?_
                rintro e w7 ⟨vg, rfl, sv7, top7, css7, N7, fr7, hq7, own7, em7⟩
                rw [HAL.out.1] at em7
                rw [HAL.out.1]
                dsimp only at em7 ⊢
                have hfB := hid HAL.out.2
                have NA7 := NA.before fr7 (by omega) HAP.out NB.svgt
                have K7 := fr7.to_kp KW fun i hi => Nat.le_trans hlo3 (NB.qb_ge i hi)
                have O7 := own.owS w7 fr7.size fun i hi hlt => fr7.block i hlt (fun h => by have := hqB.out i h; have := own.ge i hi; omega)
                have E7 := em.step (w' := w7) fr7.size fun i hi1 hi2 _ => fr7.block i (Nat.lt_of_lt_of_le hi2 em.2.2.1) (fun h => by have := hqB.out i h; omega)
                have SG := (E7.fin O7).here
                have SA := (em7.fin own7).here
                obtain ⟨A7, c7, rfl, hc7, hm7⟩ := own7.form
                have hbd : ∀ x ∈ N.fly.map msgOf, (numMessage x).length ≤ 1000000000 := fun x hx => by
                  obtain ⟨p, hp, rfl⟩ := List.mem_map.1 hx
                  exact (HDI.out.due p hp).2.2.2
                rw [HXS.out] at SG
                clear own7 em7 O7 E7 NA NB own em KW
                generalize (deliverN N 1024).1 = N'' at *
                go_wp2_with fail
                refine (Same50_any _ _ _ _ _ SG SA hbd hbd).mono ?_
                rintro e w8 ⟨rfl, k8⟩
                rw [sameM_self]
                have NA8 := NA7.kp k8
                have NB8 := N7.kp k8
                have K8 := K7.trans k8
                clear NA7 N7 K7 k8 SG SA fr7 hbd
                go_wp2_with fail
                refine (nInFlight_any _ nbA mbA vfA _ _ _ NA8).mono ?_
                rintro e w9 ⟨rfl, rfl⟩
                rw [HFA.out]
                go_wp2_with fail
                refine (nInFlight_any _ nbB mbB vfB _ _ _ NB8).mono ?_
                rintro e w10 ⟨rfl, rfl⟩
                rw [hfB.out]
                go_wp2_with fail
                go_ret
                exact ⟨rfl, K8⟩
              | cons p S =>
                have hn : nextR N' = (p.due, true) := by rw [nextR, hfly]
                rw [hn]
                dsimp only
                have HDN := hid (d_next HD.out.1 NA.sorted hfly)
                clear hn
                go_wp2_with fail
                refine (nDeliver_any _ nbA mbA vfA svA' N' p.due _ NA hfewA).mono ?_
                rintro e w7 ⟨vg, rfl, sv7, top7, css7, N7, fr7, hq7, own7, em7⟩
                rw [HDN.out.1]
                have NB7 := NB.beside fr7 (by omega) HAP.out hvB.out
                have K7 := fr7.to_kp KW fun i hi => Nat.le_trans hlo1 (NA.qb_ge i hi)
                have O7 := own.owS w7 fr7.size fun i hi hlt => fr7.block i hlt (fun h => by have := hql.out i h; have := own.ge i hi; omega)
                have E7 := em.step (w' := w7) fr7.size fun i hi1 hi2 _ => fr7.block i (Nat.lt_of_lt_of_le hi2 em.2.2.1) (fun h => by have := hql.out i h; omega)
                have htop := em.2.2.1
                have hblk := own.blk_lt
                have hz7 := fr7.size
                have HD2 := hid HDN.out.2
                have HF2 := hid hfly
                clear HDN hfly fr7 own em NA NB KW
                generalize (deliverN N' p.due).1 = N'' at *
                generalize (deliverN N' p.due).2.1 = out at *
                obtain ⟨A7, c7, rfl, hc7, hm7⟩ := own7.form
                have hl7 := em7.1
                have hpos := HD2.out.2.1
                have hne : css7.length ≠ 0 := by omega
                have e4 : (css7.length == 0) = false := beq_false_of_ne hne
                have e5 : ((css7.length : Int) == 0) = false := beq_false_of_ne (by omega)
                have hbig : css.length + css7.length ≤ 60 := by
                  have h1 := congrArg List.length HD2.out.2.2.1
                  rw [List.length_append, List.length_map, List.length_map] at h1
                  omega
                have hEB := E7.append em7 htop hblk
                have hHL7 := hid hl7
                clear hl7 hpos hne
                go_upto_region 24 with (fail)
                go_wp2_with (at_builtin; refine wpl_append_flat rfl (.tmp 105) (.tmp 106) rfl stMsgM encC_len encC_one rfl O7 rfl (own7.sl encC_len) (by omega) (by omega) (by omega) ?_; intro v9 w9 O9 hgrow9 hat9 hnil9; obtain ⟨A9, c9, e9, hc9, hm9⟩ := O9.form; rw [List.length_append] at e9; subst e9)
                have hgr : w7.grownBy w9 (Value.slice A2 css.length c2).ownBlock := hgrow9
                have hat : (Value.slice A9 (css.length + css7.length) c9).ownBlock = (Value.slice A2 css.length c2).ownBlock ∨ (Value.slice A9 (css.length + css7.length) c9).ownBlock = some w7.heap.size := hat9
                have hge := O7.ge
                have E9 := hEB.grow hgr hat
                have hfr9 : Fr (fun q => (Value.slice A2 css.length c2).ownBlock = some q) w7 w9 := ⟨hgr.os, hgr.tape, hgr.output, hgr.size, fun i hi hn => hgr.block i hi (fun e => hn e.symm)⟩
                have hq77 : ∀ q, sv7.ownBlock = some q → svA.ownBlock = some q := fun q hq => HQ.out q (hq7 q hq)
                have NA9 := N7.fr hfr9 (fun h => by have := hge nbA h; have := hqA.out nbA (.inl rfl); omega) (fun h => by have := hge mbA h; have := hqA.out nbA (.inl rfl); have := N7.mlt; omega) (fun i hi h => by have := hge i h; have := (N7.ownb i hi).1; have := hqA.out nbA (.inl rfl); omega) (fun i hi h => by have := hge i h; have := hqA.out i (.inr (hq77 i hi)); omega)
                have NB9 := NB7.fr hfr9 (fun h => by have := hge nbB h; have := hqB.out nbB (.inl rfl); omega) (fun h => by have := hge mbB h; have := hqB.out nbB (.inl rfl); have := NB7.mlt; omega) (fun i hi h => by have := hge i h; have := (NB7.ownb i hi).1; have := hqB.out nbB (.inl rfl); omega) (fun i hi h => by have := hge i h; have := hqB.out i (.inr hi); omega)
                have K9 := K7.grown hgr (fun i hi => by have := hge i hi; have := hvw.out; omega)
                have hz9 := hgr.size
                have HD9 : Hid (DInv N'' ∧ (xs ++ out) ++ N''.fly.map msgOf = N.fly.map msgOf ∧ N''.copies ≤ 60 ∧ N''.sent ≤ 60 ∧ N''.delivered + (N''.fly.length : Int) ≤ 60 ∧ N''.lost ≤ 60) := hid (by
                  obtain ⟨d1, d2, d3, d4, d5, d6, d7, d8, d9⟩ := HD2.out
                  obtain ⟨f1, f2, f3, f4, f5, f6⟩ := HD.out
                  refine ⟨d1, by rw [List.append_assoc, d3]; exact f2, by omega, by omega, by omega, by omega⟩)
                have hlt9 := hid HD2.out.2.2.2.1
                clear NB7 O7 E7 N7 hEB own7 em7 hgrow9 hat9 hnil9 hfr9 hgr hat K7 hge
                go_roundg (N'.fly.length)
                case measure => exact HGK.out
                case rel => exact ⟨N'', sv7, css ++ css7, xs ++ out, _, hlt9.out, NA9, NB9, hid hq77, K9, HD9, O9, E9, by omega⟩
    · rw [decide_eq_false h300]
      go_wp2
      go_ret
      exact ⟨rfl, k1⟩
end Go.Proofs.Ytmokpnkpfodppaa
