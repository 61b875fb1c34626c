/-
The laws' own example of chapter 50: plain facts.
What the laws' own example of chapter 50 returns: true.
Whether two lists of messages are the same; few fates: the walks.
What arrives is what was sent: plain facts; a network without fates and cuts.
Two copies of one message: plain facts; where a message's clock lies.
-/
import Derived.Test.YtmokpnkpfodppaaND
import Derived.Test.YtmokpnkpfodppaaNB
namespace Go.Proofs.Ytmokpnkpfodppaa
set_option linter.unusedSimpArgs false
set_option linter.unusedVariables false
open Go.RowKit

def awF : List Fate := [⟨false, 3, 0⟩, ⟨false, 1, 2⟩]
def awM (k : Int) : Message := ⟨0, 0, 1, [], [], [], ⟨0, 0, 0, 0, 0, []⟩, k, 0, 0, 0, false, []⟩
def aw1 : Net := (sendN (newN 2 awF) (awM 1) 0).1
def aw2 : Net := (sendN aw1 (awM 2) 0).1
def aw3 : Net := (deliverN aw2 1).1
def aw4 : Net := (deliverN aw3 2).1
def aw5 : Net := (deliverN aw4 3).1
theorem aw_new : badNew 2 awF = false := by decide +kernel
theorem aw_s1 : (sendN (newN 2 awF) (awM 1) 0).2 = 0 := by decide +kernel
theorem aw_s2 : (sendN aw1 (awM 2) 0).2 = 0 := by decide +kernel
theorem aw_l2 : aw2.fly.length = 3 := by decide +kernel
theorem aw_k2 : linkedB aw2.reps aw2.cuts 0 1 = true := by decide +kernel
theorem aw_d1 : (deliverN aw2 1).2.2 = 0 := by decide +kernel
theorem aw_d2 : (deliverN aw3 2).2.2 = 0 := by decide +kernel
theorem aw_d3 : (deliverN aw4 3).2.2 = 0 := by decide +kernel
theorem aw_o1 : (deliverN aw2 1).2.1.map (·.term) = [2] := by decide +kernel
theorem aw_o2 : (deliverN aw3 2).2.1.map (·.term) = [2] := by decide +kernel
theorem aw_o3 : (deliverN aw4 3).2.1.map (·.term) = [1] := by decide +kernel
theorem aw_l5 : aw5.fly.length = 0 := by decide +kernel
theorem aw_few : Few (newN 2 awF) ∧ Few aw1 ∧ Few aw2 ∧ Few aw3 ∧ Few aw4 := by unfold Few; decide +kernel
end Go.Proofs.Ytmokpnkpfodppaa
namespace Go.Proofs.Ytmokpnkpfodppaa
set_option linter.unusedSimpArgs false
set_option linter.unusedVariables false
open Go.RowKit

section
variable {lo nb mb : Nat} {vf sv : Value} {w : World} {N : Net}
theorem NetW.qb_lt (h : NetW lo nb mb vf sv w N) : ∀ i, Qb nb sv i → i < w.heap.size := fun i hi => by
  obtain ⟨Q, own, -⟩ := h.fl
  rcases hi with rfl | hi
  · exact h.lt
  · exact own.blk_lt i hi
theorem NetW.qb_ge (h : NetW lo nb mb vf sv w N) : ∀ i, Qb nb sv i → lo ≤ i := fun i hi => by
  obtain ⟨Q, own, -⟩ := h.fl
  have h1 := h.mlo
  have h2 := h.mlt
  rcases hi with rfl | hi
  · omega
  · have := own.ge i hi
    omega
end
theorem litFates (w : World) (t : TypeId) (l : List Fate) (cs : Array Value) (h : cs.toList = flat encFate l) (hl : l.length ≤ 1000) (n : Nat) (hn : n = l.length) : Fates (w.alloc (.cells cs t)) (.slice (some ⟨w.heap.size, 0, none⟩) n n) l := by
  subst hn
  exact (Own.lit (base := w.heap.size) encFate (e := t) (size := 3) w cs l (Nat.le_refl _) (by omega) (by have h2 := congrArg List.length h; rw [flat_length encFate_len] at h2; simpa using h2) h).sl encFate_len
theorem rdMsg_term {w : World} {cs : List Value} {x : Message} (h : rdMsg w cs x) : cs[12]? = some (.int .i64 x.term) := by
  obtain ⟨v3, v4, v5, v6, v7, e, -⟩ := h
  injection e with e
  have := congrArg (fun a : Array Value => a[12]?) e
  simpa using this
/-- one message: where its term stands -/
theorem del_one {base top : Nat} {w : World} {v : Value} {css : List (Elm 18)} {xs : List Message} {n : Int} (own : Own encC 34 18 base w v css) (em : EmX rdMsg base top w v.ownBlock css xs) (h : xs.map (·.term) = [n]) :
    ∃ g c, v = .slice (some ⟨g, 0, none⟩) 1 c ∧ 1 ≤ c ∧ c ≤ 9223372036854775807 ∧ base ≤ g ∧ g < w.heap.size ∧ w.cell? ⟨g, 12, none⟩ = some (.int .i64 n) := by
  have hl : xs.length = 1 := by have := congrArg List.length h; simpa using this
  have hs := (em.fin own).here
  obtain ⟨g, c, hv, h1, h2, h3, h4⟩ := own.row (by rw [em.1]; omega)
  rw [em.1, hl] at hv h1
  subst hv
  obtain ⟨b, o, cs, hA, hb, hcs, hc, hr⟩ := hs.at_ (k := 0) (by omega)
  injection hA with hA
  injection hA with e1 e2
  subst e1 e2
  have h5 := hc 12 _ (rdMsg_term hr)
  have h6 : xs[0].term = n := by
    cases xs with
    | nil => simp at hl
    | cons x xs => simp at h; exact h.1
  rw [h6] at h5
  exact ⟨g, c, rfl, h1, h2, h3, h4, by simpa using h5⟩
theorem qb_sub {lo nb mb g : Nat} {vf sv sv' : Value} {w : World} {N : Net} (hq : ∀ k, sv'.ownBlock = some k → sv.ownBlock = some k) (h : NetW lo nb mb vf sv w N) (hg : w.heap.size ≤ g) : ¬ Qb nb sv' g := fun hh => by
  have := h.qb_lt g (by rcases hh with h | h; exact .inl h; exact .inr (hq _ h))
  omega
set_option maxRecDepth 8000 in
set_option maxHeartbeats 4000000 in
theorem awake50_any (w : World) : Calls Try.prog 8 #[] w fun e w' => e = .returned (.bool true) ∧ Kp w w' := by
  have kA := (Kp.refl w).alloc (.cells #[.bool false, .int .i64 3, .int .i64 0, .bool false, .int .i64 1, .int .i64 2] 47)
  have hS := litFates w 47 awF #[.bool false, .int .i64 3, .int .i64 0, .bool false, .int .i64 1, .int .i64 2] rfl (by decide) 2 rfl
  have hzA := kA.size
  go_enter Try.func8, Try.ntmps8
  go_wp2_with fail
  generalize w.alloc (.cells #[.bool false, .int .i64 3, .int .i64 0, .bool false, .int .i64 1, .int .i64 2] 47) = wA at *
  refine (nNew_any 2 _ awF wA hS (by decide)).mono ?_
  rintro e w1 ⟨hr, k1⟩
  rcases hr with ⟨hb, -⟩ | ⟨-, nb, mb, vf, rfl, N1⟩
  · rw [aw_new] at hb
    cases hb
  clear hS
  replace k1 := kA.trans k1
  go_wp2_with fail
  refine (nSend_any _ nb mb vf _ _ _ (awM 1) 0 w1 N1 aw_few.1 ⟨_, _, _, _, _, rfl, Sl.nil _ _ _, Sl.nil _ _ _, Sl.nil _ _ _, Sl.nil _ _ _, Sl.nil _ _ _⟩ (by unfold Room; decide +kernel)).mono ?_
  rintro e w2 ⟨rfl, sv2, N2, fr2, -⟩
  rw [aw_s1]
  replace N2 : NetW wA.heap.size nb mb vf sv2 w2 aw1 := N2
  have k2 := fr2.to_kp k1 fun i hi => Nat.le_trans hzA (N1.qb_ge i hi)
  clear N1 fr2 k1
  go_wp2_with fail
  refine (nSend_any _ nb mb vf _ _ _ (awM 2) 0 w2 N2 aw_few.2.1 ⟨_, _, _, _, _, rfl, Sl.nil _ _ _, Sl.nil _ _ _, Sl.nil _ _ _, Sl.nil _ _ _, Sl.nil _ _ _⟩ (by unfold Room; decide +kernel)).mono ?_
  rintro e w3 ⟨rfl, sv3, N3, fr3, -⟩
  rw [aw_s2]
  replace N3 : NetW wA.heap.size nb mb vf sv3 w3 aw2 := N3
  have k3 := fr3.to_kp k2 fun i hi => Nat.le_trans hzA (N2.qb_ge i hi)
  clear N2 fr3 k2
  go_wp2_with fail
  refine (nInFlight_any _ nb mb vf _ _ _ N3).mono ?_
  rintro e w4 ⟨rfl, rfl⟩
  rw [aw_l2]
  obtain ⟨es, clock, hmp, hmo⟩ := N3.mp
  have c0 := N3.box.cell (j := 0) rfl
  have c3 := N3.box.cell (j := 3) rfl
  go_wp2_with fail
  refine (nLinked_any nb mb clock _ _ _ es _ _ c0 c3 hmp hmo).mono ?_
  rintro e w5 ⟨rfl, k5⟩
  rw [aw_k2]
  have N5 := N3.kp k5
  replace k5 := k3.trans k5
  clear c0 c3 hmp hmo N3 k3
  go_wp2_with fail
  refine (nDeliver_any _ nb mb vf _ aw2 1 w5 N5 aw_few.2.2.1).mono ?_
  rintro e w6 ⟨va, rfl, sv6, top6, css6, N6, fr6, hq6, own6, em6⟩
  rw [aw_d1]
  replace N6 : NetW wA.heap.size nb mb vf sv6 w6 aw3 := N6
  obtain ⟨ga, ca, rfl, ha1, ha2, ha3, ha4, ha5⟩ := del_one own6 em6 aw_o1
  have hga := qb_sub hq6 N5 ha3
  have k6 := fr6.to_kp k5 fun i hi => Nat.le_trans hzA (N5.qb_ge i hi)
  clear N5 fr6 k5 own6 em6 hq6
  go_wp2_with fail
  refine (nDeliver_any _ nb mb vf _ aw3 2 w6 N6 aw_few.2.2.2.1).mono ?_
  rintro e w7 ⟨vb, rfl, sv7, top7, css7, N7, fr7, hq7, own7, em7⟩
  rw [aw_d2]
  replace N7 : NetW wA.heap.size nb mb vf sv7 w7 aw4 := N7
  obtain ⟨gb, cb, rfl, hb1, hb2, hb3, hb4, hb5⟩ := del_one own7 em7 aw_o2
  have hgb := qb_sub hq7 N6 hb3
  have ha6 := fr7.cellS ha5 hga
  have hga2 : ¬ Qb nb sv7 ga := fun h => hga (by rcases h with h | h; exact .inl h; exact .inr (hq7 _ h))
  have k7 := fr7.to_kp k6 fun i hi => Nat.le_trans hzA (N6.qb_ge i hi)
  clear N6 fr7 k6 own7 em7 hq7 ha5 hga ha4
  go_wp2_with fail
  refine (nDeliver_any _ nb mb vf _ aw4 3 w7 N7 aw_few.2.2.2.2).mono ?_
  rintro e w8 ⟨vc, rfl, sv8, top8, css8, N8, fr8, hq8, own8, em8⟩
  rw [aw_d3]
  replace N8 : NetW wA.heap.size nb mb vf sv8 w8 aw5 := N8
  obtain ⟨gc, cc, rfl, hc1, hc2, hc3, hc4, hc5⟩ := del_one own8 em8 aw_o3
  have ha7 := fr8.cellS ha6 hga2
  have hb7 := fr8.cellS hb5 hgb
  have k8 := fr8.to_kp k7 fun i hi => Nat.le_trans hzA (N7.qb_ge i hi)
  clear N7 fr8 k7 own8 em8 hq8 ha6 hga2 hb5 hgb hb4
  have hga := block_lt_of_cell ha7
  have hgb := block_lt_of_cell hb7
  go_wp2_with fail
  refine (nInFlight_any _ nb mb vf _ _ _ N8).mono ?_
  rintro e w9 ⟨rfl, rfl⟩
  rw [aw_l5]
  go_wp2_with fail
  go_ret
  exact ⟨rfl, k8⟩
end Go.Proofs.Ytmokpnkpfodppaa
namespace Go.Proofs.Ytmokpnkpfodppaa
set_option linter.unusedSimpArgs false
set_option linter.unusedVariables false
open Go.RowKit

theorem rdMsg_stable : Stable rdMsg := fun _ _ _ _ k h => MessageV.kp h k
abbrev Msgs := Sl rdMsg 18
theorem few50_any (A : Option Addr) (n c : Nat) (w : World) : Calls Try.prog 17 #[.slice A n c] w fun e w' => e = .returned (.bool (decide (n ≤ 300))) ∧ w' = w := by
  go_enter Try.func17, Try.ntmps17
  go_wp2
  go_ret
  exact ⟨by simp; omega, rfl⟩
/-- an element's cells -/
theorem Sl.msg {w : World} {A : Option Addr} {n c : Nat} {l : List Message} (h : Msgs w (.slice A n c) l) {k : Nat} (hk : k < l.length) :
    ∃ b o cs, A = some ⟨b, o, none⟩ ∧ b < w.heap.size ∧ cs.length = 18 ∧ w.rangeAt b (o + k * 18) cs ∧ MessageV w (.agg cs.toArray) l[k] := by
  obtain ⟨b, o, cs, hA, hb, hcs, hc, hr⟩ := h.at_ hk
  exact ⟨b, o, cs, hA, hb, hcs, fun j v hj => hc j v hj, hr⟩
def sameM (xs ys : List Message) : Bool := decide (xs.map numMessage = ys.map numMessage)
set_option maxRecDepth 8000 in
set_option maxHeartbeats 4000000 in
theorem Same50_any (va vb : Value) (xs ys : List Message) (w : World) (ha : Msgs w va xs) (hb : Msgs w vb ys) (lx : ∀ x ∈ xs, (numMessage x).length ≤ 1000000000) (ly : ∀ x ∈ ys, (numMessage x).length ≤ 1000000000) :
    Calls Try.prog 13 #[va, vb] w fun e w' => e = .returned (.bool (sameM xs ys)) ∧ Kp w w' := by
  obtain ⟨A, ca, rfl, hca, hma⟩ := ha.form
  obtain ⟨B, cb, rfl, hcb, hmb⟩ := hb.form
  have HLX := hid lx
  have HLY := hid ly
  clear lx ly
  by_cases hl : xs.length = ys.length
  · generalize hR : sameM xs ys = R
    have HR : Hid (R = sameM (xs.drop 0) (ys.drop 0)) := hid (by rw [← hR]; simp)
    have e1 : ((xs.length : Int) != (ys.length : Int)) = false := by rw [hl]; simp
    have e2 : (xs.length != ys.length) = false := by rw [hl]; simp
    have HL := hid hl
    clear hR hl
    go_enter Try.func13, Try.ntmps13
    go_wp2
    go_loopw [5] (fun i wr => ∃ k : Nat, k ≤ xs.length ∧ i = .int .i64 (k : Int) ∧ Hid (R = sameM (xs.drop k) (ys.drop k)) ∧ Kp w wr) (fun i _ => xs.length - (intOf i).toNat)
    case atStart => exact ⟨0, Nat.zero_le _, rfl, HR, Kp.refl _⟩
    case round =>
      clear HR
      obtain ⟨k, hk, rfl, HR, hbel⟩ := hrel
      by_cases hlt : k < xs.length
      · have hlty : k < ys.length := by rw [← HL.out]; exact hlt
        obtain ⟨g, o, cs, rfl, hg, hcs, hr, hv⟩ := (ha.keep rdMsg_stable hbel).msg hlt
        obtain ⟨g', o', cs', rfl, hg', hcs', hr', hv'⟩ := (hb.keep rdMsg_stable hbel).msg hlty
        have HDX := hid (List.drop_eq_getElem_cons hlt)
        have HDY := hid (List.drop_eq_getElem_cons hlty)
        have HA := hid (HLX.out _ (List.getElem_mem hlt))
        have HB := hid (HLY.out _ (List.getElem_mem hlty))
        clear ha hb
        generalize xs[k] = x at *
        generalize ys[k] = y at *
        have hi : Hid ((Try.prog.info? 34).map (·.size) = some cs.length) := hid (by rw [hcs]; kernel_rfl)
        have hi' : Hid ((Try.prog.info? 34).map (·.size) = some cs'.length) := hid (by rw [hcs']; kernel_rfl)
        have hlx : (k : Int) < (xs.length : Int) := by omega
        have hly : (k : Int) < (ys.length : Int) := by omega
        have HCS := hid hcs
        have HCS' := hid hcs'
        clear hcs hcs'
        cases hd : decide (numMessage x = numMessage y) with
        | true =>
          have hd' := hid hd
          have HF : Hid (R = sameM (xs.drop (k + 1)) (ys.drop (k + 1))) := hid (by
            rw [HR.out, HDX.out, HDY.out]
            have := of_decide_eq_true hd
            simp [sameM, this])
          clear hd
          go_upto_region 6 with (fail)
          refine G2.wp_region_growG Kp [] 9 27 (G2.pvL [G2.eqv (.slice (some ⟨g, o, none⟩) xs.length ca), G2.eqv (.int .i64 (k : Int)), G2.eqv (.pointer (some ⟨g, o + k * 18, none⟩)), G2.eqv (.agg cs.toArray), G2.eqv (.slice (some ⟨g', o', none⟩) ys.length cb), G2.eqv (.int .i64 (k : Int)), G2.eqv (.pointer (some ⟨g', o' + k * 18, none⟩)), G2.eqv (.agg cs'.toArray), G2.eqv (.bool true)]) (by kernel_rfl) (by kernel_rfl) rfl (fun x => Kp.refl x) (fun _ _ _ h k => h.trans k) (Kp.refl _).drew (fun _ _ _ _ _ h => h) (G2.pvL_keep (G2.stabL_cons (G2.stab_eq _) (G2.stabL_cons (G2.stab_eq _) (G2.stabL_cons (G2.stab_eq _) (G2.stabL_cons (G2.stab_eq _) (G2.stabL_cons (G2.stab_eq _) (G2.stabL_cons (G2.stab_eq _) (G2.stabL_cons (G2.stab_eq _) (G2.stabL_cons (G2.stab_eq _) (G2.stabL_cons (G2.stab_eq _) (G2.stabL_nil))))))))))) ?_ ?_ ?_
          · intro i0 hi0
            have hi' : i0 = 0 ∨ i0 = 1 ∨ i0 = 2 ∨ i0 = 3 ∨ i0 = 4 ∨ i0 = 5 ∨ i0 = 6 ∨ i0 = 7 ∨ i0 = 8 := by omega
            rcases hi' with rfl | rfl | rfl | rfl | rfl | rfl | rfl | rfl | rfl
            · intro a w' hk hF hD K hK
              simp only [List.getElem?_toArray, List.getElem?_cons_zero, List.getElem?_cons_succ, Option.map_some, Option.getD_some]
              have h0 : a.tmps[0]?.getD undef = .slice (some ⟨g, o, none⟩) xs.length ca := hF 0 (by kernel_rfl)
              clear hF hD
              go_simp
              exact hK.out _ _ (Kp.refl _) rfl
            · intro a w' hk hF hD K hK
              simp only [List.getElem?_toArray, List.getElem?_cons_zero, List.getElem?_cons_succ, Option.map_some, Option.getD_some]
              have h5 : a.tmps[5]?.getD undef = .int .i64 (k : Int) := hF 5 (by kernel_rfl)
              clear hF hD
              go_simp
              exact hK.out _ _ (Kp.refl _) rfl
            · intro a w' hk hF hD K hK
              simp only [List.getElem?_toArray, List.getElem?_cons_zero, List.getElem?_cons_succ, Option.map_some, Option.getD_some]
              have h17 : a.tmps[17]?.getD undef = .slice (some ⟨g, o, none⟩) xs.length ca := hD 0 (by kernel_rfl)
              have h18 : a.tmps[18]?.getD undef = .int .i64 (k : Int) := hD 1 (by kernel_rfl)
              clear hF hD
              go_simp
              exact hK.out _ _ (Kp.refl _) rfl
            · intro a w' hk hF hD K hK
              simp only [List.getElem?_toArray, List.getElem?_cons_zero, List.getElem?_cons_succ, Option.map_some, Option.getD_some]
              have h19 : a.tmps[19]?.getD undef = .pointer (some ⟨g, o + k * 18, none⟩) := hD 2 (by kernel_rfl)
              clear hF hD
              rw [if_pos (show Region.wanted _ _ = true from rfl)]
              refine wp_load_mid 34 (.tmp 19) rfl g (o + k * 18) (by simpa [Act.eval] using h19) cs _ (hk.range hr) Try.underlying34 rfl hi.out ?_
              exact hK.out _ _ (Kp.refl _) rfl
            · intro a w' hk hF hD K hK
              simp only [List.getElem?_toArray, List.getElem?_cons_zero, List.getElem?_cons_succ, Option.map_some, Option.getD_some]
              have h1 : a.tmps[1]?.getD undef = .slice (some ⟨g', o', none⟩) ys.length cb := hF 1 (by kernel_rfl)
              clear hF hD
              go_simp
              exact hK.out _ _ (Kp.refl _) rfl
            · intro a w' hk hF hD K hK
              simp only [List.getElem?_toArray, List.getElem?_cons_zero, List.getElem?_cons_succ, Option.map_some, Option.getD_some]
              have h5 : a.tmps[5]?.getD undef = .int .i64 (k : Int) := hF 5 (by kernel_rfl)
              clear hF hD
              go_simp
              exact hK.out _ _ (Kp.refl _) rfl
            · intro a w' hk hF hD K hK
              simp only [List.getElem?_toArray, List.getElem?_cons_zero, List.getElem?_cons_succ, Option.map_some, Option.getD_some]
              have h21 : a.tmps[21]?.getD undef = .slice (some ⟨g', o', none⟩) ys.length cb := hD 4 (by kernel_rfl)
              have h22 : a.tmps[22]?.getD undef = .int .i64 (k : Int) := hD 5 (by kernel_rfl)
              clear hF hD
              go_simp
              exact hK.out _ _ (Kp.refl _) rfl
            · intro a w' hk hF hD K hK
              simp only [List.getElem?_toArray, List.getElem?_cons_zero, List.getElem?_cons_succ, Option.map_some, Option.getD_some]
              have h23 : a.tmps[23]?.getD undef = .pointer (some ⟨g', o' + k * 18, none⟩) := hD 6 (by kernel_rfl)
              clear hF hD
              rw [if_pos (show Region.wanted _ _ = true from rfl)]
              refine wp_load_mid 34 (.tmp 23) rfl g' (o' + k * 18) (by simpa [Act.eval] using h23) cs' _ (hk.range hr') Try.underlying34 rfl hi'.out ?_
              exact hK.out _ _ (Kp.refl _) rfl
            · intro a w' hk hF hD K hK
              simp only [List.getElem?_toArray, List.getElem?_cons_zero, List.getElem?_cons_succ, Option.map_some, Option.getD_some]
              have h20 : a.tmps[20]?.getD undef = .agg cs.toArray := hD 3 (by kernel_rfl)
              have h24 : a.tmps[24]?.getD undef = .agg cs'.toArray := hD 7 (by kernel_rfl)
              clear hF hD
              go_simp
              refine (SameMessage_any _ _ x y _ (hv.kp hk) (hv'.kp hk) HA.out HB.out).mono ?_
              rw [hd'.out]
              rintro e w9 ⟨rfl, hk9⟩
              exact hK.out _ _ hk9 rfl
          · exact fun i0 hi0 => by simp at hi0
          intro v w9 k9 hv
          have v8 : v 8 = .bool true := hv 8 (by omega)
          clear hv
          simp only [G2.growPut, G2.gSlot, List.getElem?_toArray, List.getElem?_cons_zero, List.getElem?_cons_succ, Option.bind_some, List.setIfInBounds_toArray, List.set_cons_zero, List.set_cons_succ, List.drop_succ_cons, List.drop_zero, v8]
          have hbel9 := hbel.trans k9
          go_wp2_with fail
          go_roundw
          case rel => exact ⟨k + 1, by omega, by go_num, HF, hbel9⟩
          case measure => simp [intOf]; omega
        | false =>
          have hd' := hid hd
          have HF : Hid (R = false) := hid (by
            rw [HR.out, HDX.out, HDY.out]
            have := of_decide_eq_false hd
            simp [sameM, this])
          clear hd
          go_upto_region 6 with (fail)
          refine G2.wp_region_growG Kp [] 9 27 (G2.pvL [G2.eqv (.slice (some ⟨g, o, none⟩) xs.length ca), G2.eqv (.int .i64 (k : Int)), G2.eqv (.pointer (some ⟨g, o + k * 18, none⟩)), G2.eqv (.agg cs.toArray), G2.eqv (.slice (some ⟨g', o', none⟩) ys.length cb), G2.eqv (.int .i64 (k : Int)), G2.eqv (.pointer (some ⟨g', o' + k * 18, none⟩)), G2.eqv (.agg cs'.toArray), G2.eqv (.bool false)]) (by kernel_rfl) (by kernel_rfl) rfl (fun x => Kp.refl x) (fun _ _ _ h k => h.trans k) (Kp.refl _).drew (fun _ _ _ _ _ h => h) (G2.pvL_keep (G2.stabL_cons (G2.stab_eq _) (G2.stabL_cons (G2.stab_eq _) (G2.stabL_cons (G2.stab_eq _) (G2.stabL_cons (G2.stab_eq _) (G2.stabL_cons (G2.stab_eq _) (G2.stabL_cons (G2.stab_eq _) (G2.stabL_cons (G2.stab_eq _) (G2.stabL_cons (G2.stab_eq _) (G2.stabL_cons (G2.stab_eq _) (G2.stabL_nil))))))))))) ?_ ?_ ?_
          · intro i0 hi0
            have hi' : i0 = 0 ∨ i0 = 1 ∨ i0 = 2 ∨ i0 = 3 ∨ i0 = 4 ∨ i0 = 5 ∨ i0 = 6 ∨ i0 = 7 ∨ i0 = 8 := by omega
            rcases hi' with rfl | rfl | rfl | rfl | rfl | rfl | rfl | rfl | rfl
            · intro a w' hk hF hD K hK
              simp only [List.getElem?_toArray, List.getElem?_cons_zero, List.getElem?_cons_succ, Option.map_some, Option.getD_some]
              have h0 : a.tmps[0]?.getD undef = .slice (some ⟨g, o, none⟩) xs.length ca := hF 0 (by kernel_rfl)
              clear hF hD
              go_simp
              exact hK.out _ _ (Kp.refl _) rfl
            · intro a w' hk hF hD K hK
              simp only [List.getElem?_toArray, List.getElem?_cons_zero, List.getElem?_cons_succ, Option.map_some, Option.getD_some]
              have h5 : a.tmps[5]?.getD undef = .int .i64 (k : Int) := hF 5 (by kernel_rfl)
              clear hF hD
              go_simp
              exact hK.out _ _ (Kp.refl _) rfl
            · intro a w' hk hF hD K hK
              simp only [List.getElem?_toArray, List.getElem?_cons_zero, List.getElem?_cons_succ, Option.map_some, Option.getD_some]
              have h17 : a.tmps[17]?.getD undef = .slice (some ⟨g, o, none⟩) xs.length ca := hD 0 (by kernel_rfl)
              have h18 : a.tmps[18]?.getD undef = .int .i64 (k : Int) := hD 1 (by kernel_rfl)
              clear hF hD
              go_simp
              exact hK.out _ _ (Kp.refl _) rfl
            · intro a w' hk hF hD K hK
              simp only [List.getElem?_toArray, List.getElem?_cons_zero, List.getElem?_cons_succ, Option.map_some, Option.getD_some]
              have h19 : a.tmps[19]?.getD undef = .pointer (some ⟨g, o + k * 18, none⟩) := hD 2 (by kernel_rfl)
              clear hF hD
              rw [if_pos (show Region.wanted _ _ = true from rfl)]
              refine wp_load_mid 34 (.tmp 19) rfl g (o + k * 18) (by simpa [Act.eval] using h19) cs _ (hk.range hr) Try.underlying34 rfl hi.out ?_
              exact hK.out _ _ (Kp.refl _) rfl
            · intro a w' hk hF hD K hK
              simp only [List.getElem?_toArray, List.getElem?_cons_zero, List.getElem?_cons_succ, Option.map_some, Option.getD_some]
              have h1 : a.tmps[1]?.getD undef = .slice (some ⟨g', o', none⟩) ys.length cb := hF 1 (by kernel_rfl)
              clear hF hD
              go_simp
              exact hK.out _ _ (Kp.refl _) rfl
            · intro a w' hk hF hD K hK
              simp only [List.getElem?_toArray, List.getElem?_cons_zero, List.getElem?_cons_succ, Option.map_some, Option.getD_some]
              have h5 : a.tmps[5]?.getD undef = .int .i64 (k : Int) := hF 5 (by kernel_rfl)
              clear hF hD
              go_simp
              exact hK.out _ _ (Kp.refl _) rfl
            · intro a w' hk hF hD K hK
              simp only [List.getElem?_toArray, List.getElem?_cons_zero, List.getElem?_cons_succ, Option.map_some, Option.getD_some]
              have h21 : a.tmps[21]?.getD undef = .slice (some ⟨g', o', none⟩) ys.length cb := hD 4 (by kernel_rfl)
              have h22 : a.tmps[22]?.getD undef = .int .i64 (k : Int) := hD 5 (by kernel_rfl)
              clear hF hD
              go_simp
              exact hK.out _ _ (Kp.refl _) rfl
            · intro a w' hk hF hD K hK
              simp only [List.getElem?_toArray, List.getElem?_cons_zero, List.getElem?_cons_succ, Option.map_some, Option.getD_some]
              have h23 : a.tmps[23]?.getD undef = .pointer (some ⟨g', o' + k * 18, none⟩) := hD 6 (by kernel_rfl)
              clear hF hD
              rw [if_pos (show Region.wanted _ _ = true from rfl)]
              refine wp_load_mid 34 (.tmp 23) rfl g' (o' + k * 18) (by simpa [Act.eval] using h23) cs' _ (hk.range hr') Try.underlying34 rfl hi'.out ?_
              exact hK.out _ _ (Kp.refl _) rfl
            · intro a w' hk hF hD K hK
              simp only [List.getElem?_toArray, List.getElem?_cons_zero, List.getElem?_cons_succ, Option.map_some, Option.getD_some]
              have h20 : a.tmps[20]?.getD undef = .agg cs.toArray := hD 3 (by kernel_rfl)
              have h24 : a.tmps[24]?.getD undef = .agg cs'.toArray := hD 7 (by kernel_rfl)
              clear hF hD
              go_simp
              refine (SameMessage_any _ _ x y _ (hv.kp hk) (hv'.kp hk) HA.out HB.out).mono ?_
              rw [hd'.out]
              rintro e w9 ⟨rfl, hk9⟩
              exact hK.out _ _ hk9 rfl
          · exact fun i0 hi0 => by simp at hi0
          intro v w9 k9 hv
          have v8 : v 8 = .bool false := hv 8 (by omega)
          clear hv
          simp only [G2.growPut, G2.gSlot, List.getElem?_toArray, List.getElem?_cons_zero, List.getElem?_cons_succ, Option.bind_some, List.setIfInBounds_toArray, List.set_cons_zero, List.set_cons_succ, List.drop_succ_cons, List.drop_zero, v8]
          have hbel9 := hbel.trans k9
          go_wp2
          go_ret
          exact ⟨by rw [HF.out]; rfl, hbel9⟩
      · have HF : Hid (R = true) := hid (by rw [HR.out, List.drop_of_length_le (by omega), List.drop_of_length_le (by have := HL.out; omega)]; rfl)
        go_wp2
        go_ret
        exact ⟨by rw [HF.out]; rfl, hbel⟩
  · have HF : Hid (sameM xs ys = false) := hid (by
      unfold sameM
      refine decide_eq_false fun h => hl ?_
      have := congrArg List.length h
      simpa using this)
    have e1 : ((xs.length : Int) != (ys.length : Int)) = true := by simp; omega
    have e2 : (xs.length != ys.length) = true := by simpa using hl
    replace hl := hid hl
    rw [HF.out]
    go_enter Try.func13, Try.ntmps13
    go_wp2
    go_ret
    exact ⟨rfl, Kp.refl _⟩
end Go.Proofs.Ytmokpnkpfodppaa
namespace Go.Proofs.Ytmokpnkpfodppaa
set_option linter.unusedSimpArgs false
set_option linter.unusedVariables false
open Go.RowKit

theorem encE_zero {l : List Int} {bs : List UInt8} (h : encE l = (bs, 0)) : encB l = bs ∧ (∀ n ∈ l, OkI n) ∧ bs.length ≤ 65536 := by
  unfold encE at h
  split at h
  · simp at h
  · rename_i ho
    split at h
    · simp at h
    · rename_i hb
      simp only [Prod.mk.injEq, and_true] at h
      subst h
      refine ⟨rfl, fun n hn => outI_ok ?_, by omega⟩
      by_cases hx : outI n = true
      · exact absurd (List.any_eq_true.2 ⟨n, hn, hx⟩) ho
      · simpa using hx
theorem decE_of {l : List Int} {bs : List UInt8} (h1 : encB l = bs) (h2 : ∀ n ∈ l, OkI n) (h3 : bs.length ≤ 65536) : decE bs = (l, 0) := by
  unfold decE
  rw [if_neg (by omega), (dec_iff bs l).2 ⟨h1, h2⟩]
  rfl
theorem read_enc {α : Type} {P : Ps α} {f : α → List Int} (hg : Good P f) {x : α} {bs : List UInt8} (h : encE (f x) = (bs, 0)) : readE P bs = (some x, 0) := by
  obtain ⟨h1, h2, h3⟩ := encE_zero h
  have hd := decE_of h1 h2 h3
  unfold readE
  rw [hd, if_pos rfl]
  have h4 := (hg (f x) x []).2 (by simp)
  dsimp only
  rw [h4]
theorem msgOf_enc {m : Message} (h : (encE (numMessage m)).2 = 0) (a b c d : Int) : msgOf ⟨a, b, c, d, (encE (numMessage m)).1⟩ = m := by
  have := read_enc (P := messageP) (f := numMessage) messageP_good (x := m) (bs := (encE (numMessage m)).1) (by rw [← h])
  unfold msgOf
  dsimp only
  rw [this]
  rfl
theorem insP_end (p : Par) : ∀ S, (∀ q ∈ S, ltP p q = false) → insP p S = S ++ [p]
  | [], _ => rfl
  | q :: S, h => by
    rw [insP, if_neg (by rw [h q (by simp)]; simp), insP_end p S fun x hx => h x (by simp [hx])]
    rfl
/-- no fates, no cuts: what is in flight in group g, after c messages -/
structure RInv (r : Int) (g c : Nat) (N : Net) (sent : List Message) : Prop where
  reps : N.reps = r
  fates : N.fates = []
  cuts : N.cuts = []
  tick : N.tick ≤ (g : Int)
  due : ∀ p ∈ N.fly, p.due = (g : Int) + 1 ∧ pairB r p.frm p.dst = true
  out : N.fly.map msgOf = sent
  c1 : N.copies ≤ (c : Int)
  c2 : N.sent ≤ (c : Int)
  c3 : N.delivered + (N.fly.length : Int) ≤ (c : Int)
  c4 : N.lost ≤ (c : Int)
theorem RInv.more {r : Int} {g c : Nat} {N : Net} {sent : List Message} (h : RInv r g c N sent) : RInv r g (c + 1) N sent :=
  ⟨h.reps, h.fates, h.cuts, h.tick, h.due, h.out, by have := h.c1; omega, by have := h.c2; omega, by have := h.c3; omega, by have := h.c4; omega⟩
theorem RInv.few {r : Int} {g c : Nat} {N : Net} {sent : List Message} (h : RInv r g c N sent) (hc : c ≤ 1000) (hp : 0 ≤ N.delivered) : Few N ∧ N.fly.length ≤ c :=
  ⟨⟨by have := h.c1; omega, by have := h.c2; omega, by have := h.c3; omega, by have := h.c4; omega⟩, by have := h.c3; omega⟩
theorem linked_nil {r a b : Int} : linkedB r [] a b = pairB r a b := by simp [linkedB, hasC]
theorem r_send {r : Int} {g c : Nat} {N : Net} {sent : List Message} (h : RInv r g c N sent) (ok : OkN N) (hg : g ≤ 100) (hc : c ≤ 100) (m : Message) :
    ((sendN N m g).2 = 0 → RInv r g (c + 1) (sendN N m g).1 (sent ++ [m])) ∧ ((sendN N m g).2 ≠ 0 → RInv r g (c + 1) (sendN N m g).1 sent) := by
  obtain ⟨-, hl⟩ := h.few (by omega) ok.pos.2.2.1
  have hf : fateOf N = ⟨false, 1, 0⟩ := by rw [fateOf, h.fates]; rfl
  have hlate : lateB N.tick (g : Int) = false := by
    have := h.tick
    simp [lateB]
    omega
  have hfull : fullB N m = false := by
    unfold fullB
    simp
    omega
  unfold sendN
  rw [h.reps, hlate, hfull]
  cases hp : pairB r m.sender m.to with
  | false =>
    rw [if_pos rfl]
    exact ⟨fun h => by simp at h, fun _ => h.more⟩
  | true =>
    rw [if_neg (by simp), if_neg (by simp)]
    by_cases he : (encE (numMessage m)).2 ≠ 0
    · rw [if_pos he]
      exact ⟨fun h => absurd h he, fun _ => h.more⟩
    · have he0 : (encE (numMessage m)).2 = 0 := by simpa using he
      have hlost : lostB N m = false := by
        rw [lostB, hf, h.reps, h.cuts, linked_nil, hp]
        rfl
      rw [if_neg he, if_neg (by simp), hlost, if_neg (by simp), hf]
      refine ⟨fun _ => ?_, fun h => absurd rfl h⟩
      dsimp only
      have hend : insP ⟨(g : Int) + 1, N.copies, m.sender, m.to, (encE (numMessage m)).1⟩ N.fly = N.fly ++ [⟨(g : Int) + 1, N.copies, m.sender, m.to, (encE (numMessage m)).1⟩] := insP_end _ _ fun q hq => by
        have h1 := (h.due q hq).1
        have h2 := ok.nums q hq
        rw [ltP_not]
        show ¬ ((g : Int) + 1 < q.due ∨ (g : Int) + 1 = q.due ∧ N.copies < q.num)
        omega
      have hN : [(1 : Int), 0].foldl (addC (g : Int) m (encE (numMessage m)).1) (sent1 N (g : Int)) = { sent1 N (g : Int) with fly := N.fly ++ [⟨(g : Int) + 1, N.copies, m.sender, m.to, (encE (numMessage m)).1⟩], copies := N.copies + 1 } := by
        rw [← hend]
        rfl
      rw [hN]
      refine ⟨h.reps, h.fates, h.cuts, Int.le_refl _, fun p hp' => ?_, ?_, by have := h.c1; show N.copies + 1 ≤ _; omega, by have := h.c2; show N.sent + 1 ≤ _; omega, ?_, by have := h.c4; show N.lost ≤ _; omega⟩
      · rcases List.mem_append.1 hp' with hp' | hp'
        · exact h.due p hp'
        · simp only [List.mem_singleton] at hp'
          subst hp'
          exact ⟨rfl, hp⟩
      · show (N.fly ++ [_]).map msgOf = _
        rw [List.map_append, h.out, List.map_cons, List.map_nil, msgOf_enc he0]
      · have := h.c3
        show N.delivered + ((N.fly ++ [_]).length : Int) ≤ _
        rw [List.length_append, List.length_singleton]
        omega
theorem takeWhile_all {α : Type} (p : α → Bool) : ∀ l : List α, (∀ x ∈ l, p x = true) → l.takeWhile p = l
  | [], _ => rfl
  | x :: l, h => by rw [List.takeWhile_cons_of_pos (h x (by simp)), takeWhile_all p l fun y hy => h y (by simp [hy])]
theorem r_deliver {r : Int} {g c : Nat} {N : Net} {sent : List Message} (h : RInv r g c N sent) (hg : g ≤ 100) :
    (deliverN N ((g : Int) + 1)).2 = (sent, 0) ∧ (deliverN N ((g : Int) + 1)).1.fly = [] ∧ RInv r (g + 1) c (deliverN N ((g : Int) + 1)).1 [] := by
  have hlate : lateB N.tick ((g : Int) + 1) = false := by
    have := h.tick
    simp [lateB]
    omega
  have hdue : dueL ((g : Int) + 1) N.fly = N.fly := takeWhile_all _ _ fun p hp => by have := (h.due p hp).1; simp; omega
  have hlk : N.fly.filter (lkP N) = N.fly := List.filter_eq_self.2 fun p hp => by
    rw [lkP, h.reps, h.cuts, linked_nil]
    exact (h.due p hp).2
  have hlk2 : N.fly.filter (fun p => !lkP N p) = [] := List.filter_eq_nil_iff.2 fun p hp => by
    rw [lkP, h.reps, h.cuts, linked_nil, (h.due p hp).2]
    simp
  have hout : outK N N.fly.length = sent := by rw [outK, List.take_length, hlk, h.out]
  unfold deliverN
  rw [hlate, if_neg (by simp), hdue, hout]
  refine ⟨rfl, by simp [delK], ?_⟩
  refine ⟨h.reps, h.fates, h.cuts, by show (g : Int) + 1 ≤ _; omega, fun p hp => by simp [delK] at hp, by simp [delK], h.c1, h.c2, ?_, ?_⟩
  · have := h.c3
    simp only [delK, List.take_length, hlk, List.drop_length, List.length_nil]
    omega
  · have := h.c4
    simp only [delK, List.take_length, hlk2, List.length_nil]
    omega
end Go.Proofs.Ytmokpnkpfodppaa
namespace Go.Proofs.Ytmokpnkpfodppaa
set_option linter.unusedSimpArgs false
set_option linter.unusedVariables false
open Go.RowKit

theorem encB_len9 : ∀ l : List Int, (∀ n ∈ l, OkI n) → (encB l).length ≤ 9 * l.length
  | [], _ => by simp [encB]
  | n :: l, h => by
    have h1 := digs_nine (h n (by simp))
    have h2 := encB_len9 l fun m hm => h m (by simp [hm])
    rw [encB_cons, List.length_append, List.length_cons]
    omega
theorem encE_small {l : List Int} (h : l.length ≤ 1000) : (encE l).2 = 0 ∨ (encE l).2 = 2 := by
  unfold encE
  split
  · exact .inr rfl
  · rename_i ho
    have h1 := encB_len9 l fun n hn => outI_ok (by
      by_cases hx : outI n = true
      · exact absurd (List.any_eq_true.2 ⟨n, hn, hx⟩) ho
      · simpa using hx)
    rw [if_neg (by omega)]
    exact .inl rfl
def freshF : List Fate := [⟨false, 1, 1⟩]
def freshN : Net := newN 2 freshF
def fresh1 (m : Message) : Net := { freshN with sent := 1, copies := 2, fly := [⟨1, 0, m.sender, m.to, (encE (numMessage m)).1⟩, ⟨1, 1, m.sender, m.to, (encE (numMessage m)).1⟩] }
theorem fresh_new : badNew 2 freshF = false := by decide +kernel
theorem fresh_send {m : Message} (hs : m.sender = 0) (ht : m.to = 1) (he : (encE (numMessage m)).2 = 0) : sendN freshN m 0 = (fresh1 m, 0) := by
  have hp : pairB freshN.reps m.sender m.to = true := by rw [hs, ht]; rfl
  have hl : lateB freshN.tick 0 = false := by decide +kernel
  have hf : fateOf freshN = ⟨false, 1, 1⟩ := rfl
  have hlk : linkedB freshN.reps freshN.cuts m.sender m.to = true := by rw [hs, ht]; rfl
  have hlo : lostB freshN m = false := by rw [lostB, hf, hlk]; rfl
  have hfu : fullB freshN m = false := by rw [fullB, hf, hlo]; rfl
  unfold sendN
  rw [hp, hl, he, hfu, hlo, hf]
  rfl
theorem fresh_no {m : Message} (hs : m.sender = 0) (ht : m.to = 1) (he : (encE (numMessage m)).2 ≠ 0) : sendN freshN m 0 = (freshN, (encE (numMessage m)).2) := by
  have hp : pairB freshN.reps m.sender m.to = true := by rw [hs, ht]; rfl
  have hl : lateB freshN.tick 0 = false := by decide +kernel
  unfold sendN
  rw [hp, hl, if_neg (by simp), if_neg (by simp), if_pos he]
theorem fresh_del {m : Message} (hs : m.sender = 0) (ht : m.to = 1) (he : (encE (numMessage m)).2 = 0) : (deliverN (fresh1 m) 1).2 = ([m, m], 0) := by
  have h1 := msgOf_enc he 1 0 m.sender m.to
  have h2 := msgOf_enc he 1 1 m.sender m.to
  have hlk : ∀ n, lkP (fresh1 m) ⟨1, n, m.sender, m.to, (encE (numMessage m)).1⟩ = true := fun n => by
    show linkedB freshN.reps freshN.cuts m.sender m.to = true
    rw [hs, ht]
    rfl
  have hl : lateB (fresh1 m).tick 1 = false := by
    show lateB freshN.tick 1 = false
    decide +kernel
  have hd : dueL 1 (fresh1 m).fly = (fresh1 m).fly := by
    unfold fresh1 dueL
    simp
  unfold deliverN
  rw [hl, if_neg (by simp), hd]
  have ho : outK (fresh1 m) (fresh1 m).fly.length = [m, m] := by
    unfold outK
    rw [List.take_length]
    have : (fresh1 m).fly.filter (lkP (fresh1 m)) = (fresh1 m).fly := List.filter_eq_self.2 fun p hp => by
      have hp : p = ⟨1, 0, m.sender, m.to, (encE (numMessage m)).1⟩ ∨ p = ⟨1, 1, m.sender, m.to, (encE (numMessage m)).1⟩ := by simpa [fresh1] using hp
      rcases hp with rfl | rfl
      · exact hlk 0
      · exact hlk 1
    rw [this]
    show [msgOf _, msgOf _] = _
    rw [h1, h2]
  rw [ho]
theorem fresh_few (m : Message) : Few freshN ∧ Few (fresh1 m) := ⟨by unfold Few; decide +kernel, ⟨by show (2 : Int) ≤ 1000000; omega, by show (1 : Int) ≤ 1000000; omega, by show (0 : Int) ≤ 1000000; omega, by show (0 : Int) ≤ 1000000; omega⟩⟩
/-- the clock of what lies in these blocks lies there -/
theorem clock_in {b t q o n c : Nat} {w : World} {cs : List Value} {x : Message} (h : Ow b t w fun w' => rdMsg w' cs x) (hc : cs[3]? = some (.slice (some ⟨q, o, none⟩) n c)) (hn : 0 < x.clock.length) : b ≤ q ∧ q < t := by
  have hcl : ∀ w', rdMsg w' cs x → w'.cell? ⟨q, o, none⟩ = some (.int .i64 x.clock[0]) := fun w' hr => by
    obtain ⟨v3, v4, v5, v6, v7, e, hi, -⟩ := hr
    injection e with e
    have e3 := congrArg (fun a : Array Value => a[3]?) e
    have e4 : cs[3]? = some v3 := by simpa using e3
    rw [hc] at e4
    injection e4 with e4
    subst e4
    obtain ⟨b', o', hA, -, h1⟩ := hi.ints hn
    injection hA with hA
    injection hA with a1 a2
    subst a1 a2
    simpa using h1
  have h0 := hcl w h.here
  by_cases hq : b ≤ q ∧ q < t
  · exact hq
  · exfalso
    have h1 := hcl (w.setCell ⟨q, o, none⟩ (.int .i64 (x.clock[0] + 1))) (h _ (by simp [World.setCell]) fun k hk1 hk2 => Below.heap_setCell w _ _ k (by show k ≠ q; omega))
    rw [World.cell?_setCell_same w _ _ h0] at h1
    injection h1 with h1
    injection h1 with _ h1
    omega
end Go.Proofs.Ytmokpnkpfodppaa
