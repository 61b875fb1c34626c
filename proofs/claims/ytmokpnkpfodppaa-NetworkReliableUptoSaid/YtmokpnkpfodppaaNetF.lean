
/-
Whether two lists of messages are the same; few fates: the walks.
-/
import Derived.Test.YtmokpnkpfodppaaAwake50
import Derived.Test.YtmokpnkpfodppaaNB
namespace Go.Proofs.Ytmokpnkpfodppaa
set_option linter.unusedSimpArgs false
set_option linter.unusedVariables false
open Go.RowKit

theorem rdMsg_stable : Stable rdMsg := fun _ _ _ _ k h => MessageV.kp h k
abbrev Msgs := Sl rdMsg 18
theorem few50_any (A : Option Addr) (n c : Nat) (w : World) : Calls Try.prog 17 #[.slice A n c] w fun e w' => e = .returned (.bool (decide (n ≤ 300))) ∧ w' = w := by
  go_enter Try.func17, Try.ntmps17
  go_wp2
  go_ret
  exact ⟨by simp; omega, rfl⟩
/-- an element's cells -/
theorem Sl.msg {w : World} {A : Option Addr} {n c : Nat} {l : List Message} (h : Msgs w (.slice A n c) l) {k : Nat} (hk : k < l.length) :
    ∃ b o cs, A = some ⟨b, o, none⟩ ∧ b < w.heap.size ∧ cs.length = 18 ∧ w.rangeAt b (o + k * 18) cs ∧ MessageV w (.agg cs.toArray) l[k] := by
  obtain ⟨b, o, cs, hA, hb, hcs, hc, hr⟩ := h.at_ hk
  exact ⟨b, o, cs, hA, hb, hcs, fun j v hj => hc j v hj, hr⟩
def sameM (xs ys : List Message) : Bool := decide (xs.map numMessage = ys.map numMessage)
set_option maxRecDepth 8000 in
set_option maxHeartbeats 4000000 in
theorem Same50_any (va vb : Value) (xs ys : List Message) (w : World) (ha : Msgs w va xs) (hb : Msgs w vb ys) (lx : ∀ x ∈ xs, (numMessage x).length ≤ 1000000000) (ly : ∀ x ∈ ys, (numMessage x).length ≤ 1000000000) :
    Calls Try.prog 13 #[va, vb] w fun e w' => e = .returned (.bool (sameM xs ys)) ∧ Kp w w' := by
  obtain ⟨A, ca, rfl, hca, hma⟩ := ha.form
  obtain ⟨B, cb, rfl, hcb, hmb⟩ := hb.form
  have HLX := hid lx
  have HLY := hid ly
  clear lx ly
  by_cases hl : xs.length = ys.length
  · generalize hR : sameM xs ys = R
    have HR : Hid (R = sameM (xs.drop 0) (ys.drop 0)) := hid (by rw [← hR]; simp)
    have e1 : ((xs.length : Int) != (ys.length : Int)) = false := by rw [hl]; simp
    have e2 : (xs.length != ys.length) = false := by rw [hl]; simp
    have HL := hid hl
    clear hR hl
    go_enter Try.func13, Try.ntmps13
    go_wp2
    go_loopw [5] (fun i wr => ∃ k : Nat, k ≤ xs.length ∧ i = .int .i64 (k : Int) ∧ Hid (R = sameM (xs.drop k) (ys.drop k)) ∧ Kp w wr) (fun i _ => xs.length - (intOf i).toNat)
    case atStart => exact ⟨0, Nat.zero_le _, rfl, HR, Kp.refl _⟩
    case round =>
      clear HR
      obtain ⟨k, hk, rfl, HR, hbel⟩ := hrel
      by_cases hlt : k < xs.length
      · have hlty : k < ys.length := by rw [← HL.out]; exact hlt
        obtain ⟨g, o, cs, rfl, hg, hcs, hr, hv⟩ := (ha.keep rdMsg_stable hbel).msg hlt
        obtain ⟨g', o', cs', rfl, hg', hcs', hr', hv'⟩ := (hb.keep rdMsg_stable hbel).msg hlty
        have HDX := hid (List.drop_eq_getElem_cons hlt)
        have HDY := hid (List.drop_eq_getElem_cons hlty)
        have HA := hid (HLX.out _ (List.getElem_mem hlt))
        have HB := hid (HLY.out _ (List.getElem_mem hlty))
        clear ha hb
        generalize xs[k] = x at *
        generalize ys[k] = y at *
        have hi : Hid ((Try.prog.info? 34).map (·.size) = some cs.length) := hid (by rw [hcs]; kernel_rfl)
        have hi' : Hid ((Try.prog.info? 34).map (·.size) = some cs'.length) := hid (by rw [hcs']; kernel_rfl)
        have hlx : (k : Int) < (xs.length : Int) := by omega
        have hly : (k : Int) < (ys.length : Int) := by omega
        have HCS := hid hcs
        have HCS' := hid hcs'
        clear hcs hcs'
        cases hd : decide (numMessage x = numMessage y) with
        | true =>
          have hd' := hid hd
          have HF : Hid (R = sameM (xs.drop (k + 1)) (ys.drop (k + 1))) := hid (by
            rw [HR.out, HDX.out, HDY.out]
            have := of_decide_eq_true hd
            simp [sameM, this])
          clear hd
          go_upto_region 6 with (fail)
          refine G2.wp_region_growG Kp [] 9 27 (G2.pvL [G2.eqv (.slice (some ⟨g, o, none⟩) xs.length ca), G2.eqv (.int .i64 (k : Int)), G2.eqv (.pointer (some ⟨g, o + k * 18, none⟩)), G2.eqv (.agg cs.toArray), G2.eqv (.slice (some ⟨g', o', none⟩) ys.length cb), G2.eqv (.int .i64 (k : Int)), G2.eqv (.pointer (some ⟨g', o' + k * 18, none⟩)), G2.eqv (.agg cs'.toArray), G2.eqv (.bool true)]) (by kernel_rfl) (by kernel_rfl) rfl (fun x => Kp.refl x) (fun _ _ _ h k => h.trans k) (Kp.refl _).drew (fun _ _ _ _ _ h => h) (G2.pvL_keep (G2.stabL_cons (G2.stab_eq _) (G2.stabL_cons (G2.stab_eq _) (G2.stabL_cons (G2.stab_eq _) (G2.stabL_cons (G2.stab_eq _) (G2.stabL_cons (G2.stab_eq _) (G2.stabL_cons (G2.stab_eq _) (G2.stabL_cons (G2.stab_eq _) (G2.stabL_cons (G2.stab_eq _) (G2.stabL_cons (G2.stab_eq _) (G2.stabL_nil))))))))))) ?_ ?_ ?_
          · intro i0 hi0
            have hi' : i0 = 0 ∨ i0 = 1 ∨ i0 = 2 ∨ i0 = 3 ∨ i0 = 4 ∨ i0 = 5 ∨ i0 = 6 ∨ i0 = 7 ∨ i0 = 8 := by omega
            rcases hi' with rfl | rfl | rfl | rfl | rfl | rfl | rfl | rfl | rfl
            · intro a w' hk hF hD K hK
              simp only [List.getElem?_toArray, List.getElem?_cons_zero, List.getElem?_cons_succ, Option.map_some, Option.getD_some]
              have h0 : a.tmps[0]?.getD undef = .slice (some ⟨g, o, none⟩) xs.length ca := hF 0 (by kernel_rfl)
              clear hF hD
              go_simp
              exact hK.out _ _ (Kp.refl _) rfl
            · intro a w' hk hF hD K hK
              simp only [List.getElem?_toArray, List.getElem?_cons_zero, List.getElem?_cons_succ, Option.map_some, Option.getD_some]
              have h5 : a.tmps[5]?.getD undef = .int .i64 (k : Int) := hF 5 (by kernel_rfl)
              clear hF hD
              go_simp
              exact hK.out _ _ (Kp.refl _) rfl
            · intro a w' hk hF hD K hK
              simp only [List.getElem?_toArray, List.getElem?_cons_zero, List.getElem?_cons_succ, Option.map_some, Option.getD_some]
              have h17 : a.tmps[17]?.getD undef = .slice (some ⟨g, o, none⟩) xs.length ca := hD 0 (by kernel_rfl)
              have h18 : a.tmps[18]?.getD undef = .int .i64 (k : Int) := hD 1 (by kernel_rfl)
              clear hF hD
              go_simp
              exact hK.out _ _ (Kp.refl _) rfl
            · intro a w' hk hF hD K hK
              simp only [List.getElem?_toArray, List.getElem?_cons_zero, List.getElem?_cons_succ, Option.map_some, Option.getD_some]
              have h19 : a.tmps[19]?.getD undef = .pointer (some ⟨g, o + k * 18, none⟩) := hD 2 (by kernel_rfl)
              clear hF hD
              rw [if_pos (show Region.wanted _ _ = true from rfl)]
              refine wp_load_mid 34 (.tmp 19) rfl g (o + k * 18) (by simpa [Act.eval] using h19) cs _ (hk.range hr) Try.underlying34 rfl hi.out ?_
              exact hK.out _ _ (Kp.refl _) rfl
            · intro a w' hk hF hD K hK
              simp only [List.getElem?_toArray, List.getElem?_cons_zero, List.getElem?_cons_succ, Option.map_some, Option.getD_some]
              have h1 : a.tmps[1]?.getD undef = .slice (some ⟨g', o', none⟩) ys.length cb := hF 1 (by kernel_rfl)
              clear hF hD
              go_simp
              exact hK.out _ _ (Kp.refl _) rfl
            · intro a w' hk hF hD K hK
              simp only [List.getElem?_toArray, List.getElem?_cons_zero, List.getElem?_cons_succ, Option.map_some, Option.getD_some]
              have h5 : a.tmps[5]?.getD undef = .int .i64 (k : Int) := hF 5 (by kernel_rfl)
              clear hF hD
              go_simp
              exact hK.out _ _ (Kp.refl _) rfl
            · intro a w' hk hF hD K hK
              simp only [List.getElem?_toArray, List.getElem?_cons_zero, List.getElem?_cons_succ, Option.map_some, Option.getD_some]
              have h21 : a.tmps[21]?.getD undef = .slice (some ⟨g', o', none⟩) ys.length cb := hD 4 (by kernel_rfl)
              have h22 : a.tmps[22]?.getD undef = .int .i64 (k : Int) := hD 5 (by kernel_rfl)
              clear hF hD
              go_simp
              exact hK.out _ _ (Kp.refl _) rfl
            · intro a w' hk hF hD K hK
              simp only [List.getElem?_toArray, List.getElem?_cons_zero, List.getElem?_cons_succ, Option.map_some, Option.getD_some]
              have h23 : a.tmps[23]?.getD undef = .pointer (some ⟨g', o' + k * 18, none⟩) := hD 6 (by kernel_rfl)
              clear hF hD
              rw [if_pos (show Region.wanted _ _ = true from rfl)]
              refine wp_load_mid 34 (.tmp 23) rfl g' (o' + k * 18) (by simpa [Act.eval] using h23) cs' _ (hk.range hr') Try.underlying34 rfl hi'.out ?_
              exact hK.out _ _ (Kp.refl _) rfl
            · intro a w' hk hF hD K hK
              simp only [List.getElem?_toArray, List.getElem?_cons_zero, List.getElem?_cons_succ, Option.map_some, Option.getD_some]
              have h20 : a.tmps[20]?.getD undef = .agg cs.toArray := hD 3 (by kernel_rfl)
              have h24 : a.tmps[24]?.getD undef = .agg cs'.toArray := hD 7 (by kernel_rfl)
              clear hF hD
              go_simp
              refine (SameMessage_any _ _ x y _ (hv.kp hk) (hv'.kp hk) HA.out HB.out).mono ?_
              rw [hd'.out]
              rintro e w9 ⟨rfl, hk9⟩
              exact hK.out _ _ hk9 rfl
          · exact fun i0 hi0 => by simp at hi0
          intro v w9 k9 hv
          have v8 : v 8 = .bool true := hv 8 (by omega)
          clear hv
          simp only [G2.growPut, G2.gSlot, List.getElem?_toArray, List.getElem?_cons_zero, List.getElem?_cons_succ, Option.bind_some, List.setIfInBounds_toArray, List.set_cons_zero, List.set_cons_succ, List.drop_succ_cons, List.drop_zero, v8]
          have hbel9 := hbel.trans k9
          go_wp2_with fail
          go_roundw
          case rel => exact ⟨k + 1, by omega, by go_num, HF, hbel9⟩
          case measure => simp [intOf]; omega
        | false =>
          have hd' := hid hd
          have HF : Hid (R = false) := hid (by
            rw [HR.out, HDX.out, HDY.out]
            have := of_decide_eq_false hd
            simp [sameM, this])
          clear hd
          go_upto_region 6 with (fail)
          refine G2.wp_region_growG Kp [] 9 27 (G2.pvL [G2.eqv (.slice (some ⟨g, o, none⟩) xs.length ca), G2.eqv (.int .i64 (k : Int)), G2.eqv (.pointer (some ⟨g, o + k * 18, none⟩)), G2.eqv (.agg cs.toArray), G2.eqv (.slice (some ⟨g', o', none⟩) ys.length cb), G2.eqv (.int .i64 (k : Int)), G2.eqv (.pointer (some ⟨g', o' + k * 18, none⟩)), G2.eqv (.agg cs'.toArray), G2.eqv (.bool false)]) (by kernel_rfl) (by kernel_rfl) rfl (fun x => Kp.refl x) (fun _ _ _ h k => h.trans k) (Kp.refl _).drew (fun _ _ _ _ _ h => h) (G2.pvL_keep (G2.stabL_cons (G2.stab_eq _) (G2.stabL_cons (G2.stab_eq _) (G2.stabL_cons (G2.stab_eq _) (G2.stabL_cons (G2.stab_eq _) (G2.stabL_cons (G2.stab_eq _) (G2.stabL_cons (G2.stab_eq _) (G2.stabL_cons (G2.stab_eq _) (G2.stabL_cons (G2.stab_eq _) (G2.stabL_cons (G2.stab_eq _) (G2.stabL_nil))))))))))) ?_ ?_ ?_
          · intro i0 hi0
            have hi' : i0 = 0 ∨ i0 = 1 ∨ i0 = 2 ∨ i0 = 3 ∨ i0 = 4 ∨ i0 = 5 ∨ i0 = 6 ∨ i0 = 7 ∨ i0 = 8 := by omega
            rcases hi' with rfl | rfl | rfl | rfl | rfl | rfl | rfl | rfl | rfl
            · intro a w' hk hF hD K hK
              simp only [List.getElem?_toArray, List.getElem?_cons_zero, List.getElem?_cons_succ, Option.map_some, Option.getD_some]
              have h0 : a.tmps[0]?.getD undef = .slice (some ⟨g, o, none⟩) xs.length ca := hF 0 (by kernel_rfl)
              clear hF hD
              go_simp
              exact hK.out _ _ (Kp.refl _) rfl
            · intro a w' hk hF hD K hK
              simp only [List.getElem?_toArray, List.getElem?_cons_zero, List.getElem?_cons_succ, Option.map_some, Option.getD_some]
              have h5 : a.tmps[5]?.getD undef = .int .i64 (k : Int) := hF 5 (by kernel_rfl)
              clear hF hD
              go_simp
              exact hK.out _ _ (Kp.refl _) rfl
            · intro a w' hk hF hD K hK
              simp only [List.getElem?_toArray, List.getElem?_cons_zero, List.getElem?_cons_succ, Option.map_some, Option.getD_some]
              have h17 : a.tmps[17]?.getD undef = .slice (some ⟨g, o, none⟩) xs.length ca := hD 0 (by kernel_rfl)
              have h18 : a.tmps[18]?.getD undef = .int .i64 (k : Int) := hD 1 (by kernel_rfl)
              clear hF hD
              go_simp
              exact hK.out _ _ (Kp.refl _) rfl
            · intro a w' hk hF hD K hK
              simp only [List.getElem?_toArray, List.getElem?_cons_zero, List.getElem?_cons_succ, Option.map_some, Option.getD_some]
              have h19 : a.tmps[19]?.getD undef = .pointer (some ⟨g, o + k * 18, none⟩) := hD 2 (by kernel_rfl)
              clear hF hD
              rw [if_pos (show Region.wanted _ _ = true from rfl)]
              refine wp_load_mid 34 (.tmp 19) rfl g (o + k * 18) (by simpa [Act.eval] using h19) cs _ (hk.range hr) Try.underlying34 rfl hi.out ?_
              exact hK.out _ _ (Kp.refl _) rfl
            · intro a w' hk hF hD K hK
              simp only [List.getElem?_toArray, List.getElem?_cons_zero, List.getElem?_cons_succ, Option.map_some, Option.getD_some]
              have h1 : a.tmps[1]?.getD undef = .slice (some ⟨g', o', none⟩) ys.length cb := hF 1 (by kernel_rfl)
              clear hF hD
              go_simp
              exact hK.out _ _ (Kp.refl _) rfl
            · intro a w' hk hF hD K hK
              simp only [List.getElem?_toArray, List.getElem?_cons_zero, List.getElem?_cons_succ, Option.map_some, Option.getD_some]
              have h5 : a.tmps[5]?.getD undef = .int .i64 (k : Int) := hF 5 (by kernel_rfl)
              clear hF hD
              go_simp
              exact hK.out _ _ (Kp.refl _) rfl
            · intro a w' hk hF hD K hK
              simp only [List.getElem?_toArray, List.getElem?_cons_zero, List.getElem?_cons_succ, Option.map_some, Option.getD_some]
              have h21 : a.tmps[21]?.getD undef = .slice (some ⟨g', o', none⟩) ys.length cb := hD 4 (by kernel_rfl)
              have h22 : a.tmps[22]?.getD undef = .int .i64 (k : Int) := hD 5 (by kernel_rfl)
              clear hF hD
              go_simp
              exact hK.out _ _ (Kp.refl _) rfl
            · intro a w' hk hF hD K hK
              simp only [List.getElem?_toArray, List.getElem?_cons_zero, List.getElem?_cons_succ, Option.map_some, Option.getD_some]
              have h23 : a.tmps[23]?.getD undef = .pointer (some ⟨g', o' + k * 18, none⟩) := hD 6 (by kernel_rfl)
              clear hF hD
              rw [if_pos (show Region.wanted _ _ = true from rfl)]
              refine wp_load_mid 34 (.tmp 23) rfl g' (o' + k * 18) (by simpa [Act.eval] using h23) cs' _ (hk.range hr') Try.underlying34 rfl hi'.out ?_
              exact hK.out _ _ (Kp.refl _) rfl
            · intro a w' hk hF hD K hK
              simp only [List.getElem?_toArray, List.getElem?_cons_zero, List.getElem?_cons_succ, Option.map_some, Option.getD_some]
              have h20 : a.tmps[20]?.getD undef = .agg cs.toArray := hD 3 (by kernel_rfl)
              have h24 : a.tmps[24]?.getD undef = .agg cs'.toArray := hD 7 (by kernel_rfl)
              clear hF hD
              go_simp
              refine (SameMessage_any _ _ x y _ (hv.kp hk) (hv'.kp hk) HA.out HB.out).mono ?_
              rw [hd'.out]
              rintro e w9 ⟨rfl, hk9⟩
              exact hK.out _ _ hk9 rfl
          · exact fun i0 hi0 => by simp at hi0
          intro v w9 k9 hv
          have v8 : v 8 = .bool false := hv 8 (by omega)
          clear hv
          simp only [G2.growPut, G2.gSlot, List.getElem?_toArray, List.getElem?_cons_zero, List.getElem?_cons_succ, Option.bind_some, List.setIfInBounds_toArray, List.set_cons_zero, List.set_cons_succ, List.drop_succ_cons, List.drop_zero, v8]
          have hbel9 := hbel.trans k9
          go_wp2
          go_ret
          exact ⟨by rw [HF.out]; rfl, hbel9⟩
      · have HF : Hid (R = true) := hid (by rw [HR.out, List.drop_of_length_le (by omega), List.drop_of_length_le (by have := HL.out; omega)]; rfl)
        go_wp2
        go_ret
        exact ⟨by rw [HF.out]; rfl, hbel⟩
  · have HF : Hid (sameM xs ys = false) := hid (by
      unfold sameM
      refine decide_eq_false fun h => hl ?_
      have := congrArg List.length h
      simpa using this)
    have e1 : ((xs.length : Int) != (ys.length : Int)) = true := by simp; omega
    have e2 : (xs.length != ys.length) = true := by simpa using hl
    replace hl := hid hl
    rw [HF.out]
    go_enter Try.func13, Try.ntmps13
    go_wp2
    go_ret
    exact ⟨rfl, Kp.refl _⟩
end Go.Proofs.Ytmokpnkpfodppaa
