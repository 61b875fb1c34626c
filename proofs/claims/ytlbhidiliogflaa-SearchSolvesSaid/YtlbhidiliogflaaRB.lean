/-
The reference's tests of values: what fails, the first case, whether they are a solution.
The reference's first case, and whether values are a solution: the walks.
-/
import Derived.Test.YtlbhidiliogflaaSG
import Derived.Test.YtlbhidiliogflaaPlain10
import Derived.Test.YtlbhidiliogflaaKB
import Derived.Test.YtlbhidiliogflaaKA
namespace Go.Proofs.Ytlbhidiliogflaa
set_option linter.unusedSimpArgs false
set_option linter.unusedVariables false
open Go.RowKit

set_option maxRecDepth 8000 in
set_option maxHeartbeats 4000000 in
theorem qRight_any (va vv : Value) (s : Sys) (vs : List Int) (w : World) (hs : SysV w va s) (hv : Ints w vv vs) :
    Calls Try.prog 52 #[va, vv] w fun e w' => e = .returned (.bool (lookedB s vs)) ∧ Kp w w' := by
  have hs' := hs
  obtain ⟨Ab, cb, Ar, cr, Ag, cg, Ac, cc, rfl, hb, hr, hg, hc⟩ := hs'
  obtain ⟨l1, m1⟩ := hb.caps
  obtain ⟨l2, m2⟩ := hr.caps
  obtain ⟨l3, m3⟩ := hg.caps
  obtain ⟨l4, m4⟩ := hc.caps
  obtain ⟨A', c', rfl, hc', hm'⟩ := hv.form
  have HF : Hid (lookedB s vs = ((validS s && decide (vs.length = s.box.length)) && !vs.any farI)) := hid rfl
  have k0 := (Kp.refl w).alloc (.cells #[.slice Ab s.box.length cb, .slice Ar s.rows.length cr, .slice Ag s.graphs.length cg, .slice Ac s.cases.length cc] 27)
  have B0 := SysB.new w #[.slice Ab s.box.length cb, .slice Ar s.rows.length cr, .slice Ag s.graphs.length cg, .slice Ac s.cases.length cc] 27
  have z0 := alloc_lt w (.cells #[.slice Ab s.box.length cb, .slice Ar s.rows.length cr, .slice Ag s.graphs.length cg, .slice Ac s.cases.length cc] 27)
  go_enter Try.func52, Try.ntmps52
  go_wp2_with fail
  try rw [← World.size_alloc w (.cells #[.slice Ab s.box.length cb, .slice Ar s.rows.length cr, .slice Ag s.graphs.length cg, .slice Ac s.cases.length cc] 27)]
  generalize w.alloc (.cells #[.slice Ab s.box.length cb, .slice Ar s.rows.length cr, .slice Ag s.graphs.length cg, .slice Ac s.cases.length cc] 27) = w0 at *
  generalize w.heap.size = b0 at *
  refine (qValid_any _ s _ (hs.keep k0)).mono ?_
  rintro e w1 ⟨rfl, k1⟩
  replace B0 := B0.keep k1
  replace k1 := k0.trans k1
  obtain ⟨c0, c1, c2, c3⟩ := B0.cells
  have hgl := block_lt_of_cell c0
  cases hV : validS s with
  | false =>
    have HE : Hid (lookedB s vs = false) := hid (by rw [HF.out, hV]; rfl)
    clear hV
    go_wp2
    go_ret
    exact ⟨ret_bool HE.out.symm, k1⟩
  | true =>
    by_cases hl : vs.length = s.box.length
    · have HE : Hid (lookedB s vs = !vs.any farI) := hid (by rw [HF.out, hV, decide_eq_true hl]; rfl)
      have e1 : ((vs.length : Int) == (s.box.length : Int)) = true := beq_iff_eq.2 (by omega)
      have e2 : (vs.length == s.box.length) = true := by simpa using hl
      clear hV hl
      go_wp2
      go_loopw [5] (fun i wr => ∃ k : Nat, k ≤ vs.length ∧ i = .int .i64 k ∧ Hid (vs.any farI = (vs.drop k).any farI) ∧ Kp w1 wr) (fun i _ => vs.length - (intOf i).toNat)
      case atStart => exact ⟨0, Nat.zero_le _, rfl, hid rfl, Kp.refl _⟩
      case round =>
        obtain ⟨k, hk, rfl, HA, hbx⟩ := hrel
        by_cases hlt : k < vs.length
        · obtain ⟨pv, ov, rfl, hpv, cv⟩ := (hv.keep (pl_stable _) (k1.trans hbx)).ints hlt
          have HA2 : Hid (vs.any farI = (farI vs[k] || (vs.drop (k + 1)).any farI)) := hid (by rw [HA.out, List.drop_eq_getElem_cons hlt, List.any_cons])
          have hgv := block_lt_of_cell cv
          generalize vs[k] = x at *
          have q1 : (k : Int) < vs.length := by omega
          clear c0 c1 c2 c3 hgl
          by_cases h1 : x < -4000000
          · have HE2 : Hid (lookedB s vs = false) := hid (by rw [HE.out, HA2.out]; simp [farI, h1])
            have e3 : decide (x < -4000000) = true := decide_eq_true h1
            clear HA2
            go_wp2
            go_ret
            exact ⟨ret_bool HE2.out.symm, k1.trans hbx⟩
          · have e3 : decide (x < -4000000) = false := decide_eq_false h1
            by_cases h2 : 4000000 < x
            · have HE2 : Hid (lookedB s vs = false) := hid (by rw [HE.out, HA2.out]; simp [farI, h2])
              have e4 : decide (4000000 < x) = true := decide_eq_true h2
              clear HA2
              go_wp2
              go_ret
              exact ⟨ret_bool HE2.out.symm, k1.trans hbx⟩
            · have e4 : decide (4000000 < x) = false := decide_eq_false h2
              have HA3 : Hid (vs.any farI = (vs.drop (k + 1)).any farI) := hid (by rw [HA2.out]; simp [farI, h1, h2])
              clear HA2
              go_wp2
              go_roundw
              case rel => exact ⟨k + 1, by omega, by go_num, HA3, hbx⟩
              case measure => simp [intOf]; omega
        · have HE2 : Hid (lookedB s vs = true) := hid (by rw [HE.out, HA.out, List.drop_of_length_le (by omega)]; rfl)
          go_wp2
          go_ret
          exact ⟨ret_bool HE2.out.symm, k1.trans hbx⟩
    · have HE : Hid (lookedB s vs = false) := hid (by rw [HF.out, decide_eq_false hl]; simp)
      have e1 : ((vs.length : Int) == (s.box.length : Int)) = false := by simp; omega
      have e2 : (vs.length == s.box.length) = false := by simpa using hl
      clear hV hl
      go_wp2
      go_ret
      exact ⟨ret_bool HE.out.symm, k1⟩
theorem holds_badR (vs : List Int) (ts : List Term) (bd : Int) : badR vs ⟨ts, bd⟩ = decide (bd < valueL vs 0 ts) := by
  unfold badR holdsR
  by_cases h : valueL vs 0 ts ≤ bd
  · rw [decide_eq_true h, decide_eq_false (by omega)]; rfl
  · rw [decide_eq_false h, decide_eq_true (by omega)]; rfl
theorem qEdges_at (A : Option Addr) (c : Nat) (vv : Value) (fi : Int) (n : Nat) (le vs : List Int) (w : World) (hl : Ints w (.slice A le.length c) le) (hv : Ints w vv vs) (hok : grOk vs.length ⟨fi, n, le⟩ = true) (hn2 : vs.length ≤ 1000) :
    Calls Try.prog 55 #[.agg #[.int .i64 fi, .int .i64 (n : Int), .slice A le.length c], vv] w fun e w' => ∃ v, e = .returned v ∧ Own encBool 4 1 w.heap.size w' v (edgesL fi.toNat le vs (n * n)) ∧ Kp w w' :=
  qEdges_any _ _ ⟨fi, n, le⟩ vs vs.length w ⟨A, c, rfl, hl⟩ hv hok rfl hn2
theorem acy_at (fi : Int) (n : Nat) (le vs : List Int) : acyQ n (edgesL fi.toNat le vs (n * n)) = acyG ⟨fi, n, le⟩ vs := acy_eq ⟨fi, n, le⟩ vs
/-- blocks that were there are as they were, but for one -/
def KpX (g : Nat) (a w : World) : Prop := a.heap.size ≤ w.heap.size ∧ ∀ q, q < a.heap.size → q ≠ g → w.heap[q]? = a.heap[q]?
def OwnX (g z : Nat) (v : Value) : Prop := ∀ q, v.ownBlock = some q → q = g ∨ z ≤ q
theorem OwnX.at (g z o n c : Nat) : OwnX g z (.slice (some ⟨g, o, none⟩) n c) := fun q hq => .inl (by injection hq with hq; exact hq.symm)
theorem OwnX.grown {g z z' : Nat} {v v' : Value} (h : OwnX g z v) (hat : v'.ownBlock = v.ownBlock ∨ v'.ownBlock = some z') (hz : z ≤ z') : OwnX g z v' := fun q hq => by
  rcases hat with e | e
  · exact h q (e ▸ hq)
  · rw [e] at hq
    injection hq with hq
    omega
theorem KpX.refl (g : Nat) (a : World) : KpX g a a := ⟨Nat.le_refl _, fun _ _ _ => rfl⟩
theorem KpX.kp {g : Nat} {a w w' : World} (h : KpX g a w) (hk : Kp w w') : KpX g a w' := ⟨Nat.le_trans h.1 hk.size, fun q hq hne => (hk.block (Nat.lt_of_lt_of_le hq h.1)).trans (h.2 q hq hne)⟩
theorem KpX.grown {g : Nat} {a w w' : World} {v : Value} (h : KpX g a w) (hg : w.grownBy w' v.ownBlock) (hv : OwnX g a.heap.size v) : KpX g a w' :=
  ⟨Nat.le_trans h.1 hg.size, fun q hq hne => (hg.block q (Nat.lt_of_lt_of_le hq h.1) (fun e => by have := hv q e.symm; omega)).trans (h.2 q hq hne)⟩
theorem KpX.cellS {g : Nat} {a w : World} (h : KpX g a w) {b j : Nat} {u : Value} (hc : a.cell? ⟨b, j, none⟩ = some u) (hne : b ≠ g) : w.cell? ⟨b, j, none⟩ = some u :=
  (World.cell?_of_block (h.2 b (block_lt_of_cell hc) hne)).trans hc
set_option maxRecDepth 8000 in
set_option maxHeartbeats 1600000 in
theorem qFails_any (va vv : Value) (s : Sys) (vs : List Int) (w : World) (hs : SysV w va s) (hv : Ints w vv vs) (hF : FitV s vs) (hR : lookedB s vs = true) :
    Calls Try.prog 26 #[va, vv] w fun e w' => ∃ v1 v2, e = .returned (.tuple #[v1, v2]) ∧ Ints w' v1 (idxsF (badR vs) 0 s.rows) ∧ Ints w' v2 (idxsF (badG vs) 0 s.graphs) ∧ Kp w w' := by
  have hs' := hs
  obtain ⟨Ab, cb, Ar, cr, Ag, cg, Ac, cc, rfl, hb, hr, hg, hc⟩ := hs'
  obtain ⟨l1, m1⟩ := hb.caps
  obtain ⟨l2, m2⟩ := hr.caps
  obtain ⟨l3, m3⟩ := hg.caps
  obtain ⟨l4, m4⟩ := hc.caps
  obtain ⟨A', c', rfl, hc', hm'⟩ := hv.form
  have HRR := hid hR
  clear hR
  have k0 := (Kp.refl w).alloc (.cells #[.slice Ab s.box.length cb, .slice Ar s.rows.length cr, .slice Ag s.graphs.length cg, .slice Ac s.cases.length cc] 27)
  have B0 := SysB.new w #[.slice Ab s.box.length cb, .slice Ar s.rows.length cr, .slice Ag s.graphs.length cg, .slice Ac s.cases.length cc] 27
  have z0 := alloc_lt w (.cells #[.slice Ab s.box.length cb, .slice Ar s.rows.length cr, .slice Ag s.graphs.length cg, .slice Ac s.cases.length cc] 27)
  go_enter Try.func26, Try.ntmps26
  go_wp2_with fail
  try rw [← World.size_alloc w (.cells #[.slice Ab s.box.length cb, .slice Ar s.rows.length cr, .slice Ag s.graphs.length cg, .slice Ac s.cases.length cc] 27)]
  generalize w.alloc (.cells #[.slice Ab s.box.length cb, .slice Ar s.rows.length cr, .slice Ag s.graphs.length cg, .slice Ac s.cases.length cc] 27) = w0 at *
  generalize w.heap.size = b0 at *
  refine (qRight_any _ _ s vs _ (hs.keep k0) (hv.keep (pl_stable _) k0)).mono ?_
  rw [HRR.out]
  rintro e w1 ⟨rfl, k1⟩
  replace B0 := B0.keep k1
  replace k1 := k0.trans k1
  obtain ⟨c0, c1, c2, c3⟩ := B0.cells
  have hgl := block_lt_of_cell c0
  have hn1 := hF.nrows
  have hn2 := hF.ngraphs
  have kA := ((Kp.refl w1).alloc (.cells #[] 3)).alloc (.cells #[] 3)
  clear k0 HRR
  go_wp2
  have hz1 : w.heap.size ≤ w1.heap.size := k1.size
  have b0 := kA.cellS c0
  have b1 := kA.cellS c1
  have b2 := kA.cellS c2
  have b3 := kA.cellS c3
  have o1 := (Own.lit (base := w1.heap.size) (e := 3) (size := 1) encInt w1 #[] [] (Nat.le_refl _) (by simp) rfl rfl).alloc (.cells #[] 3)
  have o2 := Own.lit (base := w1.heap.size + 1) (e := 3) (size := 1) encInt (w1.alloc (.cells #[] 3)) #[] [] (by simp) (by simp) rfl rfl
  have kk0 := k1.trans kA
  rw [World.size_alloc] at o2
  have hb0z := hgl
  clear c0 c1 c2 c3 hgl B0
  generalize hw2 : (w1.alloc (.cells #[] 3)).alloc (.cells #[] 3) = w2 at *
  have hz2 : w2.heap.size = w1.heap.size + 2 := by rw [← hw2]; simp
  clear hw2 kA
  generalize hbb : w1.heap.size = z1 at *
  go_loopw [6, 8] (fun v i wr => ∃ (k : Nat) (L : List Int), k ≤ s.rows.length ∧ i = .int .i64 k ∧ L.length ≤ k ∧ Own encInt 3 1 z1 wr v L ∧ Hid (idxsF (badR vs) 0 s.rows = L ++ idxsF (badR vs) k (s.rows.drop k)) ∧ Kp w wr ∧ OwnX z1 w2.heap.size v ∧ KpX z1 w2 wr) (fun _ i _ => s.rows.length - (intOf i).toNat)
  case atStart => exact ⟨0, [], Nat.zero_le _, rfl, Nat.le_refl _, o1, rfl, kk0, OwnX.at _ _ _ _ _, KpX.refl _ _⟩
  case round =>
    clear o1
    obtain ⟨k, L, hk, rfl, hL, own, HL, hkr, hox, hkx⟩ := hrel
    obtain ⟨A1, c1, rfl, hc1, hm1⟩ := own.form
    have d1 := hkx.cellS b1 (by omega)
    have hgl := block_lt_of_cell d1
    by_cases hlt : k < s.rows.length
    · obtain ⟨b, o, A2, c2, rfl, hb2, h1, h2, hT⟩ := (hr.keep rdRow_stable hkr).row hlt
      have HD := hid (List.drop_eq_getElem_cons hlt)
      obtain ⟨hok, hl128⟩ := hF.rows s.rows[k] (List.getElem_mem hlt)
      have hv1 := hv.keep (pl_stable _) hkr
      clear b0 b1 b2 b3 hb hr hg hc
      generalize s.rows[k] = r at *
      obtain ⟨ts, bd⟩ := r
      dsimp only at h1 h2 hT hok hl128
      have HOK := hid hok
      have HB := hid (holds_badR vs ts bd)
      have q1 : (k : Int) < s.rows.length := by omega
      clear hok
      go_wp2
      refine G2.wp_region_growG Kp [] 13 69 (G2.pvL [G2.eqv (.pointer (some ⟨b0, 1, none⟩)), G2.eqv (.slice (some ⟨b, o, none⟩) s.rows.length cr), G2.eqv (.int .i64 (k : Int)), G2.eqv (.pointer (some ⟨b, o + k * 2, none⟩)), G2.eqv (.agg #[.slice A2 ts.length c2, .int .i64 bd]), G2.eqv (.slice A' vs.length c'), G2.eqv (.int .i64 (valueL vs 0 ts)), G2.eqv (.pointer (some ⟨b0, 1, none⟩)), G2.eqv (.slice (some ⟨b, o, none⟩) s.rows.length cr), G2.eqv (.int .i64 (k : Int)), G2.eqv (.pointer (some ⟨b, o + k * 2, none⟩)), G2.eqv (.pointer (some ⟨b, o + k * 2 + 1, none⟩)), G2.eqv (.int .i64 bd)]) (by kernel_rfl) (by kernel_rfl) rfl (fun x => Kp.refl x) (fun _ _ _ h k => h.trans k) (Kp.refl _).drew (fun _ _ _ _ _ h => h) (G2.pvL_keep (G2.stabL_cons (G2.stab_eq _) (G2.stabL_cons (G2.stab_eq _) (G2.stabL_cons (G2.stab_eq _) (G2.stabL_cons (G2.stab_eq _) (G2.stabL_cons (G2.stab_eq _) (G2.stabL_cons (G2.stab_eq _) (G2.stabL_cons (G2.stab_eq _) (G2.stabL_cons (G2.stab_eq _) (G2.stabL_cons (G2.stab_eq _) (G2.stabL_cons (G2.stab_eq _) (G2.stabL_cons (G2.stab_eq _) (G2.stabL_cons (G2.stab_eq _) (G2.stabL_cons (G2.stab_eq _) (G2.stabL_nil))))))))))))))) ?_ ?_ ?_
      · intro i0 hi0
        have hi' : i0 = 0 ∨ i0 = 1 ∨ i0 = 2 ∨ i0 = 3 ∨ i0 = 4 ∨ i0 = 5 ∨ i0 = 6 ∨ i0 = 7 ∨ i0 = 8 ∨ i0 = 9 ∨ i0 = 10 ∨ i0 = 11 ∨ i0 = 12 := by omega
        rcases hi' with rfl | rfl | rfl | rfl | rfl | rfl | rfl | rfl | rfl | rfl | rfl | rfl | rfl
        · intro a w' hk hF hD K hK
          simp only [List.getElem?_toArray, List.getElem?_cons_zero, List.getElem?_cons_succ, Option.map_some, Option.getD_some]
          have h2 : a.tmps[2]?.getD undef = .pointer (some ⟨b0, 0, none⟩) := hF 2 (by kernel_rfl)
          clear hF hD
          go_simp
          exact hK.out _ _ (Kp.refl _) rfl
        · intro a w' hk hF hD K hK
          simp only [List.getElem?_toArray, List.getElem?_cons_zero, List.getElem?_cons_succ, Option.map_some, Option.getD_some]
          have h23 : a.tmps[23]?.getD undef = .pointer (some ⟨b0, 1, none⟩) := hD 0 (by kernel_rfl)
          clear hF hD
          have z1 := hk.cellS d1
          go_simp
          exact hK.out _ _ (Kp.refl _) rfl
        · intro a w' hk hF hD K hK
          simp only [List.getElem?_toArray, List.getElem?_cons_zero, List.getElem?_cons_succ, Option.map_some, Option.getD_some]
          have h8 : a.tmps[8]?.getD undef = .int .i64 (k : Int) := hF 8 (by kernel_rfl)
          clear hF hD
          go_simp
          exact hK.out _ _ (Kp.refl _) rfl
        · intro a w' hk hF hD K hK
          simp only [List.getElem?_toArray, List.getElem?_cons_zero, List.getElem?_cons_succ, Option.map_some, Option.getD_some]
          have h24 : a.tmps[24]?.getD undef = .slice (some ⟨b, o, none⟩) s.rows.length cr := hD 1 (by kernel_rfl)
          have h25 : a.tmps[25]?.getD undef = .int .i64 (k : Int) := hD 2 (by kernel_rfl)
          clear hF hD
          go_simp
          exact hK.out _ _ (Kp.refl _) rfl
        · intro a w' hk hF hD K hK
          simp only [List.getElem?_toArray, List.getElem?_cons_zero, List.getElem?_cons_succ, Option.map_some, Option.getD_some]
          have h26 : a.tmps[26]?.getD undef = .pointer (some ⟨b, o + k * 2, none⟩) := hD 3 (by kernel_rfl)
          clear hF hD
          have z1 := hk.cellS h1
          have z2 := hk.cellS h2
          go_simp
          exact hK.out _ _ (Kp.refl _) rfl
        · intro a w' hk hF hD K hK
          simp only [List.getElem?_toArray, List.getElem?_cons_zero, List.getElem?_cons_succ, Option.map_some, Option.getD_some]
          have h1 : a.tmps[1]?.getD undef = .slice A' vs.length c' := hF 1 (by kernel_rfl)
          clear hF hD
          go_simp
          exact hK.out _ _ (Kp.refl _) rfl
        · intro a w' hk hF hD K hK
          simp only [List.getElem?_toArray, List.getElem?_cons_zero, List.getElem?_cons_succ, Option.map_some, Option.getD_some]
          have h27 : a.tmps[27]?.getD undef = .agg #[.slice A2 ts.length c2, .int .i64 bd] := hD 4 (by kernel_rfl)
          have h28 : a.tmps[28]?.getD undef = .slice A' vs.length c' := hD 5 (by kernel_rfl)
          clear hF hD
          go_simp
          refine (rValue_any _ _ ts bd vs _ (hT.keep (pl_stable _) hk) (hv1.keep (pl_stable _) hk) HOK.out hF.okv hl128).mono ?_
          rintro e w9 ⟨rfl, hk9⟩
          exact hK.out _ _ hk9 rfl
        · intro a w' hk hF hD K hK
          simp only [List.getElem?_toArray, List.getElem?_cons_zero, List.getElem?_cons_succ, Option.map_some, Option.getD_some]
          have h2 : a.tmps[2]?.getD undef = .pointer (some ⟨b0, 0, none⟩) := hF 2 (by kernel_rfl)
          clear hF hD
          go_simp
          exact hK.out _ _ (Kp.refl _) rfl
        · intro a w' hk hF hD K hK
          simp only [List.getElem?_toArray, List.getElem?_cons_zero, List.getElem?_cons_succ, Option.map_some, Option.getD_some]
          have h30 : a.tmps[30]?.getD undef = .pointer (some ⟨b0, 1, none⟩) := hD 7 (by kernel_rfl)
          clear hF hD
          have z1 := hk.cellS d1
          go_simp
          exact hK.out _ _ (Kp.refl _) rfl
        · intro a w' hk hF hD K hK
          simp only [List.getElem?_toArray, List.getElem?_cons_zero, List.getElem?_cons_succ, Option.map_some, Option.getD_some]
          have h8 : a.tmps[8]?.getD undef = .int .i64 (k : Int) := hF 8 (by kernel_rfl)
          clear hF hD
          go_simp
          exact hK.out _ _ (Kp.refl _) rfl
        · intro a w' hk hF hD K hK
          simp only [List.getElem?_toArray, List.getElem?_cons_zero, List.getElem?_cons_succ, Option.map_some, Option.getD_some]
          have h31 : a.tmps[31]?.getD undef = .slice (some ⟨b, o, none⟩) s.rows.length cr := hD 8 (by kernel_rfl)
          have h32 : a.tmps[32]?.getD undef = .int .i64 (k : Int) := hD 9 (by kernel_rfl)
          clear hF hD
          go_simp
          exact hK.out _ _ (Kp.refl _) rfl
        · intro a w' hk hF hD K hK
          simp only [List.getElem?_toArray, List.getElem?_cons_zero, List.getElem?_cons_succ, Option.map_some, Option.getD_some]
          have h33 : a.tmps[33]?.getD undef = .pointer (some ⟨b, o + k * 2, none⟩) := hD 10 (by kernel_rfl)
          clear hF hD
          go_simp
          exact hK.out _ _ (Kp.refl _) rfl
        · intro a w' hk hF hD K hK
          simp only [List.getElem?_toArray, List.getElem?_cons_zero, List.getElem?_cons_succ, Option.map_some, Option.getD_some]
          have h34 : a.tmps[34]?.getD undef = .pointer (some ⟨b, o + k * 2 + 1, none⟩) := hD 11 (by kernel_rfl)
          clear hF hD
          have z1 := hk.cellS h2
          go_simp
          exact hK.out _ _ (Kp.refl _) rfl
      · exact fun i0 hi0 => by simp at hi0
      intro v w9 k9 hv
      have v6 : v 6 = .int .i64 (valueL vs 0 ts) := hv 6 (by omega)
      have v12 : v 12 = .int .i64 bd := hv 12 (by omega)
      clear hv
      simp only [G2.growPut, G2.gSlot, List.getElem?_toArray, List.getElem?_cons_zero, List.getElem?_cons_succ, Option.bind_some, List.setIfInBounds_toArray, List.set_cons_zero, List.set_cons_succ, List.drop_succ_cons, List.drop_zero, v6, v12]
      have own2 := own.kp k9
      have k3 := hkr.trans k9
      have hx3 := hkx.kp k9
      generalize valueL vs 0 ts = val at *
      clear own hkr hkx
      by_cases hh : bd < val
      · have HN : Hid (idxsF (badR vs) 0 s.rows = (L ++ [(k : Int)]) ++ idxsF (badR vs) (k + 1) (s.rows.drop (k + 1))) := hid (by rw [HL.out, HD.out, idxsF_yes (by rw [HB.out]; exact decide_eq_true hh)]; simp)
        have hbz2 := hx3.1
        have e1 : decide (bd < val) = true := decide_eq_true hh
        have hzz : z1 ≤ w9.heap.size := by omega
        clear hh
        go_wp2_with (at_builtin; refine wpl_append_flat rfl (.tmp 37) (.tmp 39) rfl stIntM encInt_len encInt_one rfl (own2.alloc _) rfl (litI _ [(k : Int)] _ rfl (by simp) 1 rfl) (by simp; omega) (by simp; omega) (by simp; omega) ?_; intro v4 w4 hown4 hgrow4 hat4 hnil4)
        go_roundw
        case rel => exact ⟨k + 1, L ++ [(k : Int)], by omega, by go_num, by simp; omega, hown4, HN, (k3.alloc _).grown hgrow4 (fun q hq => by have := own2.ge q hq; omega), hox.grown hat4 (by simp; omega), (hx3.kp ((Kp.refl _).alloc _)).grown hgrow4 hox⟩
        case measure => simp [intOf]; omega
      · have HN : Hid (idxsF (badR vs) 0 s.rows = L ++ idxsF (badR vs) (k + 1) (s.rows.drop (k + 1))) := hid (by rw [HL.out, HD.out, idxsF_no (by rw [HB.out]; exact decide_eq_false hh)])
        have e1 : decide (bd < val) = false := decide_eq_false hh
        go_wp2
        go_roundw
        case rel => exact ⟨k + 1, L, by omega, by go_num, by omega, own2, HN, k3, hox, hx3⟩
        case measure => simp [intOf]; omega
    · have HR : Hid (L = idxsF (badR vs) 0 s.rows) := hid (by rw [HL.out, List.drop_of_length_le (by omega)]; simp [idxsF])
      have hgw := block_lt_of_cell d1
      have oB := o2.owS.step hkx.1 (fun q hq hlt => hkx.2 q hlt (by have : z1 + 1 = q := Option.some.inj hq; omega))
      have g0 : decide ((k : Int) < (s.rows.length : Int)) = false := decide_eq_false (by omega)
      have e2 := hkx.cellS b2 (by omega)
      clear b0 b1 b2 b3 HL o2
      obtain ⟨wo, rfl⟩ : ∃ wo : World, wo = wr := ⟨_, rfl⟩
      go_wp2
      clear g0 d1 hgl hgw
      go_loopw [7, 9] (fun v i wr => ∃ (k : Nat) (M : List Int), k ≤ s.graphs.length ∧ i = .int .i64 k ∧ M.length ≤ k ∧ Own encInt 3 1 (z1 + 1) wr v M ∧ Hid (idxsF (badG vs) 0 s.graphs = M ++ idxsF (badG vs) k (s.graphs.drop k)) ∧ Kp w wr ∧ OwnX (z1 + 1) wo.heap.size v ∧ KpX (z1 + 1) wo wr) (fun _ i _ => s.graphs.length - (intOf i).toNat)
      case atStart => exact ⟨0, [], Nat.zero_le _, rfl, Nat.le_refl _, oB.here, rfl, hkr, OwnX.at _ _ _ _ _, KpX.refl _ _⟩
      case round =>
        clear oB
        obtain ⟨m, M, hm1, rfl, hM, ownM, HM, hkq, hoy, hky⟩ := hrel
        obtain ⟨A3, c3, rfl, hc3, hm3⟩ := ownM.form
        have d2 := hky.cellS e2 (by omega)
        have hgl := block_lt_of_cell d2
        by_cases hlt2 : m < s.graphs.length
        · obtain ⟨b, o, A2, c2, rfl, hb2, h1, h2, h3, hT⟩ := (hg.keep rdGr_stable hkq).gr hlt2
          have HD := hid (List.drop_eq_getElem_cons hlt2)
          have hok := hF.graphs s.graphs[m] (List.getElem_mem hlt2)
          have hv1 := hv.keep (pl_stable _) hkq
          clear hb hr hg hc hlt
          generalize s.graphs[m] = r at *
          obtain ⟨fi, sz, le⟩ := r
          dsimp only at h1 h2 h3 hT
          have hlen := hF.len
          obtain ⟨hs1, hs6, hfi⟩ : 1 ≤ sz ∧ sz ≤ 6 ∧ 0 ≤ fi := by
            have := hok
            unfold grOk at this
            rw [Bool.and_eq_true, decide_eq_true_eq] at this
            exact ⟨this.1.1, this.1.2.1, this.1.2.2.1⟩
          obtain ⟨n, rfl⟩ := Int.eq_ofNat_of_zero_le (show 0 ≤ sz by omega)
          have HOK := hid hok
          have hn1' : 1 ≤ n := by omega
          have hn6' : n ≤ 6 := by omega
          have HA := hid (acy_at fi n le vs)
          have q1 : (m : Int) < s.graphs.length := by omega
          clear hok
          go_wp2
          refine G2.wp_region_growG Kp [] 14 69 (G2.pvL [G2.eqv (.pointer (some ⟨b0, 2, none⟩)), G2.eqv (.slice (some ⟨b, o, none⟩) s.graphs.length cg), G2.eqv (.int .i64 (m : Int)), G2.eqv (.pointer (some ⟨b, o + m * 3, none⟩)), G2.eqv (.pointer (some ⟨b, o + m * 3 + 1, none⟩)), G2.eqv (.int .i64 (n : Int)), G2.eqv (.pointer (some ⟨b0, 2, none⟩)), G2.eqv (.slice (some ⟨b, o, none⟩) s.graphs.length cg), G2.eqv (.int .i64 (m : Int)), G2.eqv (.pointer (some ⟨b, o + m * 3, none⟩)), G2.eqv (.agg #[.int .i64 fi, .int .i64 (n : Int), .slice A2 le.length c2]), G2.eqv (.slice A' vs.length c'), (G2.retOwn encBool 4 1 wr.heap.size (edgesL fi.toNat le vs (n * n))), G2.eqv (.bool (acyG ⟨fi, n, le⟩ vs))]) (by kernel_rfl) (by kernel_rfl) rfl (fun x => Kp.refl x) (fun _ _ _ h k => h.trans k) (Kp.refl _).drew (fun _ _ _ _ _ h => h) (G2.pvL_keep (G2.stabL_cons (G2.stab_eq _) (G2.stabL_cons (G2.stab_eq _) (G2.stabL_cons (G2.stab_eq _) (G2.stabL_cons (G2.stab_eq _) (G2.stabL_cons (G2.stab_eq _) (G2.stabL_cons (G2.stab_eq _) (G2.stabL_cons (G2.stab_eq _) (G2.stabL_cons (G2.stab_eq _) (G2.stabL_cons (G2.stab_eq _) (G2.stabL_cons (G2.stab_eq _) (G2.stabL_cons (G2.stab_eq _) (G2.stabL_cons (G2.stab_eq _) (G2.stabL_cons (G2.stab_own _ _ _ _ _) (G2.stabL_cons (G2.stab_eq _) (G2.stabL_nil)))))))))))))))) ?_ ?_ ?_
          · intro i0 hi0
            have hi' : i0 = 0 ∨ i0 = 1 ∨ i0 = 2 ∨ i0 = 3 ∨ i0 = 4 ∨ i0 = 5 ∨ i0 = 6 ∨ i0 = 7 ∨ i0 = 8 ∨ i0 = 9 ∨ i0 = 10 ∨ i0 = 11 ∨ i0 = 12 ∨ i0 = 13 := by omega
            rcases hi' with rfl | rfl | rfl | rfl | rfl | rfl | rfl | rfl | rfl | rfl | rfl | rfl | rfl | rfl
            · intro a w' hk hF hD K hK
              simp only [List.getElem?_toArray, List.getElem?_cons_zero, List.getElem?_cons_succ, Option.map_some, Option.getD_some]
              have h2 : a.tmps[2]?.getD undef = .pointer (some ⟨b0, 0, none⟩) := hF 2 (by kernel_rfl)
              clear hF hD
              go_simp
              exact hK.out _ _ (Kp.refl _) rfl
            · intro a w' hk hF hD K hK
              simp only [List.getElem?_toArray, List.getElem?_cons_zero, List.getElem?_cons_succ, Option.map_some, Option.getD_some]
              have h48 : a.tmps[48]?.getD undef = .pointer (some ⟨b0, 2, none⟩) := hD 0 (by kernel_rfl)
              clear hF hD
              have z1 := hk.cellS d2
              go_simp
              exact hK.out _ _ (Kp.refl _) rfl
            · intro a w' hk hF hD K hK
              simp only [List.getElem?_toArray, List.getElem?_cons_zero, List.getElem?_cons_succ, Option.map_some, Option.getD_some]
              have h9 : a.tmps[9]?.getD undef = .int .i64 (m : Int) := hF 9 (by kernel_rfl)
              clear hF hD
              go_simp
              exact hK.out _ _ (Kp.refl _) rfl
            · intro a w' hk hF hD K hK
              simp only [List.getElem?_toArray, List.getElem?_cons_zero, List.getElem?_cons_succ, Option.map_some, Option.getD_some]
              have h49 : a.tmps[49]?.getD undef = .slice (some ⟨b, o, none⟩) s.graphs.length cg := hD 1 (by kernel_rfl)
              have h50 : a.tmps[50]?.getD undef = .int .i64 (m : Int) := hD 2 (by kernel_rfl)
              clear hF hD
              go_simp
              exact hK.out _ _ (Kp.refl _) rfl
            · intro a w' hk hF hD K hK
              simp only [List.getElem?_toArray, List.getElem?_cons_zero, List.getElem?_cons_succ, Option.map_some, Option.getD_some]
              have h51 : a.tmps[51]?.getD undef = .pointer (some ⟨b, o + m * 3, none⟩) := hD 3 (by kernel_rfl)
              clear hF hD
              go_simp
              exact hK.out _ _ (Kp.refl _) rfl
            · intro a w' hk hF hD K hK
              simp only [List.getElem?_toArray, List.getElem?_cons_zero, List.getElem?_cons_succ, Option.map_some, Option.getD_some]
              have h52 : a.tmps[52]?.getD undef = .pointer (some ⟨b, o + m * 3 + 1, none⟩) := hD 4 (by kernel_rfl)
              clear hF hD
              have z1 := hk.cellS h2
              go_simp
              exact hK.out _ _ (Kp.refl _) rfl
            · intro a w' hk hF hD K hK
              simp only [List.getElem?_toArray, List.getElem?_cons_zero, List.getElem?_cons_succ, Option.map_some, Option.getD_some]
              have h2 : a.tmps[2]?.getD undef = .pointer (some ⟨b0, 0, none⟩) := hF 2 (by kernel_rfl)
              clear hF hD
              go_simp
              exact hK.out _ _ (Kp.refl _) rfl
            · intro a w' hk hF hD K hK
              simp only [List.getElem?_toArray, List.getElem?_cons_zero, List.getElem?_cons_succ, Option.map_some, Option.getD_some]
              have h54 : a.tmps[54]?.getD undef = .pointer (some ⟨b0, 2, none⟩) := hD 6 (by kernel_rfl)
              clear hF hD
              have z1 := hk.cellS d2
              go_simp
              exact hK.out _ _ (Kp.refl _) rfl
            · intro a w' hk hF hD K hK
              simp only [List.getElem?_toArray, List.getElem?_cons_zero, List.getElem?_cons_succ, Option.map_some, Option.getD_some]
              have h9 : a.tmps[9]?.getD undef = .int .i64 (m : Int) := hF 9 (by kernel_rfl)
              clear hF hD
              go_simp
              exact hK.out _ _ (Kp.refl _) rfl
            · intro a w' hk hF hD K hK
              simp only [List.getElem?_toArray, List.getElem?_cons_zero, List.getElem?_cons_succ, Option.map_some, Option.getD_some]
              have h55 : a.tmps[55]?.getD undef = .slice (some ⟨b, o, none⟩) s.graphs.length cg := hD 7 (by kernel_rfl)
              have h56 : a.tmps[56]?.getD undef = .int .i64 (m : Int) := hD 8 (by kernel_rfl)
              clear hF hD
              go_simp
              exact hK.out _ _ (Kp.refl _) rfl
            · intro a w' hk hF hD K hK
              simp only [List.getElem?_toArray, List.getElem?_cons_zero, List.getElem?_cons_succ, Option.map_some, Option.getD_some]
              have h57 : a.tmps[57]?.getD undef = .pointer (some ⟨b, o + m * 3, none⟩) := hD 9 (by kernel_rfl)
              clear hF hD
              have z1 := hk.cellS h1
              have z2 := hk.cellS h2
              have z3 := hk.cellS h3
              go_simp
              exact hK.out _ _ (Kp.refl _) rfl
            · intro a w' hk hF hD K hK
              simp only [List.getElem?_toArray, List.getElem?_cons_zero, List.getElem?_cons_succ, Option.map_some, Option.getD_some]
              have h1 : a.tmps[1]?.getD undef = .slice A' vs.length c' := hF 1 (by kernel_rfl)
              clear hF hD
              go_simp
              exact hK.out _ _ (Kp.refl _) rfl
            · intro a w' hk hF hD K hK
              simp only [List.getElem?_toArray, List.getElem?_cons_zero, List.getElem?_cons_succ, Option.map_some, Option.getD_some]
              have h58 : a.tmps[58]?.getD undef = .agg #[.int .i64 fi, .int .i64 (n : Int), .slice A2 le.length c2] := hD 10 (by kernel_rfl)
              have h59 : a.tmps[59]?.getD undef = .slice A' vs.length c' := hD 11 (by kernel_rfl)
              clear hF hD
              go_simp
              refine (qEdges_at _ _ _ fi n le vs _ (hT.keep (pl_stable _) hk) (hv1.keep (pl_stable _) hk) HOK.out (by omega)).mono ?_
              rintro e w9 ⟨v, rfl, hown, hk9⟩
              exact hK.out _ _ hk9 (hown.less hk.size)
            · intro a w' hk hF hD K hK
              simp only [List.getElem?_toArray, List.getElem?_cons_zero, List.getElem?_cons_succ, Option.map_some, Option.getD_some]
              have h53 : a.tmps[53]?.getD undef = .int .i64 (n : Int) := hD 5 (by kernel_rfl)
              have h60 : (G2.retOwn encBool 4 1 wr.heap.size (edgesL fi.toNat le vs (n * n))) (a.tmps[60]?.getD undef) w' := hD 12 (by kernel_rfl)
              clear hF hD
              have h60' : Own encBool 4 1 wr.heap.size w' _ (edgesL fi.toNat le vs (n * n)) := h60
              have hB := h60'.sl encBool_len
              obtain ⟨A6, c6, h60e, _, _⟩ := h60'.form
              rw [h60e] at hB
              clear h60 h60'
              go_simp
              refine (qAcyclic_any n _ _ _ hB hn1' hn6' (edgesL_len _ _ _ _)).mono ?_
              rw [HA.out]
              rintro e w9 ⟨rfl, hk9⟩
              exact hK.out _ _ hk9 rfl
          · exact fun i0 hi0 => by simp at hi0
          intro v w9 k9 hv
          have v13 : v 13 = .bool (acyG ⟨fi, n, le⟩ vs) := hv 13 (by omega)
          clear hv
          simp only [G2.growPut, G2.gSlot, List.getElem?_toArray, List.getElem?_cons_zero, List.getElem?_cons_succ, Option.bind_some, List.setIfInBounds_toArray, List.set_cons_zero, List.set_cons_succ, List.drop_succ_cons, List.drop_zero, v13]
          have own2 := ownM.kp k9
          have k3 := hkq.trans k9
          have hx3 := hky.kp k9
          clear ownM hkq hky HA
          cases hh : acyG ⟨fi, n, le⟩ vs with
          | true =>
            have HN : Hid (idxsF (badG vs) 0 s.graphs = M ++ idxsF (badG vs) (m + 1) (s.graphs.drop (m + 1))) := hid (by rw [HM.out, HD.out, idxsF_no (by simp [badG, hh])])
            clear hh
            go_wp2
            go_roundw
            case rel => exact ⟨m + 1, M, by omega, by go_num, by omega, own2, HN, k3, hoy, hx3⟩
            case measure => simp [intOf]; omega
          | false =>
            have HN : Hid (idxsF (badG vs) 0 s.graphs = (M ++ [(m : Int)]) ++ idxsF (badG vs) (m + 1) (s.graphs.drop (m + 1))) := hid (by rw [HM.out, HD.out, idxsF_yes (by simp [badG, hh])]; simp)
            have hbz2 := hx3.1
            have hbz3 := hkx.1
            have hzz : z1 + 1 ≤ w9.heap.size := by omega
            clear hh
            go_wp2_with (at_builtin; refine wpl_append_flat rfl (.tmp 63) (.tmp 65) rfl stIntM encInt_len encInt_one rfl (own2.alloc _) rfl (litI _ [(m : Int)] _ rfl (by simp) 1 rfl) (by simp; omega) (by simp; omega) (by simp; omega) ?_; intro v4 w4 hown4 hgrow4 hat4 hnil4)
            go_roundw
            case rel => exact ⟨m + 1, M ++ [(m : Int)], by omega, by go_num, by simp; omega, hown4, HN, (k3.alloc _).grown hgrow4 (fun q hq => by have := own2.ge q hq; omega), hoy.grown hat4 (by simp; omega), (hx3.kp ((Kp.refl _).alloc _)).grown hgrow4 hoy⟩
            case measure => simp [intOf]; omega
        · have HS : Hid (M = idxsF (badG vs) 0 s.graphs) := hid (by rw [HM.out, List.drop_of_length_le (by omega)]; simp [idxsF])
          have SM := ownM.sl encInt_len
          have SL2 := (own.owS.step hky.1 (fun q hq hlt => hky.2 q hlt (fun e => by have := hox q hq; omega))).here.sl encInt_len
          have g0 : decide ((m : Int) < (s.graphs.length : Int)) = false := decide_eq_false (by omega)
          clear ownM own
          go_wp2
          go_ret2
          exact ⟨_, _, rfl, by rw [← HR.out]; exact SL2, by rw [← HS.out]; exact SM, hkq⟩
end Go.Proofs.Ytlbhidiliogflaa
namespace Go.Proofs.Ytlbhidiliogflaa
set_option linter.unusedSimpArgs false
set_option linter.unusedVariables false
open Go.RowKit

set_option maxRecDepth 8000 in
set_option maxHeartbeats 1600000 in
theorem qCase_any (va vv : Value) (s : Sys) (vs : List Int) (w : World) (hs : SysV w va s) (hv : Ints w vv vs) (hF : FitV s vs) (hR : lookedB s vs = true) :
    Calls Try.prog 81 #[va, vv] w fun e w' => e = .returned (altR (idxF (goodC vs) 0 s.cases)) ∧ Kp w w' := by
  have hs' := hs
  obtain ⟨Ab, cb, Ar, cr, Ag, cg, Ac, cc, rfl, hb, hr, hg, hc⟩ := hs'
  obtain ⟨l1, m1⟩ := hb.caps
  obtain ⟨l2, m2⟩ := hr.caps
  obtain ⟨l3, m3⟩ := hg.caps
  obtain ⟨l4, m4⟩ := hc.caps
  obtain ⟨A', c', rfl, hc', hm'⟩ := hv.form
  have HRR := hid hR
  have hn3 := hF.ncases
  clear hR
  have k0 := (Kp.refl w).alloc (.cells #[.slice Ab s.box.length cb, .slice Ar s.rows.length cr, .slice Ag s.graphs.length cg, .slice Ac s.cases.length cc] 27)
  have B0 := SysB.new w #[.slice Ab s.box.length cb, .slice Ar s.rows.length cr, .slice Ag s.graphs.length cg, .slice Ac s.cases.length cc] 27
  have z0 := alloc_lt w (.cells #[.slice Ab s.box.length cb, .slice Ar s.rows.length cr, .slice Ag s.graphs.length cg, .slice Ac s.cases.length cc] 27)
  go_enter Try.func81, Try.ntmps81
  go_wp2_with fail
  try rw [← World.size_alloc w (.cells #[.slice Ab s.box.length cb, .slice Ar s.rows.length cr, .slice Ag s.graphs.length cg, .slice Ac s.cases.length cc] 27)]
  generalize w.alloc (.cells #[.slice Ab s.box.length cb, .slice Ar s.rows.length cr, .slice Ag s.graphs.length cg, .slice Ac s.cases.length cc] 27) = w0 at *
  generalize w.heap.size = b0 at *
  refine (qRight_any _ _ s vs _ (hs.keep k0) (hv.keep (pl_stable _) k0)).mono ?_
  rw [HRR.out]
  rintro e w1 ⟨rfl, k1⟩
  replace B0 := B0.keep k1
  replace k1 := k0.trans k1
  obtain ⟨c0, c1, c2, c3⟩ := B0.cells
  have hgl := block_lt_of_cell c0
  clear k0 HRR
  go_wp2
  clear hgl
  go_loopw [6] (fun i wr => ∃ k : Nat, k ≤ s.cases.length ∧ i = .int .i64 k ∧ Hid (idxF (goodC vs) 0 s.cases = idxF (goodC vs) k (s.cases.drop k)) ∧ Kp w1 wr) (fun i _ => s.cases.length - (intOf i).toNat)
  case atStart => exact ⟨0, Nat.zero_le _, rfl, rfl, Kp.refl _⟩
  case round =>
    obtain ⟨k, hk, rfl, HL, hkr⟩ := hrel
    have kk := k1.trans hkr
    have d3 := hkr.cellS c3
    have hgl := block_lt_of_cell d3
    by_cases hlt : k < s.cases.length
    · obtain ⟨b, o, A2, ca2, rfl, hb2, h1, hT⟩ := (hc.keep rdRows_stable kk).rowsAt hlt
      have HD := hid (List.drop_eq_getElem_cons hlt)
      have HOK := hid (hF.cases s.cases[k] (List.getElem_mem hlt))
      have hv1 := hv.keep (pl_stable _) kk
      clear hb hr hg hc c0 c1 c2 c3
      generalize s.cases[k] = l at *
      have hkl : (k : Int) < s.cases.length := by omega
      obtain ⟨wo, rfl⟩ : ∃ wo : World, wo = wr := ⟨_, rfl⟩
      have hb1 := block_lt_of_cell h1
      obtain ⟨hcl, hml⟩ := hT.caps
      go_wp2
      go_loopw [7, 8] (fun v i wr => ∃ j : Nat, j ≤ l.length ∧ i = .int .i64 j ∧ v = .bool (!(l.take j).any (badR vs)) ∧ Kp wo wr) (fun _ i _ => l.length - (intOf i).toNat)
      case atStart => exact ⟨0, Nat.zero_le _, rfl, rfl, Kp.refl _⟩
      case round =>
        obtain ⟨j, hj, rfl, rfl, hkj⟩ := hrel
        have e3 := hkj.cellS d3
        have e1 := hkj.cellS h1
        have hgl2 := block_lt_of_cell e3
        have hgl3 := block_lt_of_cell e1
        by_cases hjl : j < l.length
        · obtain ⟨b2, o2, A4, c4, rfl, hb4, g1, g2, hT4⟩ := (hT.keep rdRow_stable hkj).row hjl
          have hmem := List.getElem_mem hjl
          obtain ⟨hok, hl128⟩ := HOK.out l[j] hmem
          have HA : Hid ((l.take (j + 1)).any (badR vs) = ((l.take j).any (badR vs) || badR vs l[j])) := hid (by rw [List.take_succ_eq_append_getElem hjl, List.any_append]; simp)
          generalize l[j] = r at *
          obtain ⟨ts, bd⟩ := r
          dsimp only at g1 g2 hT4 hok hl128
          have HO := hid hok
          rw [holds_badR vs ts bd] at HA
          have hv2 := hv1.keep (pl_stable _) hkj
          have hjq : (j : Int) < l.length := by omega
          generalize (l.take j).any (badR vs) = q at *
          clear hok hmem d3 h1 hb1
          go_wp2
          refine G2.wp_region_growG Kp [] 19 52 (G2.pvL [G2.eqv (.pointer (some ⟨b0, 3, none⟩)), G2.eqv (.slice (some ⟨b, o, none⟩) s.cases.length cc), G2.eqv (.int .i64 (k : Int)), G2.eqv (.pointer (some ⟨b, o + k, none⟩)), G2.eqv (.slice (some ⟨b2, o2, none⟩) l.length ca2), G2.eqv (.int .i64 (j : Int)), G2.eqv (.pointer (some ⟨b2, o2 + j * 2, none⟩)), G2.eqv (.agg #[.slice A4 ts.length c4, .int .i64 bd]), G2.eqv (.slice A' vs.length c'), G2.eqv (.int .i64 (valueL vs 0 ts)), G2.eqv (.pointer (some ⟨b0, 3, none⟩)), G2.eqv (.slice (some ⟨b, o, none⟩) s.cases.length cc), G2.eqv (.int .i64 (k : Int)), G2.eqv (.pointer (some ⟨b, o + k, none⟩)), G2.eqv (.slice (some ⟨b2, o2, none⟩) l.length ca2), G2.eqv (.int .i64 (j : Int)), G2.eqv (.pointer (some ⟨b2, o2 + j * 2, none⟩)), G2.eqv (.pointer (some ⟨b2, o2 + j * 2 + 1, none⟩)), G2.eqv (.int .i64 bd)]) (by kernel_rfl) (by kernel_rfl) rfl (fun x => Kp.refl x) (fun _ _ _ h k => h.trans k) (Kp.refl _).drew (fun _ _ _ _ _ h => h) (G2.pvL_keep (G2.stabL_cons (G2.stab_eq _) (G2.stabL_cons (G2.stab_eq _) (G2.stabL_cons (G2.stab_eq _) (G2.stabL_cons (G2.stab_eq _) (G2.stabL_cons (G2.stab_eq _) (G2.stabL_cons (G2.stab_eq _) (G2.stabL_cons (G2.stab_eq _) (G2.stabL_cons (G2.stab_eq _) (G2.stabL_cons (G2.stab_eq _) (G2.stabL_cons (G2.stab_eq _) (G2.stabL_cons (G2.stab_eq _) (G2.stabL_cons (G2.stab_eq _) (G2.stabL_cons (G2.stab_eq _) (G2.stabL_cons (G2.stab_eq _) (G2.stabL_cons (G2.stab_eq _) (G2.stabL_cons (G2.stab_eq _) (G2.stabL_cons (G2.stab_eq _) (G2.stabL_cons (G2.stab_eq _) (G2.stabL_cons (G2.stab_eq _) (G2.stabL_nil))))))))))))))))))))) ?_ ?_ ?_
          · intro i0 hi0
            have hi' : i0 = 0 ∨ i0 = 1 ∨ i0 = 2 ∨ i0 = 3 ∨ i0 = 4 ∨ i0 = 5 ∨ i0 = 6 ∨ i0 = 7 ∨ i0 = 8 ∨ i0 = 9 ∨ i0 = 10 ∨ i0 = 11 ∨ i0 = 12 ∨ i0 = 13 ∨ i0 = 14 ∨ i0 = 15 ∨ i0 = 16 ∨ i0 = 17 ∨ i0 = 18 := by omega
            rcases hi' with rfl | rfl | rfl | rfl | rfl | rfl | rfl | rfl | rfl | rfl | rfl | rfl | rfl | rfl | rfl | rfl | rfl | rfl | rfl
            · intro a w' hk hF hD K hK
              simp only [List.getElem?_toArray, List.getElem?_cons_zero, List.getElem?_cons_succ, Option.map_some, Option.getD_some]
              have h2 : a.tmps[2]?.getD undef = .pointer (some ⟨b0, 0, none⟩) := hF 2 (by kernel_rfl)
              clear hF hD
              go_simp
              exact hK.out _ _ (Kp.refl _) rfl
            · intro a w' hk hF hD K hK
              simp only [List.getElem?_toArray, List.getElem?_cons_zero, List.getElem?_cons_succ, Option.map_some, Option.getD_some]
              have h30 : a.tmps[30]?.getD undef = .pointer (some ⟨b0, 3, none⟩) := hD 0 (by kernel_rfl)
              clear hF hD
              have z1 := hk.cellS e3
              go_simp
              exact hK.out _ _ (Kp.refl _) rfl
            · intro a w' hk hF hD K hK
              simp only [List.getElem?_toArray, List.getElem?_cons_zero, List.getElem?_cons_succ, Option.map_some, Option.getD_some]
              have h6 : a.tmps[6]?.getD undef = .int .i64 (k : Int) := hF 6 (by kernel_rfl)
              clear hF hD
              go_simp
              exact hK.out _ _ (Kp.refl _) rfl
            · intro a w' hk hF hD K hK
              simp only [List.getElem?_toArray, List.getElem?_cons_zero, List.getElem?_cons_succ, Option.map_some, Option.getD_some]
              have h31 : a.tmps[31]?.getD undef = .slice (some ⟨b, o, none⟩) s.cases.length cc := hD 1 (by kernel_rfl)
              have h32 : a.tmps[32]?.getD undef = .int .i64 (k : Int) := hD 2 (by kernel_rfl)
              clear hF hD
              go_simp
              exact hK.out _ _ (Kp.refl _) rfl
            · intro a w' hk hF hD K hK
              simp only [List.getElem?_toArray, List.getElem?_cons_zero, List.getElem?_cons_succ, Option.map_some, Option.getD_some]
              have h33 : a.tmps[33]?.getD undef = .pointer (some ⟨b, o + k, none⟩) := hD 3 (by kernel_rfl)
              clear hF hD
              have z1 := hk.cellS e1
              go_simp
              exact hK.out _ _ (Kp.refl _) rfl
            · intro a w' hk hF hD K hK
              simp only [List.getElem?_toArray, List.getElem?_cons_zero, List.getElem?_cons_succ, Option.map_some, Option.getD_some]
              have h8 : a.tmps[8]?.getD undef = .int .i64 (j : Int) := hF 8 (by kernel_rfl)
              clear hF hD
              go_simp
              exact hK.out _ _ (Kp.refl _) rfl
            · intro a w' hk hF hD K hK
              simp only [List.getElem?_toArray, List.getElem?_cons_zero, List.getElem?_cons_succ, Option.map_some, Option.getD_some]
              have h34 : a.tmps[34]?.getD undef = .slice (some ⟨b2, o2, none⟩) l.length ca2 := hD 4 (by kernel_rfl)
              have h35 : a.tmps[35]?.getD undef = .int .i64 (j : Int) := hD 5 (by kernel_rfl)
              clear hF hD
              go_simp
              exact hK.out _ _ (Kp.refl _) rfl
            · intro a w' hk hF hD K hK
              simp only [List.getElem?_toArray, List.getElem?_cons_zero, List.getElem?_cons_succ, Option.map_some, Option.getD_some]
              have h36 : a.tmps[36]?.getD undef = .pointer (some ⟨b2, o2 + j * 2, none⟩) := hD 6 (by kernel_rfl)
              clear hF hD
              have z1 := hk.cellS g1
              have z2 := hk.cellS g2
              go_simp
              exact hK.out _ _ (Kp.refl _) rfl
            · intro a w' hk hF hD K hK
              simp only [List.getElem?_toArray, List.getElem?_cons_zero, List.getElem?_cons_succ, Option.map_some, Option.getD_some]
              have h1 : a.tmps[1]?.getD undef = .slice A' vs.length c' := hF 1 (by kernel_rfl)
              clear hF hD
              go_simp
              exact hK.out _ _ (Kp.refl _) rfl
            · intro a w' hk hF hD K hK
              simp only [List.getElem?_toArray, List.getElem?_cons_zero, List.getElem?_cons_succ, Option.map_some, Option.getD_some]
              have h37 : a.tmps[37]?.getD undef = .agg #[.slice A4 ts.length c4, .int .i64 bd] := hD 7 (by kernel_rfl)
              have h38 : a.tmps[38]?.getD undef = .slice A' vs.length c' := hD 8 (by kernel_rfl)
              clear hF hD
              go_simp
              refine (rValue_any _ _ ts bd vs _ (hT4.keep (pl_stable _) hk) (hv2.keep (pl_stable _) hk) HO.out hF.okv hl128).mono ?_
              rintro e w9 ⟨rfl, hk9⟩
              exact hK.out _ _ hk9 rfl
            · intro a w' hk hF hD K hK
              simp only [List.getElem?_toArray, List.getElem?_cons_zero, List.getElem?_cons_succ, Option.map_some, Option.getD_some]
              have h2 : a.tmps[2]?.getD undef = .pointer (some ⟨b0, 0, none⟩) := hF 2 (by kernel_rfl)
              clear hF hD
              go_simp
              exact hK.out _ _ (Kp.refl _) rfl
            · intro a w' hk hF hD K hK
              simp only [List.getElem?_toArray, List.getElem?_cons_zero, List.getElem?_cons_succ, Option.map_some, Option.getD_some]
              have h40 : a.tmps[40]?.getD undef = .pointer (some ⟨b0, 3, none⟩) := hD 10 (by kernel_rfl)
              clear hF hD
              have z1 := hk.cellS e3
              go_simp
              exact hK.out _ _ (Kp.refl _) rfl
            · intro a w' hk hF hD K hK
              simp only [List.getElem?_toArray, List.getElem?_cons_zero, List.getElem?_cons_succ, Option.map_some, Option.getD_some]
              have h6 : a.tmps[6]?.getD undef = .int .i64 (k : Int) := hF 6 (by kernel_rfl)
              clear hF hD
              go_simp
              exact hK.out _ _ (Kp.refl _) rfl
            · intro a w' hk hF hD K hK
              simp only [List.getElem?_toArray, List.getElem?_cons_zero, List.getElem?_cons_succ, Option.map_some, Option.getD_some]
              have h41 : a.tmps[41]?.getD undef = .slice (some ⟨b, o, none⟩) s.cases.length cc := hD 11 (by kernel_rfl)
              have h42 : a.tmps[42]?.getD undef = .int .i64 (k : Int) := hD 12 (by kernel_rfl)
              clear hF hD
              go_simp
              exact hK.out _ _ (Kp.refl _) rfl
            · intro a w' hk hF hD K hK
              simp only [List.getElem?_toArray, List.getElem?_cons_zero, List.getElem?_cons_succ, Option.map_some, Option.getD_some]
              have h43 : a.tmps[43]?.getD undef = .pointer (some ⟨b, o + k, none⟩) := hD 13 (by kernel_rfl)
              clear hF hD
              have z1 := hk.cellS e1
              go_simp
              exact hK.out _ _ (Kp.refl _) rfl
            · intro a w' hk hF hD K hK
              simp only [List.getElem?_toArray, List.getElem?_cons_zero, List.getElem?_cons_succ, Option.map_some, Option.getD_some]
              have h8 : a.tmps[8]?.getD undef = .int .i64 (j : Int) := hF 8 (by kernel_rfl)
              clear hF hD
              go_simp
              exact hK.out _ _ (Kp.refl _) rfl
            · intro a w' hk hF hD K hK
              simp only [List.getElem?_toArray, List.getElem?_cons_zero, List.getElem?_cons_succ, Option.map_some, Option.getD_some]
              have h44 : a.tmps[44]?.getD undef = .slice (some ⟨b2, o2, none⟩) l.length ca2 := hD 14 (by kernel_rfl)
              have h45 : a.tmps[45]?.getD undef = .int .i64 (j : Int) := hD 15 (by kernel_rfl)
              clear hF hD
              go_simp
              exact hK.out _ _ (Kp.refl _) rfl
            · intro a w' hk hF hD K hK
              simp only [List.getElem?_toArray, List.getElem?_cons_zero, List.getElem?_cons_succ, Option.map_some, Option.getD_some]
              have h46 : a.tmps[46]?.getD undef = .pointer (some ⟨b2, o2 + j * 2, none⟩) := hD 16 (by kernel_rfl)
              clear hF hD
              go_simp
              exact hK.out _ _ (Kp.refl _) rfl
            · intro a w' hk hF hD K hK
              simp only [List.getElem?_toArray, List.getElem?_cons_zero, List.getElem?_cons_succ, Option.map_some, Option.getD_some]
              have h47 : a.tmps[47]?.getD undef = .pointer (some ⟨b2, o2 + j * 2 + 1, none⟩) := hD 17 (by kernel_rfl)
              clear hF hD
              have z1 := hk.cellS g2
              go_simp
              exact hK.out _ _ (Kp.refl _) rfl
          · exact fun i0 hi0 => by simp at hi0
          intro v w9 k9 hv
          have v9 : v 9 = .int .i64 (valueL vs 0 ts) := hv 9 (by omega)
          have v18 : v 18 = .int .i64 bd := hv 18 (by omega)
          clear hv
          simp only [G2.growPut, G2.gSlot, List.getElem?_toArray, List.getElem?_cons_zero, List.getElem?_cons_succ, Option.bind_some, List.setIfInBounds_toArray, List.set_cons_zero, List.set_cons_succ, List.drop_succ_cons, List.drop_zero, v9, v18]
          have k3 := hkj.trans k9
          generalize valueL vs 0 ts = val at *
          clear g1 g2 hT4 e3 e1
          by_cases hh : bd < val
          · have HN : Hid ((l.take (j + 1)).any (badR vs) = true) := hid (by rw [HA.out, decide_eq_true hh]; simp)
            have e1 : decide (bd < val) = true := decide_eq_true hh
            clear hh HA
            go_wp2
            go_roundw
            case rel => exact ⟨j + 1, by omega, by go_num, by rw [HN.out]; rfl, k3⟩
            case measure => simp [intOf]; omega
          · have HN : Hid ((l.take (j + 1)).any (badR vs) = q) := hid (by rw [HA.out, decide_eq_false hh]; simp)
            have e1 : decide (bd < val) = false := decide_eq_false hh
            clear hh HA
            go_wp2
            go_roundw
            case rel => exact ⟨j + 1, by omega, by go_num, by rw [HN.out], k3⟩
            case measure => simp [intOf]; omega
        · have hte : l.take j = l := List.take_of_length_le (by omega)
          rw [hte]
          have g0 : decide ((j : Int) < (l.length : Int)) = false := decide_eq_false (by omega)
          cases hh : l.any (badR vs) with
          | true =>
            have HN : Hid (idxF (goodC vs) 0 s.cases = idxF (goodC vs) (k + 1) (s.cases.drop (k + 1))) := hid (by rw [HL.out, HD.out, idxF, if_neg (by simp [goodC, hh])])
            clear hh hte
            go_wp2
            go_roundw
            case rel => exact ⟨k + 1, by omega, by go_num, HN, hkr.trans hkj⟩
            case measure => simp [intOf]; omega
          | false =>
            have HN : Hid (altR (idxF (goodC vs) 0 s.cases) = .tuple #[.int .i64 (k : Int), .bool true]) := hid (by
              rw [HL.out, HD.out, idxF, if_pos (by simp [goodC, hh])]
              unfold altR
              rw [show max (k : Int) 0 = k by omega, decide_eq_true (by omega)])
            clear hh hte
            go_wp2
            go_ret2
            exact ⟨by rw [HN.out]; rfl, kk.trans hkj⟩
    · have HN : Hid (altR (idxF (goodC vs) 0 s.cases) = .tuple #[.int .i64 0, .bool false]) := hid (by
        rw [HL.out, List.drop_of_length_le (by omega)]
        rfl)
      have g0 : decide ((k : Int) < (s.cases.length : Int)) = false := decide_eq_false (by omega)
      go_wp2
      go_ret2
      exact ⟨by rw [HN.out]; rfl, kk⟩
set_option maxRecDepth 8000 in
set_option maxHeartbeats 1600000 in
theorem qHolds_any (va vv : Value) (s : Sys) (vs : List Int) (w : World) (hs : SysV w va s) (hv : Ints w vv vs) :
    Calls Try.prog 46 #[va, vv] w fun e w' => e = .returned (.bool (holdsS s vs)) ∧ Kp w w' := by
  have hs' := hs
  obtain ⟨Ab, cb, Ar, cr, Ag, cg, Ac, cc, rfl, hb, hr, hg, hc⟩ := hs'
  obtain ⟨l1, m1⟩ := hb.caps
  obtain ⟨l2, m2⟩ := hr.caps
  obtain ⟨l3, m3⟩ := hg.caps
  obtain ⟨l4, m4⟩ := hc.caps
  obtain ⟨A', c', rfl, hc', hm'⟩ := hv.form
  have HF : Hid (holdsS s vs = (validS s && (containsB s.box vs && solvesB s vs))) := hid rfl
  have HSV : Hid (solvesB s vs = ((!s.rows.any (badR vs) && !s.graphs.any (badG vs)) && (s.cases.any (goodC vs) || s.cases.isEmpty))) := hid rfl
  have k0 := (Kp.refl w).alloc (.cells #[.slice Ab s.box.length cb, .slice Ar s.rows.length cr, .slice Ag s.graphs.length cg, .slice Ac s.cases.length cc] 27)
  have B0 := SysB.new w #[.slice Ab s.box.length cb, .slice Ar s.rows.length cr, .slice Ag s.graphs.length cg, .slice Ac s.cases.length cc] 27
  have z0 := alloc_lt w (.cells #[.slice Ab s.box.length cb, .slice Ar s.rows.length cr, .slice Ag s.graphs.length cg, .slice Ac s.cases.length cc] 27)
  go_enter Try.func46, Try.ntmps46
  go_wp2_with fail
  try rw [← World.size_alloc w (.cells #[.slice Ab s.box.length cb, .slice Ar s.rows.length cr, .slice Ag s.graphs.length cg, .slice Ac s.cases.length cc] 27)]
  generalize w.alloc (.cells #[.slice Ab s.box.length cb, .slice Ar s.rows.length cr, .slice Ag s.graphs.length cg, .slice Ac s.cases.length cc] 27) = w0 at *
  generalize w.heap.size = b0 at *
  refine (qValid_any _ s _ (hs.keep k0)).mono ?_
  rintro e w1 ⟨rfl, k1⟩
  replace B0 := B0.keep k1
  replace k1 := k0.trans k1
  obtain ⟨c0, c1, c2, c3⟩ := B0.cells
  have hgl := block_lt_of_cell c0
  cases hV : validS s with
  | false =>
    have HE : Hid (holdsS s vs = false) := hid (by rw [HF.out, hV]; rfl)
    clear hV
    go_wp2
    go_ret
    exact ⟨ret_bool HE.out.symm, k1⟩
  | true =>
    have HV := hid hV
    clear hV
    go_wp2_with fail
    refine (rContains_any _ _ s.box vs _ (hb.keep (pl_stable _) k1) (hv.keep (pl_stable _) k1)).mono ?_
    rintro e w2 ⟨rfl, k2⟩
    replace B0 := B0.keep k2
    replace k2 := k1.trans k2
    clear c0 c1 c2 c3 hgl k1
    obtain ⟨c0, c1, c2, c3⟩ := B0.cells
    have hgl := block_lt_of_cell c0
    cases hC : containsB s.box vs with
    | false =>
      have HE : Hid (holdsS s vs = false) := hid (by rw [HF.out, hC]; simp)
      clear hC
      go_wp2
      go_ret
      exact ⟨ret_bool HE.out.symm, k2⟩
    | true =>
      have hF := fit_of HV.out hC
      have hR := hid (looked_in HV.out hC)
      have HE : Hid (holdsS s vs = solvesB s vs) := hid (by rw [HF.out, HV.out, hC]; rfl)
      clear hC HF
      go_wp2_with fail
      refine (qFails_any _ _ s vs _ (hs.keep k2) (hv.keep (pl_stable _) k2) hF hR.out).mono ?_
      rintro e w3 ⟨v1, v2, rfl, s1, s2, k3⟩
      replace B0 := B0.keep k3
      replace k3 := k2.trans k3
      clear c0 c1 c2 c3 hgl k2
      obtain ⟨c0, c1, c2, c3⟩ := B0.cells
      have hgl := block_lt_of_cell c0
      have i1 := hid (idxsF_nil (badR vs) 0 s.rows)
      have i2 := hid (idxsF_nil (badG vs) 0 s.graphs)
      have j1 := idxsF_len (badR vs) 0 s.rows
      have j2 := idxsF_len (badG vs) 0 s.graphs
      have n1 := hF.nrows
      have n2 := hF.ngraphs
      have n3 := hF.ncases
      generalize idxsF (badR vs) 0 s.rows = L1 at *
      generalize idxsF (badG vs) 0 s.graphs = L2 at *
      obtain ⟨A1, c1', rfl, _, _⟩ := s1.form
      obtain ⟨A2, c2', rfl, _, _⟩ := s2.form
      clear s1 s2 k0
      go_wp2_with fail
      refine (qCase_any _ _ s vs _ (hs.keep k3) (hv.keep (pl_stable _) k3) hF hR.out).mono ?_
      rintro e w4 ⟨rfl, k4⟩
      replace B0 := B0.keep k4
      replace k4 := k3.trans k4
      clear c0 c1 c2 c3 hgl k3
      obtain ⟨c0, c1, c2, c3⟩ := B0.cells
      have hgl := block_lt_of_cell c0
      have HI := hid (idxF_any (goodC vs) 0 s.cases)
      have HZ : Hid (s.cases.isEmpty = decide (s.cases.length = 0)) := hid (by cases s.cases <;> simp)
      generalize idxF (goodC vs) 0 s.cases = r at *
      unfold altR
      generalize max r 0 = mx
      generalize hdr : decide (0 ≤ r) = dr at *
      clear hdr
      by_cases h1 : L1.length = 0
      · have e1 : ((L1.length : Int) == 0) = true := by simpa using h1
        by_cases h2 : L2.length = 0
        · have e2 : ((L2.length : Int) == 0) = true := by simpa using h2
          have HE2 : Hid (holdsS s vs = (dr || decide (s.cases.length = 0))) := hid (by
            rw [HE.out, HSV.out, ← i1.out, ← i2.out, h1, h2, ← HI.out, HZ.out]
            simp)
          clear i1 i2 h1 h2 HE HSV HZ HI
          by_cases h3 : s.cases.length = 0
          · have e3 : ((s.cases.length : Int) == 0) = true := by simpa using h3
            have HE3 : Hid (holdsS s vs = true) := hid (by rw [HE2.out, decide_eq_true h3]; simp)
            clear h3 HE2
            go_wp2
            go_ret
            exact ⟨ret_bool HE3.out.symm, k4⟩
          · have e3 : ((s.cases.length : Int) == 0) = false := by simpa using h3
            have HE3 : Hid (holdsS s vs = dr) := hid (by rw [HE2.out, decide_eq_false h3]; simp)
            clear h3 HE2
            go_wp2
            go_ret
            exact ⟨ret_bool HE3.out.symm, k4⟩
        · have e2 : ((L2.length : Int) == 0) = false := by simpa using h2
          have HE2 : Hid (holdsS s vs = false) := hid (by
            rw [HE.out, HSV.out, ← i1.out, ← i2.out, h1, decide_eq_true (show 0 < L2.length by omega)]
            simp)
          clear i1 i2 h1 h2 HE HSV HZ HI
          go_wp2
          go_ret
          exact ⟨ret_bool HE2.out.symm, k4⟩
      · have e1 : ((L1.length : Int) == 0) = false := by simpa using h1
        have HE2 : Hid (holdsS s vs = false) := hid (by
          rw [HE.out, HSV.out, ← i1.out, ← i2.out, decide_eq_true (show 0 < L1.length by omega)]
          simp)
        clear i1 i2 h1 HE HSV HZ HI
        go_wp2
        go_ret
        exact ⟨ret_bool HE2.out.symm, k4⟩
end Go.Proofs.Ytlbhidiliogflaa
