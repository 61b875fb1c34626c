
/-
Sorting events in place: ranges that change places: the walk.
-/
import Derived.Test.YtcddllaljgfjbaaEvG
import Derived.Test.YtcddllaljgfjbaaEvB
import Derived.Test.YtcddllaljgfjbaaApz
import Derived.Test.YtcddllaljgfjbaaFxG
namespace Go.Proofs.Ytcddllaljgfjbaa
set_option linter.unusedSimpArgs false
set_option linter.unusedVariables false
open Go.RowKit

/-- an event with the slice of its past -/
structure EvS where
  e : Ev
  A : Option Addr
  n : Nat
  c : Nat
instance : Inhabited EvS := ⟨⟨zEv, none, 0, 0⟩⟩
def encEs (x : EvS) : List Value := evL x.e (.slice x.A x.n x.c)
theorem encEs_len (x : EvS) : (encEs x).length = 13 := rfl
theorem encEs_one (x : EvS) : ∀ u ∈ encEs x, u.oneCell' = true := by simp [encEs, evL, Value.oneCell']
theorem stEvs : SliceT Try.prog 35 33 13 120 := SliceT.mk' Try.underlying35 (z := .agg #[.int .i64 0, .int .i64 0, .int .i64 0, .slice none 0 0, .int .i64 0, .int .i64 0, .int .i64 0, .int .i64 0, .int .i64 0, .int .i64 0, .int .i64 0, .int .i64 0, .int .i64 0]) (by kernel_rfl) rfl (by omega)
/-- what lies in the places -/
def DL (d : Nat → EvS) (n : Nat) : List EvS := (List.range n).map d
theorem DL_len (d : Nat → EvS) (n : Nat) : (DL d n).length = n := by simp [DL]
theorem DL_at (d : Nat → EvS) {n i : Nat} (h : i < n) : (DL d n)[i]'(by rw [DL_len]; exact h) = d i := by simp [DL]
theorem DL_set (d : Nat → EvS) {n i : Nat} (h : i < n) (x : EvS) : (DL d n).set i x = DL (fun k => if k = i then x else d k) n := by
  apply List.ext_getElem
  · rw [List.length_set, DL_len, DL_len]
  · intro k h1 h2
    rw [DL_len] at h2
    rw [DL_at _ h2, List.getElem_set]
    by_cases e : i = k
    · rw [if_pos e, if_pos e.symm]
    · rw [if_neg e, if_neg (fun h => e h.symm), DL_at _ h2]
theorem DL_swap (d : Nat → EvS) {n i j : Nat} (hi : i < n) (hj : j < n) : ((DL d n).set i (d j)).set j (d i) = DL (fun k => d (St.sw i j k)) n := by
  rw [DL_set d hi, DL_set _ hj]
  congr 1
  funext k
  unfold St.sw
  by_cases h1 : k = j
  · subst h1
    by_cases h2 : k = i
    · subst h2; simp
    · simp [h2]
  · rw [if_neg h1]
    by_cases h2 : k = i
    · rw [if_pos h2, if_pos h2]
    · rw [if_neg h2, if_neg h2, if_neg h1]
/-- the row holds what lies in the places -/
abbrev SD (base g n c : Nat) (d : Nat → EvS) (w : World) : Prop := Own encEs 33 13 base w (.slice (some ⟨g, 0, none⟩) n c) (DL d n)
section
variable {base g n c : Nat} {d : Nat → EvS} {w w' : World}
theorem SD.range (h : SD base g n c d w) {i : Nat} (hi : i < n) : w.rangeAt g (i * 13) (encEs (d i)) := fun j u hu => by
  have hj : j < 13 := by have := (List.getElem?_eq_some_iff.1 hu).1; rwa [encEs_len] at this
  have h1 := h.cellAt encEs_len (DL_len d n).symm (k := i) (by rw [DL_len]; exact hi) hj
  rw [DL_at d hi] at h1
  rw [h1, hu]
theorem SD.lt (h : SD base g n c d w) (hn : 0 < n) : g < w.heap.size := by
  obtain ⟨g', c', e, -, -, -, h2⟩ := h.row (by rw [DL_len]; exact hn)
  injection e with e
  injection e with e
  injection e with e
  rw [e]
  exact h2
theorem SD.there (h : SD base g n c d w) {i : Nat} (hi : i < n) : w.there g (i * 13) 13 := h.thereRow encEs_len (DL_len d n).symm (by rw [DL_len]; exact hi)
theorem SD.set (h : SD base g n c d w) {i : Nat} (hi : i < n) (x : EvS) : SD base g n c (fun k => if k = i then x else d k) (w.setCells g (i * 13) (encEs x)) := by
  have h1 := h.setRow encEs_len (DL_len d n).symm (k := i) (by rw [DL_len]; exact hi) x
  rw [DL_set d hi] at h1
  exact h1
end
theorem hiEv (x : EvS) : (Try.prog.info? 33).map (·.size) = some (encEs x).length := by rw [encEs_len]; kernel_rfl
theorem hiEv2 (x : EvS) : (Try.prog.info? 33).map (·.size) = some (encEs x).toArray.size := by rw [List.size_toArray, encEs_len]; kernel_rfl
theorem sd_two {base g n c : Nat} {d : Nat → EvS} {w : World} (h : SD base g n c d w) {i j : Nat} (hi : i < n) (hj : j < n) : SD base g n c (fun k => d (St.sw i j k)) ((w.setCells g (i * 13) (encEs (d j))).setCells g (j * 13) (encEs (d i))) := by
  have h1 := (h.set hi (d j)).setRow encEs_len (DL_len _ n).symm (k := j) (by rw [DL_len]; exact hj) (d i)
  rw [← DL_set d hi (d j), DL_swap d hi hj] at h1
  exact h1
theorem fx_two {g : Nat} {a w : World} (h : Fx (fun q => q = g) a w) (o1 o2 : Nat) (c1 c2 : List Value) : Fx (fun q => q = g) a ((w.setCells g o1 c1).setCells g o2 c2) :=
  setsFx g o2 c2 _ (setsFx g o1 c1 _ h (.inl rfl)) (.inl rfl)
set_option maxRecDepth 8000 in
set_option maxHeartbeats 4000000 in
theorem sSwap_any (base g n c : Nat) (d : Nat → EvS) (pa pb k : Nat) (f : Value) (w : World) (h : SD base g n c d w) (h1 : pa + k ≤ pb) (h2 : pb + k ≤ n) (hn : n ≤ 4096) :
    Calls Try.prog 112 #[.slice (some ⟨g, 0, none⟩) n c, .int .i64 (pa : Int), .int .i64 (pb : Int), .int .i64 (k : Int), f] w fun e w' => e = .returned (.tuple #[]) ∧ SD base g n c (fun x => d (St.sr pa pb k x)) w' ∧ Fx (fun q => q = g) w w' := by
  have h0 : SD base g n c (fun x => d (St.sr pa pb 0 x)) w := by
    have e : (fun x => d (St.sr pa pb 0 x)) = d := by funext x; rw [St.sr_zero]
    rw [e]
    exact h
  go_enter Try.func112, Try.ntmps112
  go_wp2_with fail
  go_loopw [10] (fun i wr => ∃ j : Nat, j ≤ k ∧ i = .int .i64 (j : Int) ∧ SD base g n c (fun x => d (St.sr pa pb j x)) wr ∧ Fx (fun q => q = g) w wr) (fun i _ => k - (intOf i).toNat)
  case atStart => exact ⟨0, Nat.zero_le _, rfl, h0, Fx.refl _ _⟩
  case round =>
    clear h0
    obtain ⟨j, hj, rfl, hD, fx⟩ := hrel
    obtain ⟨wo, rfl⟩ : ∃ wo : World, wo = wr := ⟨_, rfl⟩
    by_cases hlt : j < k
    · have hjl : (j : Int) < (k : Int) := by omega
      have hj0 : (0 : Int) ≤ (j : Int) := by omega
      obtain ⟨ia, hia⟩ : ∃ ia, ia = pa + j := ⟨_, rfl⟩
      obtain ⟨ib, hib⟩ : ∃ ib, ib = pb + j := ⟨_, rfl⟩
      have wa := hid (show IntKind.i64.wrap ((pa : Int) + (j : Int)) = (ia : Int) by rw [hia, IntWalk.i64_in _ (by omega)]; omega)
      have wb := hid (show IntKind.i64.wrap ((pb : Int) + (j : Int)) = (ib : Int) by rw [hib, IntWalk.i64_in _ (by omega)]; omega)
      have wa2 := hid (show (pa : Int) + (j : Int) = (ia : Int) by omega)
      have wb2 := hid (show (pb : Int) + (j : Int) = (ib : Int) by omega)
      have hla : ia < n := by omega
      have hlb : ib < n := by omega
      have hlia := hla
      have hlib := hlb
      have hlaI : (ia : Int) < (n : Int) := by omega
      have hlbI : (ib : Int) < (n : Int) := by omega
      have hla0 : (0 : Int) ≤ (ia : Int) := by omega
      have hlb0 : (0 : Int) ≤ (ib : Int) := by omega
      have hs := hid (show (fun x => d (St.sr pa pb j (St.sw ia ib x))) = fun x => d (St.sr pa pb (j + 1) x) by funext x; rw [hia, hib, ← St.sr_succ (by omega)])
      replace hia := hid hia
      replace hib := hid hib
      go_upto_region 3 with (fail)
      refine G2.wp_region_growT Kp [4, 5, 6, 7] 20 38 (G2.pvL [G2.eqv (.slice (some ⟨g, 0, none⟩) n c), G2.eqv (.int .i64 (pa : Int)), G2.eqv (.int .i64 (j : Int)), G2.eqv (.int .i64 (ia : Int)), G2.eqv (.slice (some ⟨g, 0, none⟩) n c), G2.eqv (.int .i64 (pb : Int)), G2.eqv (.int .i64 (j : Int)), G2.eqv (.int .i64 (ib : Int)), G2.eqv (.slice (some ⟨g, 0, none⟩) n c), G2.eqv (.int .i64 (pb : Int)), G2.eqv (.int .i64 (j : Int)), G2.eqv (.int .i64 (ib : Int)), G2.eqv (.pointer (some ⟨g, ib * 13, none⟩)), G2.eqv (.agg (encEs (d (St.sr pa pb j ib))).toArray), G2.eqv (.slice (some ⟨g, 0, none⟩) n c), G2.eqv (.int .i64 (pa : Int)), G2.eqv (.int .i64 (j : Int)), G2.eqv (.int .i64 (ia : Int)), G2.eqv (.pointer (some ⟨g, ia * 13, none⟩)), G2.eqv (.agg (encEs (d (St.sr pa pb j ia))).toArray)]) (by kernel_rfl) (by kernel_rfl) rfl (fun x => Kp.refl x) (fun _ _ _ h k => h.trans k) (Kp.refl _).drew (by intro _ _ _ _ _ h; exact h) (G2.pvL_keep (G2.stabL_cons (G2.stab_eq _) (G2.stabL_cons (G2.stab_eq _) (G2.stabL_cons (G2.stab_eq _) (G2.stabL_cons (G2.stab_eq _) (G2.stabL_cons (G2.stab_eq _) (G2.stabL_cons (G2.stab_eq _) (G2.stabL_cons (G2.stab_eq _) (G2.stabL_cons (G2.stab_eq _) (G2.stabL_cons (G2.stab_eq _) (G2.stabL_cons (G2.stab_eq _) (G2.stabL_cons (G2.stab_eq _) (G2.stabL_cons (G2.stab_eq _) (G2.stabL_cons (G2.stab_eq _) (G2.stabL_cons (G2.stab_eq _) (G2.stabL_cons (G2.stab_eq _) (G2.stabL_cons (G2.stab_eq _) (G2.stabL_cons (G2.stab_eq _) (G2.stabL_cons (G2.stab_eq _) (G2.stabL_cons (G2.stab_eq _) (G2.stabL_cons (G2.stab_eq _) (G2.stabL_nil)))))))))))))))))))))) (G2.stepsT_cons 0 ?_ (G2.stepsT_cons 1 ?_ (G2.stepsT_cons 2 ?_ (G2.stepsT_cons 3 ?_ (G2.stepsT_cons 4 ?_ (G2.stepsT_cons 5 ?_ (G2.stepsT_cons 6 ?_ (G2.stepsT_cons 7 ?_ (G2.stepsT_cons 8 ?_ (G2.stepsT_cons 9 ?_ (G2.stepsT_cons 10 ?_ (G2.stepsT_cons 11 ?_ (G2.stepsT_cons 12 ?_ (G2.stepsT_cons 13 ?_ (G2.stepsT_cons 14 ?_ (G2.stepsT_cons 15 ?_ (G2.stepsT_cons 16 ?_ (G2.stepsT_cons 17 ?_ (G2.stepsT_cons 18 ?_ (G2.stepsT_cons 19 ?_ (G2.stepsT_nil _ _ _))))))))))))))))))))) ?_ ?_
      · intro a w' hk hF hD K hK
        have h0 : a.tmps[0]?.getD undef = .slice (some ⟨g, 0, none⟩) n c := hF 0 (by kernel_rfl)
        clear hF hD
        go_simp
        exact hK.out _ _ (Kp.refl _) rfl
      · intro a w' hk hF hD K hK
        have h1 : a.tmps[1]?.getD undef = .int .i64 (pa : Int) := hF 1 (by kernel_rfl)
        clear hF hD
        go_simp
        exact hK.out _ _ (Kp.refl _) rfl
      · intro a w' hk hF hD K hK
        have h10 : a.tmps[10]?.getD undef = .int .i64 (j : Int) := hF 10 (by kernel_rfl)
        clear hF hD
        go_simp
        exact hK.out _ _ (Kp.refl _) rfl
      · intro a w' hk hF hD K hK
        have h17 : a.tmps[17]?.getD undef = .int .i64 (pa : Int) := hD 1 (by kernel_rfl)
        have h18 : a.tmps[18]?.getD undef = .int .i64 (j : Int) := hD 2 (by kernel_rfl)
        clear hF hD
        have q1 := wa.out
        go_simp
        exact hK.out _ _ (Kp.refl _) rfl
      · intro a w' hk hF hD K hK
        have h0 : a.tmps[0]?.getD undef = .slice (some ⟨g, 0, none⟩) n c := hF 0 (by kernel_rfl)
        clear hF hD
        go_simp
        exact hK.out _ _ (Kp.refl _) rfl
      · intro a w' hk hF hD K hK
        have h2 : a.tmps[2]?.getD undef = .int .i64 (pb : Int) := hF 2 (by kernel_rfl)
        clear hF hD
        go_simp
        exact hK.out _ _ (Kp.refl _) rfl
      · intro a w' hk hF hD K hK
        have h10 : a.tmps[10]?.getD undef = .int .i64 (j : Int) := hF 10 (by kernel_rfl)
        clear hF hD
        go_simp
        exact hK.out _ _ (Kp.refl _) rfl
      · intro a w' hk hF hD K hK
        have h21 : a.tmps[21]?.getD undef = .int .i64 (pb : Int) := hD 5 (by kernel_rfl)
        have h22 : a.tmps[22]?.getD undef = .int .i64 (j : Int) := hD 6 (by kernel_rfl)
        clear hF hD
        have q1 := wb.out
        go_simp
        exact hK.out _ _ (Kp.refl _) rfl
      · intro a w' hk hF hD K hK
        have h0 : a.tmps[0]?.getD undef = .slice (some ⟨g, 0, none⟩) n c := hF 0 (by kernel_rfl)
        clear hF hD
        go_simp
        exact hK.out _ _ (Kp.refl _) rfl
      · intro a w' hk hF hD K hK
        have h2 : a.tmps[2]?.getD undef = .int .i64 (pb : Int) := hF 2 (by kernel_rfl)
        clear hF hD
        go_simp
        exact hK.out _ _ (Kp.refl _) rfl
      · intro a w' hk hF hD K hK
        have h10 : a.tmps[10]?.getD undef = .int .i64 (j : Int) := hF 10 (by kernel_rfl)
        clear hF hD
        go_simp
        exact hK.out _ _ (Kp.refl _) rfl
      · intro a w' hk hF hD K hK
        have h25 : a.tmps[25]?.getD undef = .int .i64 (pb : Int) := hD 9 (by kernel_rfl)
        have h26 : a.tmps[26]?.getD undef = .int .i64 (j : Int) := hD 10 (by kernel_rfl)
        clear hF hD
        have q1 := wb.out
        go_simp
        exact hK.out _ _ (Kp.refl _) rfl
      · intro a w' hk hF hD K hK
        have h24 : a.tmps[24]?.getD undef = .slice (some ⟨g, 0, none⟩) n c := hD 8 (by kernel_rfl)
        have h27 : a.tmps[27]?.getD undef = .int .i64 (ib : Int) := hD 11 (by kernel_rfl)
        clear hF hD
        go_simp
        exact hK.out _ _ (Kp.refl _) rfl
      · intro a w' hk hF hD K hK
        have h28 : a.tmps[28]?.getD undef = .pointer (some ⟨g, ib * 13, none⟩) := hD 12 (by kernel_rfl)
        clear hF hD
        rw [if_pos (by simp [Region.wanted])]
        refine wp_load_mid 33 (.tmp 28) rfl g (ib * 13) ((eval_tmp _ _).trans h28) (encEs (d (St.sr pa pb j ib))) _ (SD.range (Own.kp hD hk) hlb) Try.underlying33 rfl (hiEv _) ?_
        exact hK.out _ _ (Kp.refl _) rfl
      · intro a w' hk hF hD K hK
        have h0 : a.tmps[0]?.getD undef = .slice (some ⟨g, 0, none⟩) n c := hF 0 (by kernel_rfl)
        clear hF hD
        go_simp
        exact hK.out _ _ (Kp.refl _) rfl
      · intro a w' hk hF hD K hK
        have h1 : a.tmps[1]?.getD undef = .int .i64 (pa : Int) := hF 1 (by kernel_rfl)
        clear hF hD
        go_simp
        exact hK.out _ _ (Kp.refl _) rfl
      · intro a w' hk hF hD K hK
        have h10 : a.tmps[10]?.getD undef = .int .i64 (j : Int) := hF 10 (by kernel_rfl)
        clear hF hD
        go_simp
        exact hK.out _ _ (Kp.refl _) rfl
      · intro a w' hk hF hD K hK
        have h31 : a.tmps[31]?.getD undef = .int .i64 (pa : Int) := hD 15 (by kernel_rfl)
        have h32 : a.tmps[32]?.getD undef = .int .i64 (j : Int) := hD 16 (by kernel_rfl)
        clear hF hD
        have q1 := wa.out
        go_simp
        exact hK.out _ _ (Kp.refl _) rfl
      · intro a w' hk hF hD K hK
        have h30 : a.tmps[30]?.getD undef = .slice (some ⟨g, 0, none⟩) n c := hD 14 (by kernel_rfl)
        have h33 : a.tmps[33]?.getD undef = .int .i64 (ia : Int) := hD 17 (by kernel_rfl)
        clear hF hD
        go_simp
        exact hK.out _ _ (Kp.refl _) rfl
      · intro a w' hk hF hD K hK
        have h34 : a.tmps[34]?.getD undef = .pointer (some ⟨g, ia * 13, none⟩) := hD 18 (by kernel_rfl)
        clear hF hD
        rw [if_pos (by simp [Region.wanted])]
        refine wp_load_mid 33 (.tmp 34) rfl g (ia * 13) ((eval_tmp _ _).trans h34) (encEs (d (St.sr pa pb j ia))) _ (SD.range (Own.kp hD hk) hla) Try.underlying33 rfl (hiEv _) ?_
        exact hK.out _ _ (Kp.refl _) rfl
      · intro i0 hi0
        have hi' : i0 = 4 ∨ i0 = 5 ∨ i0 = 6 ∨ i0 = 7 := by simpa using hi0
        rcases hi' with rfl | rfl | rfl | rfl
        · refine ⟨by omega, fun a w' hk hF hD => ?_⟩
          simp only [List.getElem?_toArray, List.getElem?_cons_zero, List.getElem?_cons_succ, Option.map_some, Option.getD_some]
          have h0 : a.tmps[0]?.getD undef = .slice (some ⟨g, 0, none⟩) n c := hF 0 (by kernel_rfl)
          clear hF hD
          exact ⟨.slice (some ⟨g, 0, none⟩) n c, rfl, Or.inl ⟨by simp [Region.wanted], fun w => by go_simp⟩⟩
        · refine ⟨by omega, fun a w' hk hF hD => ?_⟩
          simp only [List.getElem?_toArray, List.getElem?_cons_zero, List.getElem?_cons_succ, Option.map_some, Option.getD_some]
          have h2 : a.tmps[2]?.getD undef = .int .i64 (pb : Int) := hF 2 (by kernel_rfl)
          clear hF hD
          exact ⟨.int .i64 (pb : Int), rfl, Or.inl ⟨by simp [Region.wanted], fun w => by go_simp⟩⟩
        · refine ⟨by omega, fun a w' hk hF hD => ?_⟩
          simp only [List.getElem?_toArray, List.getElem?_cons_zero, List.getElem?_cons_succ, Option.map_some, Option.getD_some]
          have h10 : a.tmps[10]?.getD undef = .int .i64 (j : Int) := hF 10 (by kernel_rfl)
          clear hF hD
          exact ⟨.int .i64 (j : Int), rfl, Or.inl ⟨by simp [Region.wanted], fun w => by go_simp⟩⟩
        · refine ⟨by omega, fun a w' hk hF hD => ?_⟩
          simp only [List.getElem?_toArray, List.getElem?_cons_zero, List.getElem?_cons_succ, Option.map_some, Option.getD_some]
          have h21 : a.tmps[21]?.getD undef = .int .i64 (pb : Int) := hD 5 (by kernel_rfl)
          have h22 : a.tmps[22]?.getD undef = .int .i64 (j : Int) := hD 6 (by kernel_rfl)
          clear hF hD
          have q1 := wb.out
          exact ⟨.int .i64 (ib : Int), rfl, Or.inl ⟨by simp [Region.wanted], fun w => by go_simp⟩⟩
      intro v w9 k9 hv
      have v0 : v 0 = .slice (some ⟨g, 0, none⟩) n c := hv 0 (by omega)
      have v3 : v 3 = .int .i64 (ia : Int) := hv 3 (by omega)
      have v13 : v 13 = .agg (encEs (d (St.sr pa pb j ib))).toArray := hv 13 (by omega)
      have v4 : v 4 = .slice (some ⟨g, 0, none⟩) n c := hv 4 (by omega)
      have v7 : v 7 = .int .i64 (ib : Int) := hv 7 (by omega)
      have v19 : v 19 = .agg (encEs (d (St.sr pa pb j ia))).toArray := hv 19 (by omega)
      clear hv
      simp only [G2.growPut, G2.gSlot, List.getElem?_toArray, List.getElem?_cons_zero, List.getElem?_cons_succ, Option.bind_some, List.setIfInBounds_toArray, List.set_cons_zero, List.set_cons_succ, List.drop_succ_cons, List.drop_zero, v0, v3, v13, v4, v7, v19]
      have hD9 : SD base g n c (fun x => d (St.sr pa pb j x)) w9 := Own.kp hD k9
      have fx9 := fx.trans (k9.fx _)
      have q1 := wa.out
      have q2 := wb.out
      have hth1 : (w9).there g (ia * 13) (encEs (((fun x => d (St.sr pa pb j x))) ib)).toArray.size := by simpa [encEs_len] using SD.there hD9 hlia
      have hS1 := SD.set hD9 hlia (((fun x => d (St.sr pa pb j x))) ib)
      have hT := sd_two hD9 hlia hlib
      have fxT := fx_two (Fx.refl (fun q => q = g) w9) (ia * 13) (ib * 13) (encEs (((fun x => d (St.sr pa pb j x))) ib)) (encEs (((fun x => d (St.sr pa pb j x))) ia))
      obtain ⟨wA, hwA⟩ : ∃ wA, wA = (w9).setCells g (ia * 13) (encEs (((fun x => d (St.sr pa pb j x))) ib)) := ⟨_, rfl⟩
      rw [← hwA] at hS1 hT fxT
      have hth2 : wA.there g (ib * 13) (encEs (((fun x => d (St.sr pa pb j x))) ia)).toArray.size := by simpa [encEs_len] using SD.there hS1 hlib
      obtain ⟨wB, hwB⟩ : ∃ wB, wB = wA.setCells g (ib * 13) (encEs (((fun x => d (St.sr pa pb j x))) ia)) := ⟨_, rfl⟩
      rw [← hwB] at hT fxT
      replace hwA := hid hwA
      replace hwB := hid hwB
      clear hS1
      go_wp2_with (first | (refine wpList_store_mid rfl 33 (.tmp 36) (.tmp 29) rfl g (ia * 13) (encEs (((fun x => d (St.sr pa pb j x))) ib)).toArray rfl rfl hth1 (hiEv2 _) (all_oneCell_toArray (encEs_one _)) ?_; rw [List.toList_toArray, ← hwA.out]) | (refine wpList_store_mid rfl 33 (.tmp 37) (.tmp 35) rfl g (ib * 13) (encEs (((fun x => d (St.sr pa pb j x))) ia)).toArray rfl rfl hth2 (hiEv2 _) (all_oneCell_toArray (encEs_one _)) ?_; rw [List.toList_toArray, ← hwB.out]) | fail)
      have hE : SD base g n c (fun x => d (St.sr pa pb (j + 1) x)) wB := by rw [← hs.out]; exact hT
      go_roundw
      case rel => exact ⟨j + 1, hlt, by go_num, hE, fx9.trans fxT⟩
      case measure => simp [intOf]; omega
    · have hjl : ¬ (j : Int) < (k : Int) := by omega
      obtain rfl : j = k := by omega
      go_wp2
      go_end0
      exact ⟨rfl, hD, fx⟩
end Go.Proofs.Ytcddllaljgfjbaa
