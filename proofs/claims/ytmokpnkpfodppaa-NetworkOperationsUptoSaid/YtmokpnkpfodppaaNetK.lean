
/-
A network's Cut and Heal: what a store into the map of cuts and a deletion do; the walks.
-/
import Derived.Test.YtmokpnkpfodppaaNE
import Derived.Deep.Cut
namespace Go.Proofs.Ytmokpnkpfodppaa
set_option linter.unusedSimpArgs false
set_option linter.unusedVariables false
open Go.RowKit

/-- another object in a block -/
abbrev putO (w : World) (b : Nat) (o : Obj) : World := { w with heap := w.heap.setIfInBounds b o }
theorem putO_kg (w : World) (b : Nat) (o : Obj) : Kg w (putO w b o) b :=
  ⟨rfl, rfl, rfl, by simp [putO], fun i hi hn => by
    have : b ≠ i := fun e => hn (by rw [e])
    simp [putO, Array.getElem?_setIfInBounds, this]⟩
theorem putO_get (w : World) (b : Nat) (o : Obj) (h : b < w.heap.size) : (putO w b o).heap[b]? = some o := by simp [putO, h]
def putC (cuts : List (Int × Int)) (x y : Int) : List (Int × Int) := match cuts.findIdx? (isC x y) with | some _ => cuts | none => cuts ++ [(x, y)]
def delC (cuts : List (Int × Int)) (x y : Int) : List (Int × Int) := match cuts.findIdx? (isC x y) with | some k => cuts.eraseIdx k | none => cuts
theorem sameBits_pair (x y : Int) : Instr.sameBits 10000 (pairV x y) (pairV x y) = true := by
  show Instr.sameBits (9999 + 1) _ _ = true
  simp [Instr.sameBits]
theorem isC_eq {x y : Int} {c : Int × Int} (h : isC x y c = true) : c = (x, y) := by
  simp only [isC, Bool.and_eq_true, beq_iff_eq] at h
  exact Prod.ext h.1.symm h.2.symm
theorem getMap {w : World} {r clock : Nat} {es : Array MapEntry} (hm : w.heap[r]? = some (.map es clock)) : Sem.run Try.prog (getObj r) w = .ok (.map es clock) w := by simp [getObj, Sem.run, hm]
theorem setMap {w : World} {r clock : Nat} {es : Array MapEntry} (o : Obj) (hm : w.heap[r]? = some (.map es clock)) : Sem.run Try.prog (setObj r o) w = .ok () (putO w r o) := by simp [setObj, Sem.run, hm]
theorem map_eraseIdx' {α β : Type} (f : α → β) : ∀ (l : List α) (k : Nat), (l.eraseIdx k).map f = (l.map f).eraseIdx k
  | [], _ => by simp
  | x :: l, 0 => by simp
  | x :: l, k + 1 => by simp [map_eraseIdx' f l k]
theorem run_update (x y : Int) (w : World) (mb clock : Nat) (es : Array MapEntry) (cuts : List (Int × Int)) (h : MapOf es cuts) (hm : w.heap[mb]? = some (.map es clock)) :
    ∃ es' clock', Sem.run Try.prog (Instr.mapUpdate 93 (.map (some mb)) (pairV x y) (.bool true)) w = .ok () (putO w mb (.map es' clock')) ∧ MapOf es' (putC cuts x y) := by
  have hg : Sem.run Try.prog (getObj mb) w = .ok (.map es clock) w := getMap hm
  have hf := run_findKey x y w es cuts h
  unfold putC
  unfold Instr.mapUpdate
  simp only [run_underlying Try.underlying93, hg, ckPair, hf, Sem.run_bind, Sem.run_pure, Result.andThen_ok]
  cases hk : cuts.findIdx? (isC x y) with
  | none =>
    refine ⟨_, _, setMap _ hm, ?_⟩
    unfold MapOf at h ⊢
    simp [h]
  | some k =>
    obtain ⟨hkl, hkc, -⟩ := List.findIdx?_eq_some_iff_getElem.1 hk
    have hc := isC_eq hkc
    have hl : es.toList.length = cuts.length := by have := congrArg List.length h; simpa using this
    have hke : k < es.size := by simpa using (by rw [hl]; exact hkl : k < es.toList.length)
    have he : es[k].key = pairV x y ∧ es[k].val = .bool true := by
      have h1 := congrArg (fun l : List (Value × Value) => l[k]?) h
      simp only [List.getElem?_map] at h1
      rw [List.getElem?_eq_getElem (by rw [hl]; exact hkl), List.getElem?_eq_getElem hkl] at h1
      simp only [Option.map_some, Option.some.injEq, Prod.mk.injEq, Array.getElem_toList] at h1
      rw [hc] at h1
      exact h1
    have hks : ((es[k]?).map (·.key)).getD (pairV x y) = pairV x y := by rw [Array.getElem?_eq_getElem hke]; exact he.1
    refine ⟨es.modify k fun e => { e with key := pairV x y, val := .bool true }, clock, ?_, ?_⟩
    · simp only [Option.map_some]
      rw [hks]
      simp only [Instr.keyThatStays, sameBits_pair, if_true, Sem.run_bind, Sem.run_pure, Result.andThen_ok]
      exact setMap _ hm
    · unfold MapOf at h ⊢
      rw [← h]
      refine List.ext_getElem? fun i => ?_
      simp only [List.getElem?_map, Array.getElem?_toList, Array.getElem?_modify]
      by_cases hi : k = i
      · subst hi
        rw [if_pos rfl, Array.getElem?_eq_getElem hke]
        simp [he.1, he.2]
      · rw [if_neg hi]
theorem run_del (x y : Int) (w : World) (mb clock : Nat) (es : Array MapEntry) (cuts : List (Int × Int)) (ty : TypeId) (h : MapOf es cuts) (hm : w.heap[mb]? = some (.map es clock)) :
    ∃ es', Sem.run Try.prog (Builtin.delete_ #[93, 117] ty #[.map (some mb), pairV x y]) w = .ok (.tuple #[]) (putO w mb (.map es' clock)) ∧ MapOf es' (delC cuts x y) := by
  have hg : Sem.run Try.prog (getObj mb) w = .ok (.map es clock) w := getMap hm
  have hf := run_findKey x y w es cuts h
  unfold delC
  unfold Builtin.delete_
  simp only [List.getElem?_toArray, List.getElem?_cons_zero, List.getElem?_cons_succ, run_underlying Try.underlying93, hg, ckPair, hf, Sem.run_bind, Sem.run_pure, Result.andThen_ok]
  cases hk : cuts.findIdx? (isC x y) with
  | none =>
    refine ⟨es, ?_, h⟩
    simp only [Option.map_none, Sem.run_bind, Sem.run_pure, setMap _ hm, Result.andThen_ok]
  | some k =>
    refine ⟨es.eraseIdxIfInBounds k, ?_, ?_⟩
    · simp only [Option.map_some, Sem.run_bind, Sem.run_pure, setMap _ hm, Result.andThen_ok]
    · unfold MapOf at h ⊢
      have hl : es.toList.length = cuts.length := by have := congrArg List.length h; simpa using this
      have h2 : (es.eraseIdxIfInBounds k).toList = es.toList.eraseIdx k := by
        obtain ⟨hkl, -, -⟩ := List.findIdx?_eq_some_iff_getElem.1 hk
        have hke : k < es.size := by simpa using (by rw [hl]; exact hkl : k < es.toList.length)
        simp [Array.eraseIdxIfInBounds, hke]
      rw [h2, map_eraseIdx', h, map_eraseIdx']
def cutN (N : Net) (a b : Int) : Net × Int := if pairB N.reps a b then ({ N with cuts := putC N.cuts (min a b) (max a b) }, 0) else (N, 1)
def healN (N : Net) (a b : Int) : Net × Int := if pairB N.reps a b then ({ N with cuts := delC N.cuts (min a b) (max a b) }, 0) else (N, 1)
theorem NetW.updM {lo nb mb clock : Nat} {vf sv : Value} {w w' : World} {N : Net} {es : Array MapEntry} {cuts : List (Int × Int)} (h : NetW lo nb mb vf sv w N) (k : Kg w w' mb) (hm : w'.heap[mb]? = some (.map es clock)) (hM : MapOf es cuts) : NetW lo nb mb vf sv w' { N with cuts := cuts } := by
  obtain ⟨Q, h7, h8⟩ := h.fl
  have h2 := h.mlt
  refine ⟨h.box.kg k h.lt (by omega), h.own.owS w' k.size fun i hi hlt => k.block i hlt (fun e => ?_), h.ownb, ⟨es, clock, hm, hM⟩, h.mlo, h.mlt, ⟨Q, h7.kg k (by omega), h8⟩, ⟨h.ok.nums, h.ok.len, h.ok.fv, h.ok.flen, h.ok.tick, h.ok.pos⟩⟩
  injection e with e
  exact (h.ownb i hi).2 e
/-- what Cut and Heal leave -/
def CutE (lo nb mb : Nat) (vf sv : Value) (w : World) (r : Net × Int) (e : Ending) (w' : World) : Prop := e = .returned (.int .i64 r.2) ∧ NetW lo nb mb vf sv w' r.1 ∧ Kg w w' mb
set_option maxRecDepth 8000 in
set_option maxHeartbeats 1600000 in
theorem nCut_any (lo nb mb : Nat) (vf sv : Value) (N : Net) (fa ta : Int) (w : World) (h : NetW lo nb mb vf sv w N) : Calls Try.prog 45 #[.pointer (some ⟨nb, 0, none⟩), .int .i64 fa, .int .i64 ta] w (CutE lo nb mb vf sv w (cutN N fa ta)) := by
  have c0 := h.box.cell (j := 0) rfl
  have c3 := h.box.cell (j := 3) rfl
  obtain ⟨es, clock, hmp, hmo⟩ := h.mp
  have HM := hid hmo
  have hH := hid h
  have hmb := h.mblt
  generalize hR : cutN N fa ta = R
  have HR := hid hR
  clear hR h hmo
  go_enter Try.func45, Try.ntmps45
  go_wp2_with fail
  refine (nPair_any nb _ _ _ _ c0).mono ?_
  rintro e w1 ⟨rfl, rfl⟩
  cases hp : pairB N.reps fa ta with
  | false =>
    obtain rfl : R = (N, 1) := by rw [← HR.out, cutN, if_neg (by rw [hp]; simp)]
    go_wp2
    go_ret
    exact ⟨rfl, hH.out, Kg.refl _ _⟩
  | true =>
    obtain rfl : R = ({ N with cuts := putC N.cuts (min fa ta) (max fa ta) }, 0) := by rw [← HR.out, cutN, if_pos hp]
    clear hp HR
    go_upto_region 3 with (fail)
    refine G2.wp_region_growG Kp [] 7 19 (G2.pvL [G2.eqv (.pointer (some ⟨nb, 0, none⟩)), G2.eqv (.pointer (some ⟨nb, 0, none⟩)), G2.eqv (.pointer (some ⟨nb, 3, none⟩)), G2.eqv (.map (some mb)), G2.eqv (.int .i64 fa), G2.eqv (.int .i64 ta), G2.eqv (pairV (min fa ta) (max fa ta))]) (by kernel_rfl) (by kernel_rfl) rfl (fun x => Kp.refl x) (fun _ _ _ h k => h.trans k) (Kp.refl _).drew (fun _ _ _ _ _ h => h) (G2.pvL_keep (G2.stabL_cons (G2.stab_eq _) (G2.stabL_cons (G2.stab_eq _) (G2.stabL_cons (G2.stab_eq _) (G2.stabL_cons (G2.stab_eq _) (G2.stabL_cons (G2.stab_eq _) (G2.stabL_cons (G2.stab_eq _) (G2.stabL_cons (G2.stab_eq _) (G2.stabL_nil))))))))) ?_ ?_ ?_
    · intro i0 hi0
      have hi' : i0 = 0 ∨ i0 = 1 ∨ i0 = 2 ∨ i0 = 3 ∨ i0 = 4 ∨ i0 = 5 ∨ i0 = 6 := by omega
      rcases hi' with rfl | rfl | rfl | rfl | rfl | rfl | rfl
      · intro a w' hk hF hD K hK
        simp only [List.getElem?_toArray, List.getElem?_cons_zero, List.getElem?_cons_succ, Option.map_some, Option.getD_some]
        have h0 : a.tmps[0]?.getD undef = .pointer (some ⟨nb, 0, none⟩) := hF 0 (by kernel_rfl)
        clear hF hD
        go_simp
        exact hK.out _ _ (Kp.refl _) rfl
      · intro a w' hk hF hD K hK
        simp only [List.getElem?_toArray, List.getElem?_cons_zero, List.getElem?_cons_succ, Option.map_some, Option.getD_some]
        have h12 : a.tmps[12]?.getD undef = .pointer (some ⟨nb, 0, none⟩) := hD 0 (by kernel_rfl)
        clear hF hD
        go_simp
        exact hK.out _ _ (Kp.refl _) rfl
      · intro a w' hk hF hD K hK
        simp only [List.getElem?_toArray, List.getElem?_cons_zero, List.getElem?_cons_succ, Option.map_some, Option.getD_some]
        have h13 : a.tmps[13]?.getD undef = .pointer (some ⟨nb, 0, none⟩) := hD 1 (by kernel_rfl)
        clear hF hD
        go_simp
        exact hK.out _ _ (Kp.refl _) rfl
      · intro a w' hk hF hD K hK
        simp only [List.getElem?_toArray, List.getElem?_cons_zero, List.getElem?_cons_succ, Option.map_some, Option.getD_some]
        have h14 : a.tmps[14]?.getD undef = .pointer (some ⟨nb, 3, none⟩) := hD 2 (by kernel_rfl)
        clear hF hD
        have z1 := hk.cellS c3
        go_simp
        exact hK.out _ _ (Kp.refl _) rfl
      · intro a w' hk hF hD K hK
        simp only [List.getElem?_toArray, List.getElem?_cons_zero, List.getElem?_cons_succ, Option.map_some, Option.getD_some]
        have h1 : a.tmps[1]?.getD undef = .int .i64 fa := hF 1 (by kernel_rfl)
        clear hF hD
        go_simp
        exact hK.out _ _ (Kp.refl _) rfl
      · intro a w' hk hF hD K hK
        simp only [List.getElem?_toArray, List.getElem?_cons_zero, List.getElem?_cons_succ, Option.map_some, Option.getD_some]
        have h2 : a.tmps[2]?.getD undef = .int .i64 ta := hF 2 (by kernel_rfl)
        clear hF hD
        go_simp
        exact hK.out _ _ (Kp.refl _) rfl
      · intro a w' hk hF hD K hK
        simp only [List.getElem?_toArray, List.getElem?_cons_zero, List.getElem?_cons_succ, Option.map_some, Option.getD_some]
        have h16 : a.tmps[16]?.getD undef = .int .i64 fa := hD 4 (by kernel_rfl)
        have h17 : a.tmps[17]?.getD undef = .int .i64 ta := hD 5 (by kernel_rfl)
        clear hF hD
        go_simp
        refine (nLink_any fa ta _).mono ?_
        rintro e w9 ⟨rfl, hk9⟩
        exact hK.out _ _ hk9 rfl
    · exact fun i0 hi0 => by simp at hi0
    intro v w9 k9 hv
    have v3 : v 3 = .map (some mb) := hv 3 (by omega)
    have v6 : v 6 = pairV (min fa ta) (max fa ta) := hv 6 (by omega)
    clear hv
    simp only [G2.growPut, G2.gSlot, List.getElem?_toArray, List.getElem?_cons_zero, List.getElem?_cons_succ, Option.bind_some, List.setIfInBounds_toArray, List.set_cons_zero, List.set_cons_succ, List.drop_succ_cons, List.drop_zero, v3, v6]
    have hm9 := (k9.block hmb).trans hmp
    obtain ⟨es', clock', hu, hM'⟩ := run_update (min fa ta) (max fa ta) w9 mb clock es N.cuts HM.out hm9
    have hmb9 := Nat.lt_of_lt_of_le hmb k9.size
    have hkP := putO_kg w9 mb (.map es' clock')
    have N9 := (hH.out.kp k9).updM hkP (putO_get w9 mb _ hmb9) hM'
    clear hm9 c0 c3 hmp
    go_wp2_with fail
    go_ret
    exact ⟨rfl, N9, (k9.kg mb).trans hkP⟩
set_option maxRecDepth 8000 in
set_option maxHeartbeats 1600000 in
theorem nHeal_any (lo nb mb : Nat) (vf sv : Value) (N : Net) (fa ta : Int) (w : World) (h : NetW lo nb mb vf sv w N) : Calls Try.prog 46 #[.pointer (some ⟨nb, 0, none⟩), .int .i64 fa, .int .i64 ta] w (CutE lo nb mb vf sv w (healN N fa ta)) := by
  have c0 := h.box.cell (j := 0) rfl
  have c3 := h.box.cell (j := 3) rfl
  obtain ⟨es, clock, hmp, hmo⟩ := h.mp
  have HM := hid hmo
  have hH := hid h
  have hmb := h.mblt
  generalize hR : healN N fa ta = R
  have HR := hid hR
  clear hR h hmo
  go_enter Try.func46, Try.ntmps46
  go_wp2_with fail
  refine (nPair_any nb _ _ _ _ c0).mono ?_
  rintro e w1 ⟨rfl, rfl⟩
  cases hp : pairB N.reps fa ta with
  | false =>
    obtain rfl : R = (N, 1) := by rw [← HR.out, healN, if_neg (by rw [hp]; simp)]
    go_wp2
    go_ret
    exact ⟨rfl, hH.out, Kg.refl _ _⟩
  | true =>
    obtain rfl : R = ({ N with cuts := delC N.cuts (min fa ta) (max fa ta) }, 0) := by rw [← HR.out, healN, if_pos hp]
    clear hp HR
    go_upto_region 3 with (fail)
    refine G2.wp_region_growG Kp [] 7 19 (G2.pvL [G2.eqv (.pointer (some ⟨nb, 0, none⟩)), G2.eqv (.pointer (some ⟨nb, 0, none⟩)), G2.eqv (.pointer (some ⟨nb, 3, none⟩)), G2.eqv (.map (some mb)), G2.eqv (.int .i64 fa), G2.eqv (.int .i64 ta), G2.eqv (pairV (min fa ta) (max fa ta))]) (by kernel_rfl) (by kernel_rfl) rfl (fun x => Kp.refl x) (fun _ _ _ h k => h.trans k) (Kp.refl _).drew (fun _ _ _ _ _ h => h) (G2.pvL_keep (G2.stabL_cons (G2.stab_eq _) (G2.stabL_cons (G2.stab_eq _) (G2.stabL_cons (G2.stab_eq _) (G2.stabL_cons (G2.stab_eq _) (G2.stabL_cons (G2.stab_eq _) (G2.stabL_cons (G2.stab_eq _) (G2.stabL_cons (G2.stab_eq _) (G2.stabL_nil))))))))) ?_ ?_ ?_
    · intro i0 hi0
      have hi' : i0 = 0 ∨ i0 = 1 ∨ i0 = 2 ∨ i0 = 3 ∨ i0 = 4 ∨ i0 = 5 ∨ i0 = 6 := by omega
      rcases hi' with rfl | rfl | rfl | rfl | rfl | rfl | rfl
      · intro a w' hk hF hD K hK
        simp only [List.getElem?_toArray, List.getElem?_cons_zero, List.getElem?_cons_succ, Option.map_some, Option.getD_some]
        have h0 : a.tmps[0]?.getD undef = .pointer (some ⟨nb, 0, none⟩) := hF 0 (by kernel_rfl)
        clear hF hD
        go_simp
        exact hK.out _ _ (Kp.refl _) rfl
      · intro a w' hk hF hD K hK
        simp only [List.getElem?_toArray, List.getElem?_cons_zero, List.getElem?_cons_succ, Option.map_some, Option.getD_some]
        have h12 : a.tmps[12]?.getD undef = .pointer (some ⟨nb, 0, none⟩) := hD 0 (by kernel_rfl)
        clear hF hD
        go_simp
        exact hK.out _ _ (Kp.refl _) rfl
      · intro a w' hk hF hD K hK
        simp only [List.getElem?_toArray, List.getElem?_cons_zero, List.getElem?_cons_succ, Option.map_some, Option.getD_some]
        have h13 : a.tmps[13]?.getD undef = .pointer (some ⟨nb, 0, none⟩) := hD 1 (by kernel_rfl)
        clear hF hD
        go_simp
        exact hK.out _ _ (Kp.refl _) rfl
      · intro a w' hk hF hD K hK
        simp only [List.getElem?_toArray, List.getElem?_cons_zero, List.getElem?_cons_succ, Option.map_some, Option.getD_some]
        have h14 : a.tmps[14]?.getD undef = .pointer (some ⟨nb, 3, none⟩) := hD 2 (by kernel_rfl)
        clear hF hD
        have z1 := hk.cellS c3
        go_simp
        exact hK.out _ _ (Kp.refl _) rfl
      · intro a w' hk hF hD K hK
        simp only [List.getElem?_toArray, List.getElem?_cons_zero, List.getElem?_cons_succ, Option.map_some, Option.getD_some]
        have h1 : a.tmps[1]?.getD undef = .int .i64 fa := hF 1 (by kernel_rfl)
        clear hF hD
        go_simp
        exact hK.out _ _ (Kp.refl _) rfl
      · intro a w' hk hF hD K hK
        simp only [List.getElem?_toArray, List.getElem?_cons_zero, List.getElem?_cons_succ, Option.map_some, Option.getD_some]
        have h2 : a.tmps[2]?.getD undef = .int .i64 ta := hF 2 (by kernel_rfl)
        clear hF hD
        go_simp
        exact hK.out _ _ (Kp.refl _) rfl
      · intro a w' hk hF hD K hK
        simp only [List.getElem?_toArray, List.getElem?_cons_zero, List.getElem?_cons_succ, Option.map_some, Option.getD_some]
        have h16 : a.tmps[16]?.getD undef = .int .i64 fa := hD 4 (by kernel_rfl)
        have h17 : a.tmps[17]?.getD undef = .int .i64 ta := hD 5 (by kernel_rfl)
        clear hF hD
        go_simp
        refine (nLink_any fa ta _).mono ?_
        rintro e w9 ⟨rfl, hk9⟩
        exact hK.out _ _ hk9 rfl
    · exact fun i0 hi0 => by simp at hi0
    intro v w9 k9 hv
    have v3 : v 3 = .map (some mb) := hv 3 (by omega)
    have v6 : v 6 = pairV (min fa ta) (max fa ta) := hv 6 (by omega)
    clear hv
    simp only [G2.growPut, G2.gSlot, List.getElem?_toArray, List.getElem?_cons_zero, List.getElem?_cons_succ, Option.bind_some, List.setIfInBounds_toArray, List.set_cons_zero, List.set_cons_succ, List.drop_succ_cons, List.drop_zero, v3, v6]
    have hm9 := (k9.block hmb).trans hmp
    obtain ⟨es', hu, hM'⟩ := run_del (min fa ta) (max fa ta) w9 mb clock es N.cuts 0 HM.out hm9
    have hmb9 := Nat.lt_of_lt_of_le hmb k9.size
    have hkP := putO_kg w9 mb (.map es' clock)
    have N9 := (hH.out.kp k9).updM hkP (putO_get w9 mb _ hmb9) hM'
    clear hm9 c0 c3 hmp
    go_wp2_with fail
    go_ret
    exact ⟨rfl, N9, (k9.kg mb).trans hkP⟩
end Go.Proofs.Ytmokpnkpfodppaa
