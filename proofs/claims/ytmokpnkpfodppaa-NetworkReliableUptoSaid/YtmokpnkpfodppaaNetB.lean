
/-
The cuts of a network: a map keyed by pairs: what a look-up yields; whether two replicas are linked.
-/
import Derived.Test.YtmokpnkpfodppaaNetA
namespace Go.Proofs.Ytmokpnkpfodppaa
set_option linter.unusedSimpArgs false
set_option linter.unusedVariables false
open Go.RowKit

theorem guard_get {T : Array Value} {i : Nat} {b : Bool} (h : T[i]?.getD undef = .bool b) : T[i]? = some (.bool b) := by
  cases hT : T[i]? with
  | none => rw [hT] at h; cases h
  | some v => rw [hT] at h; exact congrArg some h
abbrev pairV (x y : Int) : Value := .agg #[.int .i64 x, .int .i64 y]
theorem eqPair (x y x' y' : Int) (w : World) : Sem.run Try.prog (Op.equal 117 (pairV x y) (pairV x' y')) w = .ok (x == x' && y == y') w := by
  have e3 : ∀ a b w, Sem.run Try.prog (Op.equalIn 9999 3 (.int .i64 a) (.int .i64 b)) w = .ok (a == b) w := fun a b w => by
    unfold Op.equalIn
    simp [run_underlying Try.underlying3]
  have p0 : ∀ a b w, Sem.run Try.prog (part 3 #[.int .i64 a, .int .i64 b] 0) w = .ok (.int .i64 a) w := fun a b w => by kernel_rfl
  have p1 : ∀ a b w, Sem.run Try.prog (part 3 #[.int .i64 a, .int .i64 b] 1) w = .ok (.int .i64 b) w := fun a b w => by kernel_rfl
  have s3 : Sem.run Try.prog (sizeOf 3) w = .ok 1 w := by kernel_rfl
  have hr : List.range' 0 2 = [0, 1] := rfl
  unfold Op.equal Op.maxDepth Op.equalIn
  simp [run_underlying Try.underlying117, s3, hr]
  by_cases hx : x = x'
  · by_cases hy : y = y'
    · subst hx hy
      simp [p0, p1, e3]
    · subst hx
      simp [p0, p1, e3, hy]
  · simp [p0, p1, e3, hx]
theorem ckPair (e : Bool) (x y : Int) (w : World) : Sem.run Try.prog (Instr.checkKey e 10000 117 (pairV x y)) w = .ok () w := by
  cases e <;> kernel_rfl
/-- the entries of a map are these cuts -/
def MapOf (es : Array MapEntry) (cuts : List (Int × Int)) : Prop := es.toList.map (fun e => (e.key, e.val)) = cuts.map fun c => (pairV c.1 c.2, .bool true)
def isC (x y : Int) (c : Int × Int) : Bool := x == c.1 && y == c.2
theorem run_find (x y : Int) (w : World) : ∀ (l : List MapEntry) (cuts : List (Int × Int)) (i : Nat), l.map (fun e => (e.key, e.val)) = cuts.map (fun c => (pairV c.1 c.2, .bool true)) →
    Sem.run Try.prog (Instr.findAsking 117 (pairV x y) l i) w = .ok ((cuts.findIdx? (isC x y)).map fun k => (i + k, .bool true)) w
  | [], [], i, _ => by simp [Instr.findAsking]
  | [], _ :: _, _, h => by simp at h
  | _ :: _, [], _, h => by simp at h
  | e :: l, c :: cuts, i, h => by
    simp only [List.map_cons, List.cons.injEq, Prod.mk.injEq] at h
    obtain ⟨⟨hk, hv⟩, hl⟩ := h
    have ih := run_find x y w l cuts (i + 1) hl
    rw [Instr.findAsking, Sem.run_bind, hk, eqPair, List.findIdx?_cons]
    by_cases hc : isC x y c = true
    · have hc' : (x == c.1 && y == c.2) = true := hc
      rw [if_pos hc, hc']
      simp [hv]
    · have hc' : (x == c.1 && y == c.2) = false := by simpa [isC] using hc
      rw [if_neg hc, hc']
      simp only [Result.andThen_ok, Bool.false_eq_true, if_false]
      rw [ih]
      congr 1
      cases cuts.findIdx? (isC x y) with
      | none => rfl
      | some k => simp [Nat.add_assoc, Nat.add_comm 1]
theorem run_findKey (x y : Int) (w : World) (es : Array MapEntry) (cuts : List (Int × Int)) (h : MapOf es cuts) : Sem.run Try.prog (Instr.findKey 117 (pairV x y) es.toList) w = .ok ((cuts.findIdx? (isC x y)).map fun k => (k, .bool true)) w := by
  have h2 := run_find x y w es.toList cuts 0 h
  simp only [Nat.zero_add] at h2
  unfold MapOf at h
  rw [Instr.findKey, Sem.run_bind, run_underlying Try.underlying117, Result.andThen_ok]
  cases hl : es.toList with
  | nil =>
    rw [hl] at h2
    rw [hl] at h
    cases cuts with
    | nil => simp [Instr.findNow]
    | cons c cuts => simp at h
  | cons e l =>
    rw [hl] at h2
    simp only [Instr.findNow, Instr.sameNow]
    exact h2
def hasC (cuts : List (Int × Int)) (x y : Int) : Bool := cuts.any (isC x y)
theorem run_lookup (x y : Int) (w : World) (mb clock : Nat) (es : Array MapEntry) (cuts : List (Int × Int)) (h : MapOf es cuts) (hm : w.heap[mb]? = some (.map es clock)) :
    Sem.run Try.prog (Instr.lookup 93 (.map (some mb)) (pairV x y) false) w = .ok (.bool (hasC cuts x y)) w := by
  have z : Sem.run Try.prog (zeroValue 4) w = .ok (.bool false) w := by kernel_rfl
  have hf := run_findKey x y w es cuts h
  have hg : Sem.run Try.prog (getObj mb) w = .ok (.map es clock) w := by simp [getObj, Sem.run, hm]
  unfold Instr.lookup
  simp only [run_underlying Try.underlying93, hg, ckPair, hf, z, Sem.run_bind, Sem.run_pure, Result.andThen_ok]
  unfold hasC
  rw [← List.findIdx?_isSome]
  cases cuts.findIdx? (isC x y) with
  | none => simp [z]
  | some k => simp
def linkedB (n : Int) (cuts : List (Int × Int)) (a b : Int) : Bool := pairB n a b && !hasC cuts (min a b) (max a b)
set_option maxRecDepth 8000 in
set_option maxHeartbeats 1600000 in
theorem nLinked_any (nb mb clock : Nat) (n fa ta : Int) (es : Array MapEntry) (cuts : List (Int × Int)) (w : World) (hc : w.cell? ⟨nb, 0, none⟩ = some (.int .i64 n)) (hc3 : w.cell? ⟨nb, 3, none⟩ = some (.map (some mb))) (hm : w.heap[mb]? = some (.map es clock)) (hM : MapOf es cuts) :
    Calls Try.prog 26 #[.pointer (some ⟨nb, 0, none⟩), .int .i64 fa, .int .i64 ta] w fun e w' => e = .returned (.bool (linkedB n cuts fa ta)) ∧ Kp w w' := by
  have hmb : mb < w.heap.size := (Array.getElem?_eq_some_iff.1 hm).1
  have HM := hid hM
  clear hM
  generalize hr : linkedB n cuts fa ta = r
  have HR := hid hr
  clear hr
  cases hp : pairB n fa ta with
  | false =>
    have HF : Hid (r = false) := hid (by rw [← HR.out]; simp [linkedB, hp])
    replace hp := hid hp
    go_enter Try.func26, Try.ntmps26
    go_wp2
    refine G2.wp_region_growG Kp [] 15 22 (G2.pvL [G2.eqv (.pointer (some ⟨nb, 0, none⟩)), G2.eqv (.int .i64 fa), G2.eqv (.int .i64 ta), G2.eqv (.bool false), G2.eqv (.bool false), G2.eqv (undef), G2.eqv (undef), G2.eqv (undef), G2.eqv (undef), G2.eqv (undef), G2.eqv (undef), G2.eqv (undef), G2.eqv (undef), G2.eqv (undef), G2.eqv (.bool false)]) (by kernel_rfl) (by kernel_rfl) rfl (fun x => Kp.refl x) (fun _ _ _ h k => h.trans k) (Kp.refl _).drew (fun _ _ _ _ _ h => h) (G2.pvL_keep (G2.stabL_cons (G2.stab_eq _) (G2.stabL_cons (G2.stab_eq _) (G2.stabL_cons (G2.stab_eq _) (G2.stabL_cons (G2.stab_eq _) (G2.stabL_cons (G2.stab_eq _) (G2.stabL_cons (G2.stab_eq _) (G2.stabL_cons (G2.stab_eq _) (G2.stabL_cons (G2.stab_eq _) (G2.stabL_cons (G2.stab_eq _) (G2.stabL_cons (G2.stab_eq _) (G2.stabL_cons (G2.stab_eq _) (G2.stabL_cons (G2.stab_eq _) (G2.stabL_cons (G2.stab_eq _) (G2.stabL_cons (G2.stab_eq _) (G2.stabL_cons (G2.stab_eq _) (G2.stabL_nil))))))))))))))))) ?_ ?_ ?_
    · intro i0 hi0
      have hi' : i0 = 0 ∨ i0 = 1 ∨ i0 = 2 ∨ i0 = 3 ∨ i0 = 4 ∨ i0 = 5 ∨ i0 = 6 ∨ i0 = 7 ∨ i0 = 8 ∨ i0 = 9 ∨ i0 = 10 ∨ i0 = 11 ∨ i0 = 12 ∨ i0 = 13 ∨ i0 = 14 := by omega
      rcases hi' with rfl | rfl | rfl | rfl | rfl | rfl | rfl | rfl | rfl | rfl | rfl | rfl | rfl | rfl | rfl
      · intro a w' hk hF hD K hK
        simp only [List.getElem?_toArray, List.getElem?_cons_zero, List.getElem?_cons_succ, Option.map_some, Option.getD_some]
        have h0 : a.tmps[0]?.getD undef = .pointer (some ⟨nb, 0, none⟩) := hF 0 (by kernel_rfl)
        clear hF hD
        go_simp
        exact hK.out _ _ (Kp.refl _) rfl
      · intro a w' hk hF hD K hK
        simp only [List.getElem?_toArray, List.getElem?_cons_zero, List.getElem?_cons_succ, Option.map_some, Option.getD_some]
        have h1 : a.tmps[1]?.getD undef = .int .i64 fa := hF 1 (by kernel_rfl)
        clear hF hD
        go_simp
        exact hK.out _ _ (Kp.refl _) rfl
      · intro a w' hk hF hD K hK
        simp only [List.getElem?_toArray, List.getElem?_cons_zero, List.getElem?_cons_succ, Option.map_some, Option.getD_some]
        have h2 : a.tmps[2]?.getD undef = .int .i64 ta := hF 2 (by kernel_rfl)
        clear hF hD
        go_simp
        exact hK.out _ _ (Kp.refl _) rfl
      · intro a w' hk hF hD K hK
        simp only [List.getElem?_toArray, List.getElem?_cons_zero, List.getElem?_cons_succ, Option.map_some, Option.getD_some]
        have h7 : a.tmps[7]?.getD undef = .pointer (some ⟨nb, 0, none⟩) := hD 0 (by kernel_rfl)
        have h8 : a.tmps[8]?.getD undef = .int .i64 fa := hD 1 (by kernel_rfl)
        have h9 : a.tmps[9]?.getD undef = .int .i64 ta := hD 2 (by kernel_rfl)
        clear hF hD
        go_simp
        refine (nPair_any nb n fa ta _ (hk.cellS hc)).mono ?_
        rintro e w9 ⟨rfl, rfl⟩
        rw [hp.out]
        exact hK.out _ _ (Kp.refl _) rfl
      · intro a w' hk hF hD K hK
        simp only [List.getElem?_toArray, List.getElem?_cons_zero, List.getElem?_cons_succ, Option.map_some, Option.getD_some]
        have h10 : a.tmps[10]?.getD undef = .bool false := hD 3 (by kernel_rfl)
        clear hF hD
        go_simp
        exact hK.out _ _ (Kp.refl _) rfl
      · intro a w' hk hF hD K hK
        simp only [List.getElem?_toArray, List.getElem?_cons_zero, List.getElem?_cons_succ, Option.map_some, Option.getD_some]
        have h0 : a.tmps[0]?.getD undef = .pointer (some ⟨nb, 0, none⟩) := hF 0 (by kernel_rfl)
        have h11 : a.tmps[11]?.getD undef = .bool false := hD 4 (by kernel_rfl)
        have g11 := guard_get h11
        clear hF hD
        go_simp
        exact hK.out _ _ (Kp.refl _) rfl
      · intro a w' hk hF hD K hK
        simp only [List.getElem?_toArray, List.getElem?_cons_zero, List.getElem?_cons_succ, Option.map_some, Option.getD_some]
        have h12 : a.tmps[12]?.getD undef = undef := hD 5 (by kernel_rfl)
        have h11 : a.tmps[11]?.getD undef = .bool false := hD 4 (by kernel_rfl)
        have g11 := guard_get h11
        clear hF hD
        go_simp
        exact hK.out _ _ (Kp.refl _) rfl
      · intro a w' hk hF hD K hK
        simp only [List.getElem?_toArray, List.getElem?_cons_zero, List.getElem?_cons_succ, Option.map_some, Option.getD_some]
        have h13 : a.tmps[13]?.getD undef = undef := hD 6 (by kernel_rfl)
        have h11 : a.tmps[11]?.getD undef = .bool false := hD 4 (by kernel_rfl)
        have g11 := guard_get h11
        clear hF hD
        go_simp
        exact hK.out _ _ (Kp.refl _) rfl
      · intro a w' hk hF hD K hK
        simp only [List.getElem?_toArray, List.getElem?_cons_zero, List.getElem?_cons_succ, Option.map_some, Option.getD_some]
        have h14 : a.tmps[14]?.getD undef = undef := hD 7 (by kernel_rfl)
        have h11 : a.tmps[11]?.getD undef = .bool false := hD 4 (by kernel_rfl)
        have g11 := guard_get h11
        clear hF hD
        go_simp
        exact hK.out _ _ (Kp.refl _) rfl
      · intro a w' hk hF hD K hK
        simp only [List.getElem?_toArray, List.getElem?_cons_zero, List.getElem?_cons_succ, Option.map_some, Option.getD_some]
        have h1 : a.tmps[1]?.getD undef = .int .i64 fa := hF 1 (by kernel_rfl)
        have h11 : a.tmps[11]?.getD undef = .bool false := hD 4 (by kernel_rfl)
        have g11 := guard_get h11
        clear hF hD
        go_simp
        exact hK.out _ _ (Kp.refl _) rfl
      · intro a w' hk hF hD K hK
        simp only [List.getElem?_toArray, List.getElem?_cons_zero, List.getElem?_cons_succ, Option.map_some, Option.getD_some]
        have h2 : a.tmps[2]?.getD undef = .int .i64 ta := hF 2 (by kernel_rfl)
        have h11 : a.tmps[11]?.getD undef = .bool false := hD 4 (by kernel_rfl)
        have g11 := guard_get h11
        clear hF hD
        go_simp
        exact hK.out _ _ (Kp.refl _) rfl
      · intro a w' hk hF hD K hK
        simp only [List.getElem?_toArray, List.getElem?_cons_zero, List.getElem?_cons_succ, Option.map_some, Option.getD_some]
        have h16 : a.tmps[16]?.getD undef = undef := hD 9 (by kernel_rfl)
        have h17 : a.tmps[17]?.getD undef = undef := hD 10 (by kernel_rfl)
        have h11 : a.tmps[11]?.getD undef = .bool false := hD 4 (by kernel_rfl)
        have g11 := guard_get h11
        clear hF hD
        go_simp
        exact hK.out _ _ (Kp.refl _) rfl
      · intro a w' hk hF hD K hK
        simp only [List.getElem?_toArray, List.getElem?_cons_zero, List.getElem?_cons_succ, Option.map_some, Option.getD_some]
        have h15 : a.tmps[15]?.getD undef = undef := hD 8 (by kernel_rfl)
        have h18 : a.tmps[18]?.getD undef = undef := hD 11 (by kernel_rfl)
        have h11 : a.tmps[11]?.getD undef = .bool false := hD 4 (by kernel_rfl)
        have g11 := guard_get h11
        clear hF hD
        go_simp
        exact hK.out _ _ (Kp.refl _) rfl
      · intro a w' hk hF hD K hK
        simp only [List.getElem?_toArray, List.getElem?_cons_zero, List.getElem?_cons_succ, Option.map_some, Option.getD_some]
        have h19 : a.tmps[19]?.getD undef = undef := hD 12 (by kernel_rfl)
        have h11 : a.tmps[11]?.getD undef = .bool false := hD 4 (by kernel_rfl)
        have g11 := guard_get h11
        clear hF hD
        go_simp
        exact hK.out _ _ (Kp.refl _) rfl
      · intro a w' hk hF hD K hK
        simp only [List.getElem?_toArray, List.getElem?_cons_zero, List.getElem?_cons_succ, Option.map_some, Option.getD_some]
        have h11 : a.tmps[11]?.getD undef = .bool false := hD 4 (by kernel_rfl)
        have h20 : a.tmps[20]?.getD undef = undef := hD 13 (by kernel_rfl)
        clear hF hD
        go_simp
        exact hK.out _ _ (Kp.refl _) rfl
    · exact fun i0 hi0 => by simp at hi0
    intro v w9 k9 hv
    have v14 : v 14 = .bool false := hv 14 (by omega)
    clear hv
    simp only [G2.growPut, G2.gSlot, List.getElem?_toArray, List.getElem?_cons_zero, List.getElem?_cons_succ, Option.bind_some, List.setIfInBounds_toArray, List.set_cons_zero, List.set_cons_succ, List.drop_succ_cons, List.drop_zero, v14]
    go_wp2
    go_ret
    exact ⟨by rw [HF.out]; rfl, k9⟩
  | true =>
    have HF : Hid (r = !hasC cuts (min fa ta) (max fa ta)) := hid (by rw [← HR.out]; simp [linkedB, hp])
    replace hp := hid hp
    go_enter Try.func26, Try.ntmps26
    go_wp2
    refine G2.wp_region_growG Kp [] 15 22 (G2.pvL [G2.eqv (.pointer (some ⟨nb, 0, none⟩)), G2.eqv (.int .i64 fa), G2.eqv (.int .i64 ta), G2.eqv (.bool true), G2.eqv (.bool true), G2.eqv (.pointer (some ⟨nb, 0, none⟩)), G2.eqv (.pointer (some ⟨nb, 0, none⟩)), G2.eqv (.pointer (some ⟨nb, 3, none⟩)), G2.eqv (.map (some mb)), G2.eqv (.int .i64 fa), G2.eqv (.int .i64 ta), G2.eqv (pairV (min fa ta) (max fa ta)), G2.eqv (.bool (hasC cuts (min fa ta) (max fa ta))), G2.eqv (.bool (!hasC cuts (min fa ta) (max fa ta))), G2.eqv (.bool (!hasC cuts (min fa ta) (max fa ta)))]) (by kernel_rfl) (by kernel_rfl) rfl (fun x => Kp.refl x) (fun _ _ _ h k => h.trans k) (Kp.refl _).drew (fun _ _ _ _ _ h => h) (G2.pvL_keep (G2.stabL_cons (G2.stab_eq _) (G2.stabL_cons (G2.stab_eq _) (G2.stabL_cons (G2.stab_eq _) (G2.stabL_cons (G2.stab_eq _) (G2.stabL_cons (G2.stab_eq _) (G2.stabL_cons (G2.stab_eq _) (G2.stabL_cons (G2.stab_eq _) (G2.stabL_cons (G2.stab_eq _) (G2.stabL_cons (G2.stab_eq _) (G2.stabL_cons (G2.stab_eq _) (G2.stabL_cons (G2.stab_eq _) (G2.stabL_cons (G2.stab_eq _) (G2.stabL_cons (G2.stab_eq _) (G2.stabL_cons (G2.stab_eq _) (G2.stabL_cons (G2.stab_eq _) (G2.stabL_nil))))))))))))))))) ?_ ?_ ?_
    · intro i0 hi0
      have hi' : i0 = 0 ∨ i0 = 1 ∨ i0 = 2 ∨ i0 = 3 ∨ i0 = 4 ∨ i0 = 5 ∨ i0 = 6 ∨ i0 = 7 ∨ i0 = 8 ∨ i0 = 9 ∨ i0 = 10 ∨ i0 = 11 ∨ i0 = 12 ∨ i0 = 13 ∨ i0 = 14 := by omega
      rcases hi' with rfl | rfl | rfl | rfl | rfl | rfl | rfl | rfl | rfl | rfl | rfl | rfl | rfl | rfl | rfl
      · intro a w' hk hF hD K hK
        simp only [List.getElem?_toArray, List.getElem?_cons_zero, List.getElem?_cons_succ, Option.map_some, Option.getD_some]
        have h0 : a.tmps[0]?.getD undef = .pointer (some ⟨nb, 0, none⟩) := hF 0 (by kernel_rfl)
        clear hF hD
        go_simp
        exact hK.out _ _ (Kp.refl _) rfl
      · intro a w' hk hF hD K hK
        simp only [List.getElem?_toArray, List.getElem?_cons_zero, List.getElem?_cons_succ, Option.map_some, Option.getD_some]
        have h1 : a.tmps[1]?.getD undef = .int .i64 fa := hF 1 (by kernel_rfl)
        clear hF hD
        go_simp
        exact hK.out _ _ (Kp.refl _) rfl
      · intro a w' hk hF hD K hK
        simp only [List.getElem?_toArray, List.getElem?_cons_zero, List.getElem?_cons_succ, Option.map_some, Option.getD_some]
        have h2 : a.tmps[2]?.getD undef = .int .i64 ta := hF 2 (by kernel_rfl)
        clear hF hD
        go_simp
        exact hK.out _ _ (Kp.refl _) rfl
      · intro a w' hk hF hD K hK
        simp only [List.getElem?_toArray, List.getElem?_cons_zero, List.getElem?_cons_succ, Option.map_some, Option.getD_some]
        have h7 : a.tmps[7]?.getD undef = .pointer (some ⟨nb, 0, none⟩) := hD 0 (by kernel_rfl)
        have h8 : a.tmps[8]?.getD undef = .int .i64 fa := hD 1 (by kernel_rfl)
        have h9 : a.tmps[9]?.getD undef = .int .i64 ta := hD 2 (by kernel_rfl)
        clear hF hD
        go_simp
        refine (nPair_any nb n fa ta _ (hk.cellS hc)).mono ?_
        rintro e w9 ⟨rfl, rfl⟩
        rw [hp.out]
        exact hK.out _ _ (Kp.refl _) rfl
      · intro a w' hk hF hD K hK
        simp only [List.getElem?_toArray, List.getElem?_cons_zero, List.getElem?_cons_succ, Option.map_some, Option.getD_some]
        have h10 : a.tmps[10]?.getD undef = .bool true := hD 3 (by kernel_rfl)
        clear hF hD
        go_simp
        exact hK.out _ _ (Kp.refl _) rfl
      · intro a w' hk hF hD K hK
        simp only [List.getElem?_toArray, List.getElem?_cons_zero, List.getElem?_cons_succ, Option.map_some, Option.getD_some]
        have h0 : a.tmps[0]?.getD undef = .pointer (some ⟨nb, 0, none⟩) := hF 0 (by kernel_rfl)
        have h11 : a.tmps[11]?.getD undef = .bool true := hD 4 (by kernel_rfl)
        have g11 := guard_get h11
        clear hF hD
        go_simp
        exact hK.out _ _ (Kp.refl _) rfl
      · intro a w' hk hF hD K hK
        simp only [List.getElem?_toArray, List.getElem?_cons_zero, List.getElem?_cons_succ, Option.map_some, Option.getD_some]
        have h12 : a.tmps[12]?.getD undef = .pointer (some ⟨nb, 0, none⟩) := hD 5 (by kernel_rfl)
        have h11 : a.tmps[11]?.getD undef = .bool true := hD 4 (by kernel_rfl)
        have g11 := guard_get h11
        clear hF hD
        go_simp
        exact hK.out _ _ (Kp.refl _) rfl
      · intro a w' hk hF hD K hK
        simp only [List.getElem?_toArray, List.getElem?_cons_zero, List.getElem?_cons_succ, Option.map_some, Option.getD_some]
        have h13 : a.tmps[13]?.getD undef = .pointer (some ⟨nb, 0, none⟩) := hD 6 (by kernel_rfl)
        have h11 : a.tmps[11]?.getD undef = .bool true := hD 4 (by kernel_rfl)
        have g11 := guard_get h11
        clear hF hD
        go_simp
        exact hK.out _ _ (Kp.refl _) rfl
      · intro a w' hk hF hD K hK
        simp only [List.getElem?_toArray, List.getElem?_cons_zero, List.getElem?_cons_succ, Option.map_some, Option.getD_some]
        have h14 : a.tmps[14]?.getD undef = .pointer (some ⟨nb, 3, none⟩) := hD 7 (by kernel_rfl)
        have h11 : a.tmps[11]?.getD undef = .bool true := hD 4 (by kernel_rfl)
        have g11 := guard_get h11
        clear hF hD
        have z1 := hk.cellS hc3
        go_simp
        exact hK.out _ _ (Kp.refl _) rfl
      · intro a w' hk hF hD K hK
        simp only [List.getElem?_toArray, List.getElem?_cons_zero, List.getElem?_cons_succ, Option.map_some, Option.getD_some]
        have h1 : a.tmps[1]?.getD undef = .int .i64 fa := hF 1 (by kernel_rfl)
        have h11 : a.tmps[11]?.getD undef = .bool true := hD 4 (by kernel_rfl)
        have g11 := guard_get h11
        clear hF hD
        go_simp
        exact hK.out _ _ (Kp.refl _) rfl
      · intro a w' hk hF hD K hK
        simp only [List.getElem?_toArray, List.getElem?_cons_zero, List.getElem?_cons_succ, Option.map_some, Option.getD_some]
        have h2 : a.tmps[2]?.getD undef = .int .i64 ta := hF 2 (by kernel_rfl)
        have h11 : a.tmps[11]?.getD undef = .bool true := hD 4 (by kernel_rfl)
        have g11 := guard_get h11
        clear hF hD
        go_simp
        exact hK.out _ _ (Kp.refl _) rfl
      · intro a w' hk hF hD K hK
        simp only [List.getElem?_toArray, List.getElem?_cons_zero, List.getElem?_cons_succ, Option.map_some, Option.getD_some]
        have h16 : a.tmps[16]?.getD undef = .int .i64 fa := hD 9 (by kernel_rfl)
        have h17 : a.tmps[17]?.getD undef = .int .i64 ta := hD 10 (by kernel_rfl)
        have h11 : a.tmps[11]?.getD undef = .bool true := hD 4 (by kernel_rfl)
        have g11 := guard_get h11
        clear hF hD
        go_simp
        refine (nLink_any fa ta _).mono ?_
        rintro e w9 ⟨rfl, hk9⟩
        exact hK.out _ _ hk9 rfl
      · intro a w' hk hF hD K hK
        simp only [List.getElem?_toArray, List.getElem?_cons_zero, List.getElem?_cons_succ, Option.map_some, Option.getD_some]
        have h15 : a.tmps[15]?.getD undef = .map (some mb) := hD 8 (by kernel_rfl)
        have h18 : a.tmps[18]?.getD undef = pairV (min fa ta) (max fa ta) := hD 11 (by kernel_rfl)
        have h11 : a.tmps[11]?.getD undef = .bool true := hD 4 (by kernel_rfl)
        have g11 := guard_get h11
        clear hF hD
        have z1 := run_lookup (min fa ta) (max fa ta) w' mb clock es cuts HM.out ((hk.block hmb).trans hm)
        go_simp
        exact hK.out _ _ (Kp.refl _) rfl
      · intro a w' hk hF hD K hK
        simp only [List.getElem?_toArray, List.getElem?_cons_zero, List.getElem?_cons_succ, Option.map_some, Option.getD_some]
        have h19 : a.tmps[19]?.getD undef = .bool (hasC cuts (min fa ta) (max fa ta)) := hD 12 (by kernel_rfl)
        have h11 : a.tmps[11]?.getD undef = .bool true := hD 4 (by kernel_rfl)
        have g11 := guard_get h11
        clear hF hD
        go_simp
        exact hK.out _ _ (Kp.refl _) rfl
      · intro a w' hk hF hD K hK
        simp only [List.getElem?_toArray, List.getElem?_cons_zero, List.getElem?_cons_succ, Option.map_some, Option.getD_some]
        have h11 : a.tmps[11]?.getD undef = .bool true := hD 4 (by kernel_rfl)
        have h20 : a.tmps[20]?.getD undef = .bool (!hasC cuts (min fa ta) (max fa ta)) := hD 13 (by kernel_rfl)
        clear hF hD
        go_simp
        exact hK.out _ _ (Kp.refl _) rfl
    · exact fun i0 hi0 => by simp at hi0
    intro v w9 k9 hv
    have v14 : v 14 = .bool (!hasC cuts (min fa ta) (max fa ta)) := hv 14 (by omega)
    clear hv
    simp only [G2.growPut, G2.gSlot, List.getElem?_toArray, List.getElem?_cons_zero, List.getElem?_cons_succ, Option.bind_some, List.setIfInBounds_toArray, List.set_cons_zero, List.set_cons_succ, List.drop_succ_cons, List.drop_zero, v14]
    go_wp2
    go_ret
    exact ⟨by rw [HF.out]; rfl, k9⟩
end Go.Proofs.Ytmokpnkpfodppaa
