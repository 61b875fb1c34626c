
/-
The queue of copies in flight: its methods' walks.
-/
import Derived.Test.YtmokpnkpfodppaaGN
import Derived.Test.YtmokpnkpfodppaaCodD4
namespace Go.Proofs.Ytmokpnkpfodppaa
set_option linter.unusedSimpArgs false
set_option linter.unusedVariables false
open Go.RowKit

/-! what is missing of the boxes' words -/
theorem Bx.grown {w w' : World} {b : Nat} {cs : List Value} {row : Option Nat} (h : Bx w b cs) (hg : w.grownBy w' row) (hr : row ≠ some b) (hb : b < w.heap.size) : Bx w' b cs := h.keep (hg.block b hb (fun e => hr e.symm))
theorem Bx.kg {w w' : World} {b g : Nat} {cs : List Value} (h : Bx w b cs) (hk : Kg w w' g) (hb : b < w.heap.size) (hg : b ≠ g) : Bx w' b cs := h.keep (hk.block b hb (by simpa using hg))
theorem Bx.kp {w w' : World} {b : Nat} {cs : List Value} (h : Bx w b cs) (hk : Kp w w') (hb : b < w.heap.size) : Bx w' b cs := h.keep (hk.block hb)
theorem Kg.grown {a w w' : World} {g : Nat} {row : Option Nat} (h : Kg a w g) (hg : w.grownBy w' row) (hr : ∀ k, row = some k → a.heap.size ≤ k) : Kg a w' g :=
  ⟨hg.os.trans h.os, hg.tape.trans h.tape, hg.output.trans h.output, Nat.le_trans h.size hg.size, fun k hk hne => (hg.block k (Nat.lt_of_lt_of_le hk h.size) (fun e => by have := hr k e.symm; omega)).trans (h.block k hk hne)⟩
theorem Kp.gb {w w' : World} (h : Kp w w') (row : Option Nat) : w.grownBy w' row := ⟨h.os, h.tape, h.output, h.size, fun _ hk _ => h.block hk⟩

theorem Sl.caps {α : Type} {R : Rd α} {size : Nat} {w : World} {A : Option Addr} {n c : Nat} {l : List α} (h : Sl R size w (.slice A n c) l) : l.length ≤ c ∧ c ≤ 9223372036854775807 := by
  obtain ⟨A', c', he, h1, h2, -⟩ := h
  injection he with e1 e2 e3
  subst e3
  exact ⟨h1, h2⟩

/-! comparisons -/
theorem isNaN_any (x : Int) (w : World) : Calls Try.prog 122 #[.int .i64 x] w fun e w' => e = .returned (.bool false) ∧ Kp w w' := by
  go_enter Try.func122, Try.ntmps122
  go_wp2
  go_ret
  exact ⟨by simp, Kp.refl _⟩
def cmpI (x y : Int) : Int := if x < y then -1 else if y < x then 1 else 0
set_option maxHeartbeats 400000 in
theorem cmpCompare_any (x y : Int) (w : World) : Calls Try.prog 121 #[.int .i64 x, .int .i64 y] w fun e w' => e = .returned (.int .i64 (cmpI x y)) ∧ Kp w w' := by
  go_enter Try.func121, Try.ntmps121
  go_wp2_with fail
  refine (isNaN_any x _).mono ?_
  rintro e w1 ⟨rfl, hk1⟩
  have hbel1 := ((Kp.refl _)).trans hk1
  go_wp2_with fail
  refine (isNaN_any y _).mono ?_
  rintro e w2 ⟨rfl, hk2⟩
  have hbel2 := (hbel1).trans hk2
  by_cases h1 : x < y
  · have HF : Hid (cmpI x y = -1) := hid (by unfold cmpI; rw [if_pos h1])
    go_wp2
    go_ret
    exact ⟨ret_int HF.out.symm, hbel2⟩
  · by_cases h2 : y < x
    · have HF : Hid (cmpI x y = 1) := hid (by unfold cmpI; rw [if_neg h1, if_pos h2])
      go_wp2
      go_ret
      exact ⟨ret_int HF.out.symm, hbel2⟩
    · have HF : Hid (cmpI x y = 0) := hid (by unfold cmpI; rw [if_neg h1, if_neg h2])
      go_wp2
      go_ret
      exact ⟨ret_int HF.out.symm, hbel2⟩
def orL : List Int → Int
  | [] => 0
  | x :: l => if x ≠ 0 then x else orL l
set_option maxHeartbeats 800000 in
theorem cmpOr_any (va : Value) (xs : List Int) (w : World) (ha : Ints w va xs) : Calls Try.prog 120 #[va] w fun e w' => e = .returned (.int .i64 (orL xs)) ∧ Kp w w' := by
  obtain ⟨A, c, rfl, hc, hm⟩ := ha.form
  go_enter Try.func120, Try.ntmps120
  go_wp2
  go_loopw [8] (fun i wr => ∃ k : Nat, k ≤ xs.length ∧ i = .int .i64 k ∧ Hid (orL xs = orL (xs.drop k)) ∧ Kp w wr) (fun i _ => xs.length - (intOf i).toNat)
  case atStart => exact ⟨0, Nat.zero_le _, rfl, hid rfl, Kp.refl _⟩
  case round =>
    obtain ⟨k, hk, rfl, HB, hbel⟩ := hrel
    by_cases hlt : k < xs.length
    · obtain ⟨g, o, rfl, hg, y1'⟩ := ha.ints hlt
      have y1 := hbel.cellS y1'
      have HD := hid (List.drop_eq_getElem_cons hlt)
      clear y1' ha
      generalize xs[k] = x at *
      by_cases hz : x = 0
      · subst hz
        have HF : Hid (orL xs = orL (xs.drop (k + 1))) := hid (by rw [HB.out, HD.out, orL, if_neg (by simp)])
        go_wp2
        go_roundw
        case rel => exact ⟨k + 1, by omega, by go_num, HF, hbel⟩
        case measure => simp [intOf]; omega
      · have HF : Hid (orL xs = x) := hid (by rw [HB.out, HD.out, orL, if_pos hz])
        have e1 : (x != 0) = true := by simpa using hz
        have e2 : (x == 0) = false := by simpa using hz
        clear hz
        go_wp2
        go_ret
        exact ⟨ret_int HF.out.symm, hbel⟩
    · have HF : Hid (orL xs = 0) := hid (by rw [HB.out, List.drop_of_length_le (by omega)]; rfl)
      go_wp2
      go_ret
      exact ⟨ret_int HF.out.symm, hbel⟩

/-! copies in flight -/
structure Par where
  due : Int
  num : Int
  frm : Int
  dst : Int
  data : List UInt8
instance : Inhabited Par := ⟨⟨0, 0, 0, 0, []⟩⟩
def encPar (p : Par) : List Value := [.int .i64 p.due, .int .i64 p.num, .int .i64 p.frm, .int .i64 p.dst, strV p.data]
theorem encPar_len (p : Par) : (encPar p).length = 5 := rfl
theorem encPar_one (p : Par) : ∀ u ∈ encPar p, u.oneCell' = true := by simp [encPar, Value.oneCell', strV]
abbrev Pars := Sl (Pl encPar) 5
theorem stParM : SliceT Try.prog 95 105 5 48 := SliceT.mk' Try.underlying95 (z := .agg #[.int .i64 0, .int .i64 0, .int .i64 0, .int .i64 0, .string ⟨#[]⟩]) (by kernel_rfl) rfl (by omega)
theorem Sl.par {w : World} {A : Option Addr} {n c : Nat} {l : List Par} (h : Pars w (.slice A n c) l) {k : Nat} (hk : k < l.length) :
    ∃ b o, A = some ⟨b, o, none⟩ ∧ b < w.heap.size ∧ w.cell? ⟨b, o + k * 5, none⟩ = some (.int .i64 l[k].due) ∧ w.cell? ⟨b, o + k * 5 + 1, none⟩ = some (.int .i64 l[k].num) ∧ w.cell? ⟨b, o + k * 5 + 2, none⟩ = some (.int .i64 l[k].frm) ∧ w.cell? ⟨b, o + k * 5 + 3, none⟩ = some (.int .i64 l[k].dst) ∧ w.cell? ⟨b, o + k * 5 + 4, none⟩ = some (strV l[k].data) := by
  obtain ⟨b, o, cs, hA, hb, hcs, hc, hr⟩ := h.at_ hk
  unfold Pl encPar at hr
  subst hr
  exact ⟨b, o, hA, hb, hc 0 _ rfl, hc 1 _ rfl, hc 2 _ rfl, hc 3 _ rfl, hc 4 _ rfl⟩
/-- which one comes first -/
def ltP (p q : Par) : Bool := decide (p.due < q.due ∨ p.due = q.due ∧ p.num < q.num)
theorem ltP_or (p q : Par) : decide (orL [cmpI p.due q.due, cmpI p.num q.num] < 0) = ltP p q := by
  unfold ltP orL orL orL cmpI
  by_cases h1 : p.due < q.due
  · simp [h1]
  · by_cases h2 : q.due < p.due
    · have : ¬ p.due = q.due := by omega
      simp [h1, h2, this]
    · have : p.due = q.due := by omega
      by_cases h3 : p.num < q.num
      · simp [this, h3]
      · by_cases h4 : q.num < p.num <;> simp [this, h3, h4]
set_option maxHeartbeats 400000 in
theorem qLen_any (A : Option Addr) (n c : Nat) (w : World) : Calls Try.prog 117 #[.slice A n c] w fun e w' => e = .returned (.int .i64 n) ∧ w' = w := by
  go_enter Try.func117, Try.ntmps117
  go_wp2
  go_ret
  exact ⟨rfl, rfl⟩
set_option maxRecDepth 8000 in
set_option maxHeartbeats 1600000 in
theorem qLess_any (v : Value) (l : List Par) (i j : Nat) (w : World) (h : Pars w v l) (hi : i < l.length) (hj : j < l.length) :
    Calls Try.prog 118 #[v, .int .i64 (i : Int), .int .i64 (j : Int)] w fun e w' => e = .returned (.bool (ltP l[i] l[j])) ∧ Kp w w' := by
  obtain ⟨A, c, rfl, hc, hm⟩ := h.form
  obtain ⟨b, o, rfl, hb, i0, i1, -, -, -⟩ := h.par hi
  obtain ⟨b', o', he, -, j0, j1, -, -, -⟩ := h.par hj
  injection he with he
  injection he with e1 e2
  subst e1 e2
  have HF := hid (ltP_or l[i] l[j])
  generalize ltP l[i] l[j] = r at *
  generalize l[i].due = a0 at *
  generalize l[i].num = a1 at *
  generalize l[j].due = b0 at *
  generalize l[j].num = b1 at *
  have q1 : (i : Int) < l.length := by omega
  have q2 : (j : Int) < l.length := by omega
  go_enter Try.func118, Try.ntmps118
  go_wp2
  refine G2.wp_region_growG Kp [] 25 32 (G2.pvL [G2.eqv (.slice (some ⟨b, o, none⟩) l.length c), G2.eqv (.int .i64 (i : Int)), G2.eqv (.pointer (some ⟨b, o + i * 5, none⟩)), G2.eqv (.pointer (some ⟨b, o + i * 5, none⟩)), G2.eqv (.int .i64 a0), G2.eqv (.slice (some ⟨b, o, none⟩) l.length c), G2.eqv (.int .i64 (j : Int)), G2.eqv (.pointer (some ⟨b, o + j * 5, none⟩)), G2.eqv (.pointer (some ⟨b, o + j * 5, none⟩)), G2.eqv (.int .i64 b0), G2.eqv (.int .i64 (cmpI a0 b0)), G2.eqv (.slice (some ⟨b, o, none⟩) l.length c), G2.eqv (.int .i64 (i : Int)), G2.eqv (.pointer (some ⟨b, o + i * 5, none⟩)), G2.eqv (.pointer (some ⟨b, o + i * 5 + 1, none⟩)), G2.eqv (.int .i64 a1), G2.eqv (.slice (some ⟨b, o, none⟩) l.length c), G2.eqv (.int .i64 (j : Int)), G2.eqv (.pointer (some ⟨b, o + j * 5, none⟩)), G2.eqv (.pointer (some ⟨b, o + j * 5 + 1, none⟩)), G2.eqv (.int .i64 b1), G2.eqv (.int .i64 (cmpI a1 b1)), (G2.newSl encInt 1 [cmpI a0 b0, cmpI a1 b1]), G2.eqv (.int .i64 (orL [cmpI a0 b0, cmpI a1 b1])), G2.eqv (.bool r)]) (by kernel_rfl) (by kernel_rfl) rfl (fun x => Kp.refl x) (fun _ _ _ h k => h.trans k) (Kp.refl _).drew (fun _ _ _ _ _ h => h) (G2.pvL_keep (G2.stabL_cons (G2.stab_eq _) (G2.stabL_cons (G2.stab_eq _) (G2.stabL_cons (G2.stab_eq _) (G2.stabL_cons (G2.stab_eq _) (G2.stabL_cons (G2.stab_eq _) (G2.stabL_cons (G2.stab_eq _) (G2.stabL_cons (G2.stab_eq _) (G2.stabL_cons (G2.stab_eq _) (G2.stabL_cons (G2.stab_eq _) (G2.stabL_cons (G2.stab_eq _) (G2.stabL_cons (G2.stab_eq _) (G2.stabL_cons (G2.stab_eq _) (G2.stabL_cons (G2.stab_eq _) (G2.stabL_cons (G2.stab_eq _) (G2.stabL_cons (G2.stab_eq _) (G2.stabL_cons (G2.stab_eq _) (G2.stabL_cons (G2.stab_eq _) (G2.stabL_cons (G2.stab_eq _) (G2.stabL_cons (G2.stab_eq _) (G2.stabL_cons (G2.stab_eq _) (G2.stabL_cons (G2.stab_eq _) (G2.stabL_cons (G2.stab_eq _) (G2.stabL_cons (G2.stab_newSl _ _ _) (G2.stabL_cons (G2.stab_eq _) (G2.stabL_cons (G2.stab_eq _) (G2.stabL_nil))))))))))))))))))))))))))) ?_ ?_ ?_
  · intro i0 hi0
    have hi' : i0 = 0 ∨ i0 = 1 ∨ i0 = 2 ∨ i0 = 3 ∨ i0 = 4 ∨ i0 = 5 ∨ i0 = 6 ∨ i0 = 7 ∨ i0 = 8 ∨ i0 = 9 ∨ i0 = 10 ∨ i0 = 11 ∨ i0 = 12 ∨ i0 = 13 ∨ i0 = 14 ∨ i0 = 15 ∨ i0 = 16 ∨ i0 = 17 ∨ i0 = 18 ∨ i0 = 19 ∨ i0 = 20 ∨ i0 = 21 ∨ i0 = 22 ∨ i0 = 23 ∨ i0 = 24 := by omega
    rcases hi' with rfl | rfl | rfl | rfl | rfl | rfl | rfl | rfl | rfl | rfl | rfl | rfl | rfl | rfl | rfl | rfl | rfl | rfl | rfl | rfl | rfl | rfl | rfl | rfl | rfl
    · intro a w' hk hF hD K hK
      simp only [List.getElem?_toArray, List.getElem?_cons_zero, List.getElem?_cons_succ, Option.map_some, Option.getD_some]
      have h0 : a.tmps[0]?.getD undef = .slice (some ⟨b, o, none⟩) l.length c := hF 0 (by kernel_rfl)
      clear hF hD
      go_simp
      exact hK.out _ _ (Kp.refl _) rfl
    · intro a w' hk hF hD K hK
      simp only [List.getElem?_toArray, List.getElem?_cons_zero, List.getElem?_cons_succ, Option.map_some, Option.getD_some]
      have h1 : a.tmps[1]?.getD undef = .int .i64 (i : Int) := hF 1 (by kernel_rfl)
      clear hF hD
      go_simp
      exact hK.out _ _ (Kp.refl _) rfl
    · intro a w' hk hF hD K hK
      simp only [List.getElem?_toArray, List.getElem?_cons_zero, List.getElem?_cons_succ, Option.map_some, Option.getD_some]
      have h7 : a.tmps[7]?.getD undef = .slice (some ⟨b, o, none⟩) l.length c := hD 0 (by kernel_rfl)
      have h8 : a.tmps[8]?.getD undef = .int .i64 (i : Int) := hD 1 (by kernel_rfl)
      clear hF hD
      go_simp
      exact hK.out _ _ (Kp.refl _) rfl
    · intro a w' hk hF hD K hK
      simp only [List.getElem?_toArray, List.getElem?_cons_zero, List.getElem?_cons_succ, Option.map_some, Option.getD_some]
      have h9 : a.tmps[9]?.getD undef = .pointer (some ⟨b, o + i * 5, none⟩) := hD 2 (by kernel_rfl)
      clear hF hD
      go_simp
      exact hK.out _ _ (Kp.refl _) rfl
    · intro a w' hk hF hD K hK
      simp only [List.getElem?_toArray, List.getElem?_cons_zero, List.getElem?_cons_succ, Option.map_some, Option.getD_some]
      have h10 : a.tmps[10]?.getD undef = .pointer (some ⟨b, o + i * 5, none⟩) := hD 3 (by kernel_rfl)
      clear hF hD
      have z1 := hk.cellS i0
      go_simp
      exact hK.out _ _ (Kp.refl _) rfl
    · intro a w' hk hF hD K hK
      simp only [List.getElem?_toArray, List.getElem?_cons_zero, List.getElem?_cons_succ, Option.map_some, Option.getD_some]
      have h0 : a.tmps[0]?.getD undef = .slice (some ⟨b, o, none⟩) l.length c := hF 0 (by kernel_rfl)
      clear hF hD
      go_simp
      exact hK.out _ _ (Kp.refl _) rfl
    · intro a w' hk hF hD K hK
      simp only [List.getElem?_toArray, List.getElem?_cons_zero, List.getElem?_cons_succ, Option.map_some, Option.getD_some]
      have h2 : a.tmps[2]?.getD undef = .int .i64 (j : Int) := hF 2 (by kernel_rfl)
      clear hF hD
      go_simp
      exact hK.out _ _ (Kp.refl _) rfl
    · intro a w' hk hF hD K hK
      simp only [List.getElem?_toArray, List.getElem?_cons_zero, List.getElem?_cons_succ, Option.map_some, Option.getD_some]
      have h12 : a.tmps[12]?.getD undef = .slice (some ⟨b, o, none⟩) l.length c := hD 5 (by kernel_rfl)
      have h13 : a.tmps[13]?.getD undef = .int .i64 (j : Int) := hD 6 (by kernel_rfl)
      clear hF hD
      go_simp
      exact hK.out _ _ (Kp.refl _) rfl
    · intro a w' hk hF hD K hK
      simp only [List.getElem?_toArray, List.getElem?_cons_zero, List.getElem?_cons_succ, Option.map_some, Option.getD_some]
      have h14 : a.tmps[14]?.getD undef = .pointer (some ⟨b, o + j * 5, none⟩) := hD 7 (by kernel_rfl)
      clear hF hD
      go_simp
      exact hK.out _ _ (Kp.refl _) rfl
    · intro a w' hk hF hD K hK
      simp only [List.getElem?_toArray, List.getElem?_cons_zero, List.getElem?_cons_succ, Option.map_some, Option.getD_some]
      have h15 : a.tmps[15]?.getD undef = .pointer (some ⟨b, o + j * 5, none⟩) := hD 8 (by kernel_rfl)
      clear hF hD
      have z1 := hk.cellS j0
      go_simp
      exact hK.out _ _ (Kp.refl _) rfl
    · intro a w' hk hF hD K hK
      simp only [List.getElem?_toArray, List.getElem?_cons_zero, List.getElem?_cons_succ, Option.map_some, Option.getD_some]
      have h11 : a.tmps[11]?.getD undef = .int .i64 a0 := hD 4 (by kernel_rfl)
      have h16 : a.tmps[16]?.getD undef = .int .i64 b0 := hD 9 (by kernel_rfl)
      clear hF hD
      go_simp
      refine (cmpCompare_any a0 b0 _).mono ?_
      rintro e w9 ⟨rfl, hk9⟩
      exact hK.out _ _ hk9 rfl
    · intro a w' hk hF hD K hK
      simp only [List.getElem?_toArray, List.getElem?_cons_zero, List.getElem?_cons_succ, Option.map_some, Option.getD_some]
      have h0 : a.tmps[0]?.getD undef = .slice (some ⟨b, o, none⟩) l.length c := hF 0 (by kernel_rfl)
      clear hF hD
      go_simp
      exact hK.out _ _ (Kp.refl _) rfl
    · intro a w' hk hF hD K hK
      simp only [List.getElem?_toArray, List.getElem?_cons_zero, List.getElem?_cons_succ, Option.map_some, Option.getD_some]
      have h1 : a.tmps[1]?.getD undef = .int .i64 (i : Int) := hF 1 (by kernel_rfl)
      clear hF hD
      go_simp
      exact hK.out _ _ (Kp.refl _) rfl
    · intro a w' hk hF hD K hK
      simp only [List.getElem?_toArray, List.getElem?_cons_zero, List.getElem?_cons_succ, Option.map_some, Option.getD_some]
      have h18 : a.tmps[18]?.getD undef = .slice (some ⟨b, o, none⟩) l.length c := hD 11 (by kernel_rfl)
      have h19 : a.tmps[19]?.getD undef = .int .i64 (i : Int) := hD 12 (by kernel_rfl)
      clear hF hD
      go_simp
      exact hK.out _ _ (Kp.refl _) rfl
    · intro a w' hk hF hD K hK
      simp only [List.getElem?_toArray, List.getElem?_cons_zero, List.getElem?_cons_succ, Option.map_some, Option.getD_some]
      have h20 : a.tmps[20]?.getD undef = .pointer (some ⟨b, o + i * 5, none⟩) := hD 13 (by kernel_rfl)
      clear hF hD
      go_simp
      exact hK.out _ _ (Kp.refl _) rfl
    · intro a w' hk hF hD K hK
      simp only [List.getElem?_toArray, List.getElem?_cons_zero, List.getElem?_cons_succ, Option.map_some, Option.getD_some]
      have h21 : a.tmps[21]?.getD undef = .pointer (some ⟨b, o + i * 5 + 1, none⟩) := hD 14 (by kernel_rfl)
      clear hF hD
      have z1 := hk.cellS i1
      go_simp
      exact hK.out _ _ (Kp.refl _) rfl
    · intro a w' hk hF hD K hK
      simp only [List.getElem?_toArray, List.getElem?_cons_zero, List.getElem?_cons_succ, Option.map_some, Option.getD_some]
      have h0 : a.tmps[0]?.getD undef = .slice (some ⟨b, o, none⟩) l.length c := hF 0 (by kernel_rfl)
      clear hF hD
      go_simp
      exact hK.out _ _ (Kp.refl _) rfl
    · intro a w' hk hF hD K hK
      simp only [List.getElem?_toArray, List.getElem?_cons_zero, List.getElem?_cons_succ, Option.map_some, Option.getD_some]
      have h2 : a.tmps[2]?.getD undef = .int .i64 (j : Int) := hF 2 (by kernel_rfl)
      clear hF hD
      go_simp
      exact hK.out _ _ (Kp.refl _) rfl
    · intro a w' hk hF hD K hK
      simp only [List.getElem?_toArray, List.getElem?_cons_zero, List.getElem?_cons_succ, Option.map_some, Option.getD_some]
      have h23 : a.tmps[23]?.getD undef = .slice (some ⟨b, o, none⟩) l.length c := hD 16 (by kernel_rfl)
      have h24 : a.tmps[24]?.getD undef = .int .i64 (j : Int) := hD 17 (by kernel_rfl)
      clear hF hD
      go_simp
      exact hK.out _ _ (Kp.refl _) rfl
    · intro a w' hk hF hD K hK
      simp only [List.getElem?_toArray, List.getElem?_cons_zero, List.getElem?_cons_succ, Option.map_some, Option.getD_some]
      have h25 : a.tmps[25]?.getD undef = .pointer (some ⟨b, o + j * 5, none⟩) := hD 18 (by kernel_rfl)
      clear hF hD
      go_simp
      exact hK.out _ _ (Kp.refl _) rfl
    · intro a w' hk hF hD K hK
      simp only [List.getElem?_toArray, List.getElem?_cons_zero, List.getElem?_cons_succ, Option.map_some, Option.getD_some]
      have h26 : a.tmps[26]?.getD undef = .pointer (some ⟨b, o + j * 5 + 1, none⟩) := hD 19 (by kernel_rfl)
      clear hF hD
      have z1 := hk.cellS j1
      go_simp
      exact hK.out _ _ (Kp.refl _) rfl
    · intro a w' hk hF hD K hK
      simp only [List.getElem?_toArray, List.getElem?_cons_zero, List.getElem?_cons_succ, Option.map_some, Option.getD_some]
      have h22 : a.tmps[22]?.getD undef = .int .i64 a1 := hD 15 (by kernel_rfl)
      have h27 : a.tmps[27]?.getD undef = .int .i64 b1 := hD 20 (by kernel_rfl)
      clear hF hD
      go_simp
      refine (cmpCompare_any a1 b1 _).mono ?_
      rintro e w9 ⟨rfl, hk9⟩
      exact hK.out _ _ hk9 rfl
    · intro a w' hk hF hD K hK
      simp only [List.getElem?_toArray, List.getElem?_cons_zero, List.getElem?_cons_succ, Option.map_some, Option.getD_some]
      have h17 : a.tmps[17]?.getD undef = .int .i64 (cmpI a0 b0) := hD 10 (by kernel_rfl)
      have h28 : a.tmps[28]?.getD undef = .int .i64 (cmpI a1 b1) := hD 21 (by kernel_rfl)
      clear hF hD
      go_simp
      exact hK.out _ _ ((Kp.refl w').alloc (.cells #[.int .i64 (cmpI a0 b0), .int .i64 (cmpI a1 b1)] 3)) (G2.newSl_lit (enc := encInt) (size := 1) (l := [cmpI a0 b0, cmpI a1 b1]) w' #[.int .i64 (cmpI a0 b0), .int .i64 (cmpI a1 b1)] 3 rfl rfl)
    · intro a w' hk hF hD K hK
      simp only [List.getElem?_toArray, List.getElem?_cons_zero, List.getElem?_cons_succ, Option.map_some, Option.getD_some]
      have h29 : (G2.newSl encInt 1 [cmpI a0 b0, cmpI a1 b1]) (a.tmps[29]?.getD undef) w' := hD 22 (by kernel_rfl)
      clear hF hD
      obtain ⟨p, h29', hp⟩ := h29
      go_simp
      refine (cmpOr_any _ _ _ hp).mono ?_
      rintro e w9 ⟨rfl, hk9⟩
      exact hK.out _ _ hk9 rfl
    · intro a w' hk hF hD K hK
      simp only [List.getElem?_toArray, List.getElem?_cons_zero, List.getElem?_cons_succ, Option.map_some, Option.getD_some]
      have h30 : a.tmps[30]?.getD undef = .int .i64 (orL [cmpI a0 b0, cmpI a1 b1]) := hD 23 (by kernel_rfl)
      clear hF hD
      go_simp
      rw [HF.out]
      exact hK.out _ _ (Kp.refl _) rfl
  · exact fun i0 hi0 => by simp at hi0
  intro v w9 k9 hv
  have v24 : v 24 = .bool r := hv 24 (by omega)
  clear hv
  simp only [G2.growPut, G2.gSlot, List.getElem?_toArray, List.getElem?_cons_zero, List.getElem?_cons_succ, Option.bind_some, List.setIfInBounds_toArray, List.set_cons_zero, List.set_cons_succ, List.drop_succ_cons, List.drop_zero, v24]
  go_wp2
  go_ret
  exact ⟨rfl, k9⟩
end Go.Proofs.Ytmokpnkpfodppaa
