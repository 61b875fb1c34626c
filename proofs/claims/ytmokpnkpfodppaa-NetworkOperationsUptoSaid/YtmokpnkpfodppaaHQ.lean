/-
The queue of copies in flight: its methods' walks.
The queue of copies in flight: swapping, and the sift of a heap: the walks.
Heaps of copies in flight: plain facts.
-/
import Derived.Test.YtmokpnkpfodppaaGN
import Derived.Test.YtmokpnkpfodppaaCodD4
import Derived.Deep.MidRow
namespace Go.Proofs.Ytmokpnkpfodppaa
set_option linter.unusedSimpArgs false
set_option linter.unusedVariables false
open Go.RowKit

/-! what is missing of the boxes' words -/
theorem Bx.grown {w w' : World} {b : Nat} {cs : List Value} {row : Option Nat} (h : Bx w b cs) (hg : w.grownBy w' row) (hr : row ≠ some b) (hb : b < w.heap.size) : Bx w' b cs := h.keep (hg.block b hb (fun e => hr e.symm))
theorem Bx.kg {w w' : World} {b g : Nat} {cs : List Value} (h : Bx w b cs) (hk : Kg w w' g) (hb : b < w.heap.size) (hg : b ≠ g) : Bx w' b cs := h.keep (hk.block b hb (by simpa using hg))
theorem Bx.kp {w w' : World} {b : Nat} {cs : List Value} (h : Bx w b cs) (hk : Kp w w') (hb : b < w.heap.size) : Bx w' b cs := h.keep (hk.block hb)
theorem Kg.grown {a w w' : World} {g : Nat} {row : Option Nat} (h : Kg a w g) (hg : w.grownBy w' row) (hr : ∀ k, row = some k → a.heap.size ≤ k) : Kg a w' g :=
  ⟨hg.os.trans h.os, hg.tape.trans h.tape, hg.output.trans h.output, Nat.le_trans h.size hg.size, fun k hk hne => (hg.block k (Nat.lt_of_lt_of_le hk h.size) (fun e => by have := hr k e.symm; omega)).trans (h.block k hk hne)⟩
theorem Kp.gb {w w' : World} (h : Kp w w') (row : Option Nat) : w.grownBy w' row := ⟨h.os, h.tape, h.output, h.size, fun _ hk _ => h.block hk⟩

theorem Sl.caps {α : Type} {R : Rd α} {size : Nat} {w : World} {A : Option Addr} {n c : Nat} {l : List α} (h : Sl R size w (.slice A n c) l) : l.length ≤ c ∧ c ≤ 9223372036854775807 := by
  obtain ⟨A', c', he, h1, h2, -⟩ := h
  injection he with e1 e2 e3
  subst e3
  exact ⟨h1, h2⟩

/-! comparisons -/
theorem isNaN_any (x : Int) (w : World) : Calls Try.prog 122 #[.int .i64 x] w fun e w' => e = .returned (.bool false) ∧ Kp w w' := by
  go_enter Try.func122, Try.ntmps122
  go_wp2
  go_ret
  exact ⟨by simp, Kp.refl _⟩
def cmpI (x y : Int) : Int := if x < y then -1 else if y < x then 1 else 0
set_option maxHeartbeats 400000 in
theorem cmpCompare_any (x y : Int) (w : World) : Calls Try.prog 121 #[.int .i64 x, .int .i64 y] w fun e w' => e = .returned (.int .i64 (cmpI x y)) ∧ Kp w w' := by
  go_enter Try.func121, Try.ntmps121
  go_wp2_with fail
  refine (isNaN_any x _).mono ?_
  rintro e w1 ⟨rfl, hk1⟩
  have hbel1 := ((Kp.refl _)).trans hk1
  go_wp2_with fail
  refine (isNaN_any y _).mono ?_
  rintro e w2 ⟨rfl, hk2⟩
  have hbel2 := (hbel1).trans hk2
  by_cases h1 : x < y
  · have HF : Hid (cmpI x y = -1) := hid (by unfold cmpI; rw [if_pos h1])
    go_wp2
    go_ret
    exact ⟨ret_int HF.out.symm, hbel2⟩
  · by_cases h2 : y < x
    · have HF : Hid (cmpI x y = 1) := hid (by unfold cmpI; rw [if_neg h1, if_pos h2])
      go_wp2
      go_ret
      exact ⟨ret_int HF.out.symm, hbel2⟩
    · have HF : Hid (cmpI x y = 0) := hid (by unfold cmpI; rw [if_neg h1, if_neg h2])
      go_wp2
      go_ret
      exact ⟨ret_int HF.out.symm, hbel2⟩
def orL : List Int → Int
  | [] => 0
  | x :: l => if x ≠ 0 then x else orL l
set_option maxHeartbeats 800000 in
theorem cmpOr_any (va : Value) (xs : List Int) (w : World) (ha : Ints w va xs) : Calls Try.prog 120 #[va] w fun e w' => e = .returned (.int .i64 (orL xs)) ∧ Kp w w' := by
  obtain ⟨A, c, rfl, hc, hm⟩ := ha.form
  go_enter Try.func120, Try.ntmps120
  go_wp2
  go_loopw [8] (fun i wr => ∃ k : Nat, k ≤ xs.length ∧ i = .int .i64 k ∧ Hid (orL xs = orL (xs.drop k)) ∧ Kp w wr) (fun i _ => xs.length - (intOf i).toNat)
  case atStart => exact ⟨0, Nat.zero_le _, rfl, hid rfl, Kp.refl _⟩
  case round =>
    obtain ⟨k, hk, rfl, HB, hbel⟩ := hrel
    by_cases hlt : k < xs.length
    · obtain ⟨g, o, rfl, hg, y1'⟩ := ha.ints hlt
      have y1 := hbel.cellS y1'
      have HD := hid (List.drop_eq_getElem_cons hlt)
      clear y1' ha
      generalize xs[k] = x at *
      by_cases hz : x = 0
      · subst hz
        have HF : Hid (orL xs = orL (xs.drop (k + 1))) := hid (by rw [HB.out, HD.out, orL, if_neg (by simp)])
        go_wp2
        go_roundw
        case rel => exact ⟨k + 1, by omega, by go_num, HF, hbel⟩
        case measure => simp [intOf]; omega
      · have HF : Hid (orL xs = x) := hid (by rw [HB.out, HD.out, orL, if_pos hz])
        have e1 : (x != 0) = true := by simpa using hz
        have e2 : (x == 0) = false := by simpa using hz
        clear hz
        go_wp2
        go_ret
        exact ⟨ret_int HF.out.symm, hbel⟩
    · have HF : Hid (orL xs = 0) := hid (by rw [HB.out, List.drop_of_length_le (by omega)]; rfl)
      go_wp2
      go_ret
      exact ⟨ret_int HF.out.symm, hbel⟩

/-! copies in flight -/
structure Par where
  due : Int
  num : Int
  frm : Int
  dst : Int
  data : List UInt8
instance : Inhabited Par := ⟨⟨0, 0, 0, 0, []⟩⟩
def encPar (p : Par) : List Value := [.int .i64 p.due, .int .i64 p.num, .int .i64 p.frm, .int .i64 p.dst, strV p.data]
theorem encPar_len (p : Par) : (encPar p).length = 5 := rfl
theorem encPar_one (p : Par) : ∀ u ∈ encPar p, u.oneCell' = true := by simp [encPar, Value.oneCell', strV]
abbrev Pars := Sl (Pl encPar) 5
theorem stParM : SliceT Try.prog 95 105 5 48 := SliceT.mk' Try.underlying95 (z := .agg #[.int .i64 0, .int .i64 0, .int .i64 0, .int .i64 0, .string ⟨#[]⟩]) (by kernel_rfl) rfl (by omega)
theorem Sl.par {w : World} {A : Option Addr} {n c : Nat} {l : List Par} (h : Pars w (.slice A n c) l) {k : Nat} (hk : k < l.length) :
    ∃ b o, A = some ⟨b, o, none⟩ ∧ b < w.heap.size ∧ w.cell? ⟨b, o + k * 5, none⟩ = some (.int .i64 l[k].due) ∧ w.cell? ⟨b, o + k * 5 + 1, none⟩ = some (.int .i64 l[k].num) ∧ w.cell? ⟨b, o + k * 5 + 2, none⟩ = some (.int .i64 l[k].frm) ∧ w.cell? ⟨b, o + k * 5 + 3, none⟩ = some (.int .i64 l[k].dst) ∧ w.cell? ⟨b, o + k * 5 + 4, none⟩ = some (strV l[k].data) := by
  obtain ⟨b, o, cs, hA, hb, hcs, hc, hr⟩ := h.at_ hk
  unfold Pl encPar at hr
  subst hr
  exact ⟨b, o, hA, hb, hc 0 _ rfl, hc 1 _ rfl, hc 2 _ rfl, hc 3 _ rfl, hc 4 _ rfl⟩
/-- which one comes first -/
def ltP (p q : Par) : Bool := decide (p.due < q.due ∨ p.due = q.due ∧ p.num < q.num)
theorem ltP_or (p q : Par) : decide (orL [cmpI p.due q.due, cmpI p.num q.num] < 0) = ltP p q := by
  unfold ltP orL orL orL cmpI
  by_cases h1 : p.due < q.due
  · simp [h1]
  · by_cases h2 : q.due < p.due
    · have : ¬ p.due = q.due := by omega
      simp [h1, h2, this]
    · have : p.due = q.due := by omega
      by_cases h3 : p.num < q.num
      · simp [this, h3]
      · by_cases h4 : q.num < p.num <;> simp [this, h3, h4]
set_option maxHeartbeats 400000 in
theorem qLen_any (A : Option Addr) (n c : Nat) (w : World) : Calls Try.prog 117 #[.slice A n c] w fun e w' => e = .returned (.int .i64 n) ∧ w' = w := by
  go_enter Try.func117, Try.ntmps117
  go_wp2
  go_ret
  exact ⟨rfl, rfl⟩
set_option maxRecDepth 8000 in
set_option maxHeartbeats 1600000 in
theorem qLess_any (v : Value) (l : List Par) (i j : Nat) (w : World) (h : Pars w v l) (hi : i < l.length) (hj : j < l.length) :
    Calls Try.prog 118 #[v, .int .i64 (i : Int), .int .i64 (j : Int)] w fun e w' => e = .returned (.bool (ltP l[i] l[j])) ∧ Kp w w' := by
  obtain ⟨A, c, rfl, hc, hm⟩ := h.form
  obtain ⟨b, o, rfl, hb, i0, i1, -, -, -⟩ := h.par hi
  obtain ⟨b', o', he, -, j0, j1, -, -, -⟩ := h.par hj
  injection he with he
  injection he with e1 e2
  subst e1 e2
  have HF := hid (ltP_or l[i] l[j])
  generalize ltP l[i] l[j] = r at *
  generalize l[i].due = a0 at *
  generalize l[i].num = a1 at *
  generalize l[j].due = b0 at *
  generalize l[j].num = b1 at *
  have q1 : (i : Int) < l.length := by omega
  have q2 : (j : Int) < l.length := by omega
  go_enter Try.func118, Try.ntmps118
  go_wp2
  refine G2.wp_region_growG Kp [] 25 32 (G2.pvL [G2.eqv (.slice (some ⟨b, o, none⟩) l.length c), G2.eqv (.int .i64 (i : Int)), G2.eqv (.pointer (some ⟨b, o + i * 5, none⟩)), G2.eqv (.pointer (some ⟨b, o + i * 5, none⟩)), G2.eqv (.int .i64 a0), G2.eqv (.slice (some ⟨b, o, none⟩) l.length c), G2.eqv (.int .i64 (j : Int)), G2.eqv (.pointer (some ⟨b, o + j * 5, none⟩)), G2.eqv (.pointer (some ⟨b, o + j * 5, none⟩)), G2.eqv (.int .i64 b0), G2.eqv (.int .i64 (cmpI a0 b0)), G2.eqv (.slice (some ⟨b, o, none⟩) l.length c), G2.eqv (.int .i64 (i : Int)), G2.eqv (.pointer (some ⟨b, o + i * 5, none⟩)), G2.eqv (.pointer (some ⟨b, o + i * 5 + 1, none⟩)), G2.eqv (.int .i64 a1), G2.eqv (.slice (some ⟨b, o, none⟩) l.length c), G2.eqv (.int .i64 (j : Int)), G2.eqv (.pointer (some ⟨b, o + j * 5, none⟩)), G2.eqv (.pointer (some ⟨b, o + j * 5 + 1, none⟩)), G2.eqv (.int .i64 b1), G2.eqv (.int .i64 (cmpI a1 b1)), (G2.newSl encInt 1 [cmpI a0 b0, cmpI a1 b1]), G2.eqv (.int .i64 (orL [cmpI a0 b0, cmpI a1 b1])), G2.eqv (.bool r)]) (by kernel_rfl) (by kernel_rfl) rfl (fun x => Kp.refl x) (fun _ _ _ h k => h.trans k) (Kp.refl _).drew (fun _ _ _ _ _ h => h) (G2.pvL_keep (G2.stabL_cons (G2.stab_eq _) (G2.stabL_cons (G2.stab_eq _) (G2.stabL_cons (G2.stab_eq _) (G2.stabL_cons (G2.stab_eq _) (G2.stabL_cons (G2.stab_eq _) (G2.stabL_cons (G2.stab_eq _) (G2.stabL_cons (G2.stab_eq _) (G2.stabL_cons (G2.stab_eq _) (G2.stabL_cons (G2.stab_eq _) (G2.stabL_cons (G2.stab_eq _) (G2.stabL_cons (G2.stab_eq _) (G2.stabL_cons (G2.stab_eq _) (G2.stabL_cons (G2.stab_eq _) (G2.stabL_cons (G2.stab_eq _) (G2.stabL_cons (G2.stab_eq _) (G2.stabL_cons (G2.stab_eq _) (G2.stabL_cons (G2.stab_eq _) (G2.stabL_cons (G2.stab_eq _) (G2.stabL_cons (G2.stab_eq _) (G2.stabL_cons (G2.stab_eq _) (G2.stabL_cons (G2.stab_eq _) (G2.stabL_cons (G2.stab_eq _) (G2.stabL_cons (G2.stab_newSl _ _ _) (G2.stabL_cons (G2.stab_eq _) (G2.stabL_cons (G2.stab_eq _) (G2.stabL_nil))))))))))))))))))))))))))) ?_ ?_ ?_
  · intro i0 hi0
    have hi' : i0 = 0 ∨ i0 = 1 ∨ i0 = 2 ∨ i0 = 3 ∨ i0 = 4 ∨ i0 = 5 ∨ i0 = 6 ∨ i0 = 7 ∨ i0 = 8 ∨ i0 = 9 ∨ i0 = 10 ∨ i0 = 11 ∨ i0 = 12 ∨ i0 = 13 ∨ i0 = 14 ∨ i0 = 15 ∨ i0 = 16 ∨ i0 = 17 ∨ i0 = 18 ∨ i0 = 19 ∨ i0 = 20 ∨ i0 = 21 ∨ i0 = 22 ∨ i0 = 23 ∨ i0 = 24 := by omega
    rcases hi' with rfl | rfl | rfl | rfl | rfl | rfl | rfl | rfl | rfl | rfl | rfl | rfl | rfl | rfl | rfl | rfl | rfl | rfl | rfl | rfl | rfl | rfl | rfl | rfl | rfl
    · intro a w' hk hF hD K hK
      simp only [List.getElem?_toArray, List.getElem?_cons_zero, List.getElem?_cons_succ, Option.map_some, Option.getD_some]
      have h0 : a.tmps[0]?.getD undef = .slice (some ⟨b, o, none⟩) l.length c := hF 0 (by kernel_rfl)
      clear hF hD
      go_simp
      exact hK.out _ _ (Kp.refl _) rfl
    · intro a w' hk hF hD K hK
      simp only [List.getElem?_toArray, List.getElem?_cons_zero, List.getElem?_cons_succ, Option.map_some, Option.getD_some]
      have h1 : a.tmps[1]?.getD undef = .int .i64 (i : Int) := hF 1 (by kernel_rfl)
      clear hF hD
      go_simp
      exact hK.out _ _ (Kp.refl _) rfl
    · intro a w' hk hF hD K hK
      simp only [List.getElem?_toArray, List.getElem?_cons_zero, List.getElem?_cons_succ, Option.map_some, Option.getD_some]
      have h7 : a.tmps[7]?.getD undef = .slice (some ⟨b, o, none⟩) l.length c := hD 0 (by kernel_rfl)
      have h8 : a.tmps[8]?.getD undef = .int .i64 (i : Int) := hD 1 (by kernel_rfl)
      clear hF hD
      go_simp
      exact hK.out _ _ (Kp.refl _) rfl
    · intro a w' hk hF hD K hK
      simp only [List.getElem?_toArray, List.getElem?_cons_zero, List.getElem?_cons_succ, Option.map_some, Option.getD_some]
      have h9 : a.tmps[9]?.getD undef = .pointer (some ⟨b, o + i * 5, none⟩) := hD 2 (by kernel_rfl)
      clear hF hD
      go_simp
      exact hK.out _ _ (Kp.refl _) rfl
    · intro a w' hk hF hD K hK
      simp only [List.getElem?_toArray, List.getElem?_cons_zero, List.getElem?_cons_succ, Option.map_some, Option.getD_some]
      have h10 : a.tmps[10]?.getD undef = .pointer (some ⟨b, o + i * 5, none⟩) := hD 3 (by kernel_rfl)
      clear hF hD
      have z1 := hk.cellS i0
      go_simp
      exact hK.out _ _ (Kp.refl _) rfl
    · intro a w' hk hF hD K hK
      simp only [List.getElem?_toArray, List.getElem?_cons_zero, List.getElem?_cons_succ, Option.map_some, Option.getD_some]
      have h0 : a.tmps[0]?.getD undef = .slice (some ⟨b, o, none⟩) l.length c := hF 0 (by kernel_rfl)
      clear hF hD
      go_simp
      exact hK.out _ _ (Kp.refl _) rfl
    · intro a w' hk hF hD K hK
      simp only [List.getElem?_toArray, List.getElem?_cons_zero, List.getElem?_cons_succ, Option.map_some, Option.getD_some]
      have h2 : a.tmps[2]?.getD undef = .int .i64 (j : Int) := hF 2 (by kernel_rfl)
      clear hF hD
      go_simp
      exact hK.out _ _ (Kp.refl _) rfl
    · intro a w' hk hF hD K hK
      simp only [List.getElem?_toArray, List.getElem?_cons_zero, List.getElem?_cons_succ, Option.map_some, Option.getD_some]
      have h12 : a.tmps[12]?.getD undef = .slice (some ⟨b, o, none⟩) l.length c := hD 5 (by kernel_rfl)
      have h13 : a.tmps[13]?.getD undef = .int .i64 (j : Int) := hD 6 (by kernel_rfl)
      clear hF hD
      go_simp
      exact hK.out _ _ (Kp.refl _) rfl
    · intro a w' hk hF hD K hK
      simp only [List.getElem?_toArray, List.getElem?_cons_zero, List.getElem?_cons_succ, Option.map_some, Option.getD_some]
      have h14 : a.tmps[14]?.getD undef = .pointer (some ⟨b, o + j * 5, none⟩) := hD 7 (by kernel_rfl)
      clear hF hD
      go_simp
      exact hK.out _ _ (Kp.refl _) rfl
    · intro a w' hk hF hD K hK
      simp only [List.getElem?_toArray, List.getElem?_cons_zero, List.getElem?_cons_succ, Option.map_some, Option.getD_some]
      have h15 : a.tmps[15]?.getD undef = .pointer (some ⟨b, o + j * 5, none⟩) := hD 8 (by kernel_rfl)
      clear hF hD
      have z1 := hk.cellS j0
      go_simp
      exact hK.out _ _ (Kp.refl _) rfl
    · intro a w' hk hF hD K hK
      simp only [List.getElem?_toArray, List.getElem?_cons_zero, List.getElem?_cons_succ, Option.map_some, Option.getD_some]
      have h11 : a.tmps[11]?.getD undef = .int .i64 a0 := hD 4 (by kernel_rfl)
      have h16 : a.tmps[16]?.getD undef = .int .i64 b0 := hD 9 (by kernel_rfl)
      clear hF hD
      go_simp
      refine (cmpCompare_any a0 b0 _).mono ?_
      rintro e w9 ⟨rfl, hk9⟩
      exact hK.out _ _ hk9 rfl
    · intro a w' hk hF hD K hK
      simp only [List.getElem?_toArray, List.getElem?_cons_zero, List.getElem?_cons_succ, Option.map_some, Option.getD_some]
      have h0 : a.tmps[0]?.getD undef = .slice (some ⟨b, o, none⟩) l.length c := hF 0 (by kernel_rfl)
      clear hF hD
      go_simp
      exact hK.out _ _ (Kp.refl _) rfl
    · intro a w' hk hF hD K hK
      simp only [List.getElem?_toArray, List.getElem?_cons_zero, List.getElem?_cons_succ, Option.map_some, Option.getD_some]
      have h1 : a.tmps[1]?.getD undef = .int .i64 (i : Int) := hF 1 (by kernel_rfl)
      clear hF hD
      go_simp
      exact hK.out _ _ (Kp.refl _) rfl
    · intro a w' hk hF hD K hK
      simp only [List.getElem?_toArray, List.getElem?_cons_zero, List.getElem?_cons_succ, Option.map_some, Option.getD_some]
      have h18 : a.tmps[18]?.getD undef = .slice (some ⟨b, o, none⟩) l.length c := hD 11 (by kernel_rfl)
      have h19 : a.tmps[19]?.getD undef = .int .i64 (i : Int) := hD 12 (by kernel_rfl)
      clear hF hD
      go_simp
      exact hK.out _ _ (Kp.refl _) rfl
    · intro a w' hk hF hD K hK
      simp only [List.getElem?_toArray, List.getElem?_cons_zero, List.getElem?_cons_succ, Option.map_some, Option.getD_some]
      have h20 : a.tmps[20]?.getD undef = .pointer (some ⟨b, o + i * 5, none⟩) := hD 13 (by kernel_rfl)
      clear hF hD
      go_simp
      exact hK.out _ _ (Kp.refl _) rfl
    · intro a w' hk hF hD K hK
      simp only [List.getElem?_toArray, List.getElem?_cons_zero, List.getElem?_cons_succ, Option.map_some, Option.getD_some]
      have h21 : a.tmps[21]?.getD undef = .pointer (some ⟨b, o + i * 5 + 1, none⟩) := hD 14 (by kernel_rfl)
      clear hF hD
      have z1 := hk.cellS i1
      go_simp
      exact hK.out _ _ (Kp.refl _) rfl
    · intro a w' hk hF hD K hK
      simp only [List.getElem?_toArray, List.getElem?_cons_zero, List.getElem?_cons_succ, Option.map_some, Option.getD_some]
      have h0 : a.tmps[0]?.getD undef = .slice (some ⟨b, o, none⟩) l.length c := hF 0 (by kernel_rfl)
      clear hF hD
      go_simp
      exact hK.out _ _ (Kp.refl _) rfl
    · intro a w' hk hF hD K hK
      simp only [List.getElem?_toArray, List.getElem?_cons_zero, List.getElem?_cons_succ, Option.map_some, Option.getD_some]
      have h2 : a.tmps[2]?.getD undef = .int .i64 (j : Int) := hF 2 (by kernel_rfl)
      clear hF hD
      go_simp
      exact hK.out _ _ (Kp.refl _) rfl
    · intro a w' hk hF hD K hK
      simp only [List.getElem?_toArray, List.getElem?_cons_zero, List.getElem?_cons_succ, Option.map_some, Option.getD_some]
      have h23 : a.tmps[23]?.getD undef = .slice (some ⟨b, o, none⟩) l.length c := hD 16 (by kernel_rfl)
      have h24 : a.tmps[24]?.getD undef = .int .i64 (j : Int) := hD 17 (by kernel_rfl)
      clear hF hD
      go_simp
      exact hK.out _ _ (Kp.refl _) rfl
    · intro a w' hk hF hD K hK
      simp only [List.getElem?_toArray, List.getElem?_cons_zero, List.getElem?_cons_succ, Option.map_some, Option.getD_some]
      have h25 : a.tmps[25]?.getD undef = .pointer (some ⟨b, o + j * 5, none⟩) := hD 18 (by kernel_rfl)
      clear hF hD
      go_simp
      exact hK.out _ _ (Kp.refl _) rfl
    · intro a w' hk hF hD K hK
      simp only [List.getElem?_toArray, List.getElem?_cons_zero, List.getElem?_cons_succ, Option.map_some, Option.getD_some]
      have h26 : a.tmps[26]?.getD undef = .pointer (some ⟨b, o + j * 5 + 1, none⟩) := hD 19 (by kernel_rfl)
      clear hF hD
      have z1 := hk.cellS j1
      go_simp
      exact hK.out _ _ (Kp.refl _) rfl
    · intro a w' hk hF hD K hK
      simp only [List.getElem?_toArray, List.getElem?_cons_zero, List.getElem?_cons_succ, Option.map_some, Option.getD_some]
      have h22 : a.tmps[22]?.getD undef = .int .i64 a1 := hD 15 (by kernel_rfl)
      have h27 : a.tmps[27]?.getD undef = .int .i64 b1 := hD 20 (by kernel_rfl)
      clear hF hD
      go_simp
      refine (cmpCompare_any a1 b1 _).mono ?_
      rintro e w9 ⟨rfl, hk9⟩
      exact hK.out _ _ hk9 rfl
    · intro a w' hk hF hD K hK
      simp only [List.getElem?_toArray, List.getElem?_cons_zero, List.getElem?_cons_succ, Option.map_some, Option.getD_some]
      have h17 : a.tmps[17]?.getD undef = .int .i64 (cmpI a0 b0) := hD 10 (by kernel_rfl)
      have h28 : a.tmps[28]?.getD undef = .int .i64 (cmpI a1 b1) := hD 21 (by kernel_rfl)
      clear hF hD
      go_simp
      exact hK.out _ _ ((Kp.refl w').alloc (.cells #[.int .i64 (cmpI a0 b0), .int .i64 (cmpI a1 b1)] 3)) (G2.newSl_lit (enc := encInt) (size := 1) (l := [cmpI a0 b0, cmpI a1 b1]) w' #[.int .i64 (cmpI a0 b0), .int .i64 (cmpI a1 b1)] 3 rfl rfl)
    · intro a w' hk hF hD K hK
      simp only [List.getElem?_toArray, List.getElem?_cons_zero, List.getElem?_cons_succ, Option.map_some, Option.getD_some]
      have h29 : (G2.newSl encInt 1 [cmpI a0 b0, cmpI a1 b1]) (a.tmps[29]?.getD undef) w' := hD 22 (by kernel_rfl)
      clear hF hD
      obtain ⟨p, h29', hp⟩ := h29
      go_simp
      refine (cmpOr_any _ _ _ hp).mono ?_
      rintro e w9 ⟨rfl, hk9⟩
      exact hK.out _ _ hk9 rfl
    · intro a w' hk hF hD K hK
      simp only [List.getElem?_toArray, List.getElem?_cons_zero, List.getElem?_cons_succ, Option.map_some, Option.getD_some]
      have h30 : a.tmps[30]?.getD undef = .int .i64 (orL [cmpI a0 b0, cmpI a1 b1]) := hD 23 (by kernel_rfl)
      clear hF hD
      go_simp
      rw [HF.out]
      exact hK.out _ _ (Kp.refl _) rfl
  · exact fun i0 hi0 => by simp at hi0
  intro v w9 k9 hv
  have v24 : v 24 = .bool r := hv 24 (by omega)
  clear hv
  simp only [G2.growPut, G2.gSlot, List.getElem?_toArray, List.getElem?_cons_zero, List.getElem?_cons_succ, Option.bind_some, List.setIfInBounds_toArray, List.set_cons_zero, List.set_cons_succ, List.drop_succ_cons, List.drop_zero, v24]
  go_wp2
  go_ret
  exact ⟨rfl, k9⟩
end Go.Proofs.Ytmokpnkpfodppaa
namespace Go.Proofs.Ytmokpnkpfodppaa
set_option linter.unusedSimpArgs false
set_option linter.unusedVariables false
open Go.RowKit

theorem putV_cons {cs : List Value} {o : Nat} {v : Value} {vs : List Value} (hl : o < cs.length) : putV (cs.set o v) (o + 1) vs = putV cs o (v :: vs) := by
  have hset : cs.set o v = cs.take o ++ v :: cs.drop (o + 1) := by rw [List.set_eq_take_append_cons_drop, if_pos (by omega)]
  have ht : (cs.take o).length = o := by simp; omega
  unfold putV
  rw [hset, List.take_append, List.drop_append, ht, List.take_of_length_le (l := cs.take o) (by omega), List.drop_of_length_le (l := cs.take o) (by omega), List.length_cons]
  have e1 : o + 1 - o = 1 := by omega
  have e2 : o + 1 + vs.length - o = vs.length + 1 := by omega
  rw [e1, e2]
  simp [Nat.add_assoc, Nat.add_comm 1]
theorem owns_setCells {base e size g n c : Nat} : ∀ (vs : List Value) (o : Nat) (w : World) (xs : List Value), w.ownsRow base e size (.slice (some ⟨g, 0, none⟩) n c) n xs → o + vs.length ≤ xs.length → (w.setCells g o vs).ownsRow base e size (.slice (some ⟨g, 0, none⟩) n c) n (putV xs o vs)
  | [], o, w, xs, h, _ => by
    have : putV xs o [] = xs := by unfold putV; simp
    rw [this]
    exact h
  | v :: vs, o, w, xs, h, hl => by
    rw [List.length_cons] at hl
    have h1 := (World.ownsRow.stored h o v).1
    rw [World.setCells, ← putV_cons (by omega)]
    exact owns_setCells vs (o + 1) _ _ h1 (by rw [List.length_set]; omega)
section
variable {α : Type} {enc : α → List Value} {e size base g n c k : Nat} {w : World} {l : List α}
theorem flat_setRow (he : ∀ x, (enc x).length = size) (x : α) (hk : k < l.length) : putV (flat enc l) (k * size) (enc x) = flat enc (l.set k x) := by
  unfold putV
  rw [List.set_eq_take_append_cons_drop, if_pos hk, flat_append, flat_cons, ← flat_take he l k, he x]
  have : k * size + size = (k + 1) * size := by rw [Nat.add_mul, Nat.one_mul]
  rw [this, ← flat_drop he l (k + 1), List.append_assoc]
theorem Own.setRow (he : ∀ x, (enc x).length = size) (h : Own enc e size base w (.slice (some ⟨g, 0, none⟩) n c) l) (hn : n = l.length) (hk : k < l.length) (x : α) : Own enc e size base (w.setCells g (k * size) (enc x)) (.slice (some ⟨g, 0, none⟩) n c) (l.set k x) := by
  subst hn
  unfold Own at h ⊢
  have h1 : (k + 1) * size ≤ l.length * size := Nat.mul_le_mul_right _ hk
  have h2 := owns_setCells (enc x) (k * size) w _ h (by rw [flat_length he, he]; rw [Nat.add_mul, Nat.one_mul] at h1; exact h1)
  rw [flat_setRow he x hk] at h2
  rw [List.length_set]
  exact h2
theorem Own.thereRow (he : ∀ x, (enc x).length = size) (h : Own enc e size base w (.slice (some ⟨g, 0, none⟩) n c) l) (hn : n = l.length) (hk : k < l.length) : w.there g (k * size) size := fun j hj => by
  refine ⟨?_, h.frozen hn _⟩
  rw [h.cellAt he hn hk hj, List.getElem?_eq_getElem (by rw [he]; exact hj)]
  rfl
theorem Own.trunc (he : ∀ x, (enc x).length = size) (h : Own enc e size base w (.slice (some ⟨g, 0, none⟩) n c) l) (hn : n = l.length) {m : Nat} (hm : m ≤ n) : Own enc e size base w (.slice (some ⟨g, 0, none⟩) m c) (l.take m) := by
  subst hn
  have hml : (l.take m).length = m := by simp; omega
  unfold Own World.ownsRow at h ⊢
  refine ⟨by rw [flat_length he], ?_⟩
  rcases h.2 with ⟨h0, -⟩ | ⟨g', cap, cur, h1, h2, h3, h4, h5, h6, h7⟩
  · cases h0
  · injection h1 with a1 a2 a3
    injection a1 with a1
    injection a1 with a1
    subst a1 a3
    refine .inr ⟨g, c, cur, by rw [hml], h2, h3, by omega, h5, h6, ?_⟩
    rw [hml, flat_take he, ← h7, List.take_take]
    have : m * size ≤ l.length * size := Nat.mul_le_mul_right _ hm
    rw [Nat.min_eq_left this]
end
theorem Kg.setCells {a : World} {g : Nat} : ∀ (vs : List Value) (o : Nat) (w : World), Kg a w g → Kg a (w.setCells g o vs) g
  | [], _, _, h => h
  | v :: vs, o, w, h => by
    rw [World.setCells]
    exact Kg.setCells vs (o + 1) _ (h.set (p := ⟨g, o, none⟩) (.inl rfl) v)
def swapL (l : List Par) (i j : Nat) : List Par := (l.set i (l.getD j default)).set j (l.getD i default)
theorem swapL_len (l : List Par) (i j : Nat) : (swapL l i j).length = l.length := by simp [swapL]
set_option maxRecDepth 8000 in
set_option maxHeartbeats 1600000 in
theorem qSwap_any (base g n c : Nat) (l : List Par) (i j : Nat) (w : World) (h : Own encPar 105 5 base w (.slice (some ⟨g, 0, none⟩) n c) l) (hn : n = l.length) (hi : i < l.length) (hj : j < l.length) :
    Calls Try.prog 119 #[.slice (some ⟨g, 0, none⟩) n c, .int .i64 (i : Int), .int .i64 (j : Int)] w fun e w' => e = .returned (.tuple #[]) ∧ Own encPar 105 5 base w' (.slice (some ⟨g, 0, none⟩) n c) (swapL l i j) ∧ Kg w w' g := by
  subst hn
  have hS := h.sl encPar_len
  obtain ⟨hc, hm⟩ := hS.caps
  obtain ⟨b, o, he, hb, i0, i1, i2, i3, i4⟩ := hS.par hi
  injection he with he
  injection he with e1 e2
  subst e1 e2
  obtain ⟨b', o', he, -, j0, j1, j2, j3, j4⟩ := hS.par hj
  injection he with he
  injection he with e1 e2
  subst e1 e2
  simp only [Nat.zero_add] at i0 i1 i2 i3 i4 j0 j1 j2 j3 j4
  have HX : Hid (l.getD i default = l[i]) := hid (by simp [List.getD, hi])
  have HY : Hid (l.getD j default = l[j]) := hid (by simp [List.getD, hj])
  have HS : Hid (swapL l i j = (l.set i l[j]).set j l[i]) := hid (by unfold swapL; rw [HX.out, HY.out])
  clear HX HY
  generalize l[i] = x at *
  generalize l[j] = y at *
  have q1 : (i : Int) < l.length := by omega
  have q2 : (j : Int) < l.length := by omega
  go_enter Try.func119, Try.ntmps119
  go_wp2
  refine G2.wp_region_growG Kp [2, 3] 13 20 (G2.pvL [G2.eqv (.slice (some ⟨g, 0, none⟩) l.length c), G2.eqv (.int .i64 (i : Int)), G2.eqv (.slice (some ⟨g, 0, none⟩) l.length c), G2.eqv (.int .i64 (j : Int)), G2.eqv (.slice (some ⟨g, 0, none⟩) l.length c), G2.eqv (.int .i64 (j : Int)), G2.eqv (.pointer (some ⟨g, j * 5, none⟩)), G2.eqv (.agg (encPar y).toArray), G2.eqv (.slice (some ⟨g, 0, none⟩) l.length c), G2.eqv (.int .i64 (i : Int)), G2.eqv (.pointer (some ⟨g, i * 5, none⟩)), G2.eqv (.agg (encPar x).toArray), G2.eqv (.pointer (some ⟨g, i * 5, none⟩))]) (by kernel_rfl) (by kernel_rfl) rfl (fun x => Kp.refl x) (fun _ _ _ h k => h.trans k) (Kp.refl _).drew (fun _ _ _ _ _ h => h) (G2.pvL_keep (G2.stabL_cons (G2.stab_eq _) (G2.stabL_cons (G2.stab_eq _) (G2.stabL_cons (G2.stab_eq _) (G2.stabL_cons (G2.stab_eq _) (G2.stabL_cons (G2.stab_eq _) (G2.stabL_cons (G2.stab_eq _) (G2.stabL_cons (G2.stab_eq _) (G2.stabL_cons (G2.stab_eq _) (G2.stabL_cons (G2.stab_eq _) (G2.stabL_cons (G2.stab_eq _) (G2.stabL_cons (G2.stab_eq _) (G2.stabL_cons (G2.stab_eq _) (G2.stabL_cons (G2.stab_eq _) (G2.stabL_nil))))))))))))))) ?_ ?_ ?_
  · intro i0 hi0
    have hi' : i0 = 0 ∨ i0 = 1 ∨ i0 = 2 ∨ i0 = 3 ∨ i0 = 4 ∨ i0 = 5 ∨ i0 = 6 ∨ i0 = 7 ∨ i0 = 8 ∨ i0 = 9 ∨ i0 = 10 ∨ i0 = 11 ∨ i0 = 12 := by omega
    rcases hi' with rfl | rfl | rfl | rfl | rfl | rfl | rfl | rfl | rfl | rfl | rfl | rfl | rfl
    · intro a w' hk hF hD K hK
      simp only [List.getElem?_toArray, List.getElem?_cons_zero, List.getElem?_cons_succ, Option.map_some, Option.getD_some]
      have h0 : a.tmps[0]?.getD undef = .slice (some ⟨g, 0, none⟩) l.length c := hF 0 (by kernel_rfl)
      clear hF hD
      go_simp
      exact hK.out _ _ (Kp.refl _) rfl
    · intro a w' hk hF hD K hK
      simp only [List.getElem?_toArray, List.getElem?_cons_zero, List.getElem?_cons_succ, Option.map_some, Option.getD_some]
      have h1 : a.tmps[1]?.getD undef = .int .i64 (i : Int) := hF 1 (by kernel_rfl)
      clear hF hD
      go_simp
      exact hK.out _ _ (Kp.refl _) rfl
    · intro a w' hk hF hD K hK
      simp only [List.getElem?_toArray, List.getElem?_cons_zero, List.getElem?_cons_succ, Option.map_some, Option.getD_some]
      have h0 : a.tmps[0]?.getD undef = .slice (some ⟨g, 0, none⟩) l.length c := hF 0 (by kernel_rfl)
      clear hF hD
      go_simp
      exact hK.out _ _ (Kp.refl _) rfl
    · intro a w' hk hF hD K hK
      simp only [List.getElem?_toArray, List.getElem?_cons_zero, List.getElem?_cons_succ, Option.map_some, Option.getD_some]
      have h2 : a.tmps[2]?.getD undef = .int .i64 (j : Int) := hF 2 (by kernel_rfl)
      clear hF hD
      go_simp
      exact hK.out _ _ (Kp.refl _) rfl
    · intro a w' hk hF hD K hK
      simp only [List.getElem?_toArray, List.getElem?_cons_zero, List.getElem?_cons_succ, Option.map_some, Option.getD_some]
      have h0 : a.tmps[0]?.getD undef = .slice (some ⟨g, 0, none⟩) l.length c := hF 0 (by kernel_rfl)
      clear hF hD
      go_simp
      exact hK.out _ _ (Kp.refl _) rfl
    · intro a w' hk hF hD K hK
      simp only [List.getElem?_toArray, List.getElem?_cons_zero, List.getElem?_cons_succ, Option.map_some, Option.getD_some]
      have h2 : a.tmps[2]?.getD undef = .int .i64 (j : Int) := hF 2 (by kernel_rfl)
      clear hF hD
      go_simp
      exact hK.out _ _ (Kp.refl _) rfl
    · intro a w' hk hF hD K hK
      simp only [List.getElem?_toArray, List.getElem?_cons_zero, List.getElem?_cons_succ, Option.map_some, Option.getD_some]
      have h10 : a.tmps[10]?.getD undef = .slice (some ⟨g, 0, none⟩) l.length c := hD 4 (by kernel_rfl)
      have h11 : a.tmps[11]?.getD undef = .int .i64 (j : Int) := hD 5 (by kernel_rfl)
      clear hF hD
      go_simp
      exact hK.out _ _ (Kp.refl _) rfl
    · intro a w' hk hF hD K hK
      simp only [List.getElem?_toArray, List.getElem?_cons_zero, List.getElem?_cons_succ, Option.map_some, Option.getD_some]
      have h12 : a.tmps[12]?.getD undef = .pointer (some ⟨g, j * 5, none⟩) := hD 6 (by kernel_rfl)
      clear hF hD
      have z0 := hk.cellS j0
      have z1 := hk.cellS j1
      have z2 := hk.cellS j2
      have z3 := hk.cellS j3
      have z4 := hk.cellS j4
      go_simp
      exact hK.out _ _ (Kp.refl _) rfl
    · intro a w' hk hF hD K hK
      simp only [List.getElem?_toArray, List.getElem?_cons_zero, List.getElem?_cons_succ, Option.map_some, Option.getD_some]
      have h0 : a.tmps[0]?.getD undef = .slice (some ⟨g, 0, none⟩) l.length c := hF 0 (by kernel_rfl)
      clear hF hD
      go_simp
      exact hK.out _ _ (Kp.refl _) rfl
    · intro a w' hk hF hD K hK
      simp only [List.getElem?_toArray, List.getElem?_cons_zero, List.getElem?_cons_succ, Option.map_some, Option.getD_some]
      have h1 : a.tmps[1]?.getD undef = .int .i64 (i : Int) := hF 1 (by kernel_rfl)
      clear hF hD
      go_simp
      exact hK.out _ _ (Kp.refl _) rfl
    · intro a w' hk hF hD K hK
      simp only [List.getElem?_toArray, List.getElem?_cons_zero, List.getElem?_cons_succ, Option.map_some, Option.getD_some]
      have h14 : a.tmps[14]?.getD undef = .slice (some ⟨g, 0, none⟩) l.length c := hD 8 (by kernel_rfl)
      have h15 : a.tmps[15]?.getD undef = .int .i64 (i : Int) := hD 9 (by kernel_rfl)
      clear hF hD
      go_simp
      exact hK.out _ _ (Kp.refl _) rfl
    · intro a w' hk hF hD K hK
      simp only [List.getElem?_toArray, List.getElem?_cons_zero, List.getElem?_cons_succ, Option.map_some, Option.getD_some]
      have h16 : a.tmps[16]?.getD undef = .pointer (some ⟨g, i * 5, none⟩) := hD 10 (by kernel_rfl)
      clear hF hD
      have z0 := hk.cellS i0
      have z1 := hk.cellS i1
      have z2 := hk.cellS i2
      have z3 := hk.cellS i3
      have z4 := hk.cellS i4
      go_simp
      exact hK.out _ _ (Kp.refl _) rfl
    · intro a w' hk hF hD K hK
      simp only [List.getElem?_toArray, List.getElem?_cons_zero, List.getElem?_cons_succ, Option.map_some, Option.getD_some]
      have h6 : a.tmps[6]?.getD undef = .slice (some ⟨g, 0, none⟩) l.length c := hD 0 (by kernel_rfl)
      have h7 : a.tmps[7]?.getD undef = .int .i64 (i : Int) := hD 1 (by kernel_rfl)
      clear hF hD
      go_simp
      exact hK.out _ _ (Kp.refl _) rfl
  · intro i0 hi0
    have hi' : i0 = 2 ∨ i0 = 3 := by simpa using hi0
    rcases hi' with rfl | rfl
    · refine ⟨by omega, fun a w' hk hF hD => ?_⟩
      simp only [List.getElem?_toArray, List.getElem?_cons_zero, List.getElem?_cons_succ, Option.map_some, Option.getD_some]
      have h0 : a.tmps[0]?.getD undef = .slice (some ⟨g, 0, none⟩) l.length c := hF 0 (by kernel_rfl)
      clear hF hD
      exact ⟨.slice (some ⟨g, 0, none⟩) l.length c, rfl, Or.inl ⟨by simp [Region.wanted], fun w => by go_simp⟩⟩
    · refine ⟨by omega, fun a w' hk hF hD => ?_⟩
      simp only [List.getElem?_toArray, List.getElem?_cons_zero, List.getElem?_cons_succ, Option.map_some, Option.getD_some]
      have h2 : a.tmps[2]?.getD undef = .int .i64 (j : Int) := hF 2 (by kernel_rfl)
      clear hF hD
      exact ⟨.int .i64 (j : Int), rfl, Or.inl ⟨by simp [Region.wanted], fun w => by go_simp⟩⟩
  intro v w9 k9 hv
  have v12 : v 12 = .pointer (some ⟨g, i * 5, none⟩) := hv 12 (by omega)
  have v7 : v 7 = .agg (encPar y).toArray := hv 7 (by omega)
  have v2 : v 2 = .slice (some ⟨g, 0, none⟩) l.length c := hv 2 (by omega)
  have v3 : v 3 = .int .i64 (j : Int) := hv 3 (by omega)
  have v11 : v 11 = .agg (encPar x).toArray := hv 11 (by omega)
  clear hv
  simp only [G2.growPut, G2.gSlot, List.getElem?_toArray, List.getElem?_cons_zero, List.getElem?_cons_succ, Option.bind_some, List.setIfInBounds_toArray, List.set_cons_zero, List.set_cons_succ, List.drop_succ_cons, List.drop_zero, v12, v7, v2, v3, v11]
  have own9 := h.kp k9
  have hg9 := (own9.thereRow encPar_len rfl hi)
  have own1 := own9.setRow encPar_len rfl hi y
  have hth := (own9.thereRow encPar_len rfl hj)
  have hth2 := World.there_setCells hth g (i * 5) (encPar y)
  have own2 := own1.setRow (k := j) encPar_len (by simp) (by simpa using hj) x
  have hkg := Kg.setCells (encPar x) (j * 5) _ (Kg.setCells (encPar y) (i * 5) _ (k9.kg g))
  refine wpList_store_mid rfl 105 (.tmp 18) (.tmp 13) rfl g (i * 5) (encPar y).toArray rfl rfl hg9 (by kernel_rfl) (all_oneCell_toArray (encPar_one y)) ?_
  generalize w9.setCells g (i * 5) (encPar y).toArray.toList = w10 at *
  clear i0 i1 i2 i3 i4 j0 j1 j2 j3 j4 hg9 hth own1 own9
  go_wp2_with (refine wpList_store_mid rfl 105 (.tmp 19) (.tmp 17) rfl g (j * 5) (encPar x).toArray rfl rfl hth2 (by kernel_rfl) (all_oneCell_toArray (encPar_one x)) ?_)
  go_end0
  exact ⟨rfl, by rw [HS.out]; exact own2, hkg⟩
end Go.Proofs.Ytmokpnkpfodppaa
namespace Go.Proofs.Ytmokpnkpfodppaa
set_option linter.unusedSimpArgs false
set_option linter.unusedVariables false

/-- the heap's sift towards the root -/
def upL : Nat → List Par → Nat → List Par
  | 0, l, _ => l
  | f + 1, l, j => if j = 0 then l else if ltP (l.getD j default) (l.getD ((j - 1) / 2) default) then upL f (swapL l ((j - 1) / 2) j) ((j - 1) / 2) else l
/-- the child that comes first -/
def kidJ (l : List Par) (i n : Nat) : Nat := if 2 * i + 1 + 1 < n then (if ltP (l.getD (2 * i + 1 + 1) default) (l.getD (2 * i + 1) default) then 2 * i + 1 + 1 else 2 * i + 1) else 2 * i + 1
/-- .. away from it -/
def downL : Nat → List Par → Nat → Nat → List Par
  | 0, l, _, _ => l
  | f + 1, l, i, n => if n ≤ 2 * i + 1 then l else if ltP (l.getD (kidJ l i n) default) (l.getD i default) then downL f (swapL l i (kidJ l i n)) (kidJ l i n) n else l
theorem kidJ_cases (l : List Par) (i n : Nat) (h : 2 * i + 1 < n) : (kidJ l i n = 2 * i + 1 ∨ kidJ l i n = 2 * i + 1 + 1) ∧ kidJ l i n < n := by
  unfold kidJ
  split
  · split <;> omega
  · omega
theorem upL_len : ∀ (f : Nat) (l : List Par) (j : Nat), (upL f l j).length = l.length
  | 0, _, _ => rfl
  | f + 1, l, j => by
    rw [upL]
    split
    · rfl
    · split
      · rw [upL_len f, swapL_len]
      · rfl
theorem downL_len : ∀ (f : Nat) (l : List Par) (i n : Nat), (downL f l i n).length = l.length
  | 0, _, _, _ => rfl
  | f + 1, l, i, n => by
    rw [downL]
    split
    · rfl
    · split
      · rw [downL_len f, swapL_len]
      · rfl

theorem ltP_iff (p q : Par) : ltP p q = true ↔ (p.due < q.due ∨ p.due = q.due ∧ p.num < q.num) := by simp [ltP]
theorem ltP_not (p q : Par) : ltP p q = false ↔ ¬ (p.due < q.due ∨ p.due = q.due ∧ p.num < q.num) := by simp only [ltP, decide_eq_false_iff_not]
theorem ltP_asymm {p q : Par} (h : ltP p q = true) : ltP q p = false := by
  rw [ltP_iff] at h
  rw [ltP_not]
  omega
theorem ltP_le_trans {p q r : Par} (h1 : ltP q p = false) (h2 : ltP r q = false) : ltP r p = false := by
  rw [ltP_not] at *
  omega
theorem ltP_lt_le {p q r : Par} (h1 : ltP p q = true) (h2 : ltP r q = false) : ltP r p = false := ltP_le_trans (ltP_asymm h1) h2
theorem ltP_trans {p q r : Par} (h1 : ltP p q = true) (h2 : ltP q r = true) : ltP p r = true := by
  rw [ltP_iff] at *
  omega
theorem ltP_irrefl (p : Par) : ltP p p = false := by
  rw [ltP_not]
  omega
theorem ltP_tri {p q : Par} (h : p.num ≠ q.num) (h1 : ltP p q = false) : ltP q p = true := by
  rw [ltP_not] at h1
  rw [ltP_iff]
  omega

abbrev gt (l : List Par) (i : Nat) : Par := l.getD i default
theorem gt_swap (l : List Par) (a b k : Nat) (ha : a < l.length) (hb : b < l.length) : gt (swapL l a b) k = if k = b then gt l a else if k = a then gt l b else gt l k := by
  unfold gt swapL
  by_cases h1 : k = b
  · subst h1
    rw [if_pos rfl]
    simp [List.getD, hb]
  · rw [if_neg h1]
    by_cases h2 : k = a
    · subst h2
      rw [if_pos rfl]
      have : ¬ b = k := fun e => h1 e.symm
      simp [List.getD, List.getElem?_set, ha, this]
    · rw [if_neg h2]
      have e1 : ¬ b = k := fun e => h1 e.symm
      have e2 : ¬ a = k := fun e => h2 e.symm
      simp [List.getD, List.getElem?_set, e1, e2]
instance : DecidableEq Par := fun a b => by
  cases a; cases b
  simp only [Par.mk.injEq]
  infer_instance
theorem count_set_add {α : Type} [BEq α] [LawfulBEq α] : ∀ (l : List α) (i : Nat) (x a : α) (h : i < l.length), (l.set i x).count a + (if l[i] == a then 1 else 0) = l.count a + (if x == a then 1 else 0)
  | [], i, _, _, h => absurd h (by simp)
  | y :: l, 0, x, a, h => by
    rw [List.set_cons_zero, List.count_cons, List.count_cons]
    simp only [List.getElem_cons_zero]
    omega
  | y :: l, i + 1, x, a, h => by
    have ih := count_set_add l i x a (by simpa using h)
    rw [List.set_cons_succ, List.count_cons, List.count_cons]
    simp only [List.getElem_cons_succ]
    omega
theorem swapL_perm (l : List Par) (i j : Nat) (hi : i < l.length) (hj : j < l.length) : (swapL l i j).Perm l := by
  rw [List.perm_iff_count]
  intro a
  have h1 := count_set_add l i (l.getD j default) a hi
  have h2 := count_set_add (l.set i (l.getD j default)) j (l.getD i default) a (by simpa using hj)
  have e1 : l.getD i default = l[i] := by simp [List.getD, hi]
  have e2 : l.getD j default = l[j] := by simp [List.getD, hj]
  have e3 : (l.set i (l.getD j default))[j]'(by simpa using hj) = l[j] := by
    rw [List.getElem_set]
    split
    · rw [e2]
    · rfl
  rw [e3] at h2
  rw [← e2] at h2
  rw [← e1] at h1
  show List.count a ((l.set i (l.getD j default)).set j (l.getD i default)) = _
  generalize (if (l.getD i default == a) = true then 1 else 0) = u at *
  generalize (if (l.getD j default == a) = true then 1 else 0) = v at *
  omega
theorem upL_perm : ∀ (f : Nat) (l : List Par) (j : Nat), j < l.length → (upL f l j).Perm l
  | 0, l, _, _ => List.Perm.refl _
  | f + 1, l, j, h => by
    rw [upL]
    split
    · exact List.Perm.refl _
    · split
      · exact (upL_perm f _ _ (by rw [swapL_len]; omega)).trans (swapL_perm l _ _ (by omega) h)
      · exact List.Perm.refl _
theorem downL_perm : ∀ (f : Nat) (l : List Par) (i n : Nat), n ≤ l.length → i < l.length → (downL f l i n).Perm l
  | 0, l, _, _, _, _ => List.Perm.refl _
  | f + 1, l, i, n, h, hi => by
    rw [downL]
    split
    · exact List.Perm.refl _
    · rename_i h2
      obtain ⟨-, hk⟩ := kidJ_cases l i n (by omega)
      split
      · exact (downL_perm f _ _ n (by rw [swapL_len]; exact h) (by rw [swapL_len]; omega)).trans (swapL_perm l _ _ hi (by omega))
      · exact List.Perm.refl _

/-- the first n are a heap -/
def HeapN (l : List Par) (n : Nat) : Prop := ∀ i, 0 < i → i < n → ltP (gt l i) (gt l ((i - 1) / 2)) = false
theorem heap_min {l : List Par} {n : Nat} (h : HeapN l n) : ∀ k, k < n → ltP (gt l k) (gt l 0) = false := by
  intro k
  induction k using Nat.strongRecOn with
  | ind k ih =>
    intro hk
    by_cases h0 : k = 0
    · subst h0
      exact ltP_irrefl _
    · exact ltP_le_trans (ih ((k - 1) / 2) (by omega) (by omega)) (h k (by omega) hk)
theorem up_heap : ∀ (f : Nat) (l : List Par) (j : Nat), j < f → j < l.length →
    (∀ i, 0 < i → i < l.length → i ≠ j → ltP (gt l i) (gt l ((i - 1) / 2)) = false) →
    (∀ i, 0 < i → i < l.length → (i - 1) / 2 = j → 0 < j → ltP (gt l i) (gt l ((j - 1) / 2)) = false) → HeapN (upL f l j) l.length
  | 0, _, j, h, _, _, _ => by omega
  | f + 1, l, j, hf, hj, h1, h2 => by
    rw [upL]
    by_cases h0 : j = 0
    · rw [if_pos h0]
      intro i hi1 hi2
      exact h1 i hi1 hi2 (by omega)
    · rw [if_neg h0]
      by_cases hlt : ltP (gt l j) (gt l ((j - 1) / 2)) = true
      · rw [if_pos hlt]
        have hp : (j - 1) / 2 < l.length := by omega
        have key := fun k => gt_swap l ((j - 1) / 2) j k hp hj
        have := up_heap f (swapL l ((j - 1) / 2) j) ((j - 1) / 2) (by omega) (by rw [swapL_len]; omega) ?_ ?_
        · rwa [swapL_len] at this
        · intro i hi1 hi2 hne
          rw [swapL_len] at hi2
          rw [key i, key ((i - 1) / 2)]
          by_cases e : i = j
          · subst e
            rw [if_pos rfl, if_neg (by omega), if_pos rfl]
            exact ltP_asymm hlt
          · rw [if_neg e, if_neg hne]
            by_cases e1 : (i - 1) / 2 = j
            · rw [if_pos e1]
              exact h2 i hi1 hi2 e1 (by omega)
            · rw [if_neg e1]
              by_cases e2 : (i - 1) / 2 = (j - 1) / 2
              · rw [if_pos e2]
                exact ltP_lt_le hlt (by rw [← e2]; exact h1 i hi1 hi2 e)
              · rw [if_neg e2]
                exact h1 i hi1 hi2 e
        · intro i hi1 hi2 hpi hp0
          rw [swapL_len] at hi2
          rw [key i, key (((j - 1) / 2 - 1) / 2)]
          rw [if_neg (c := ((j - 1) / 2 - 1) / 2 = j) (by omega), if_neg (c := ((j - 1) / 2 - 1) / 2 = (j - 1) / 2) (by omega)]
          have hpp := h1 ((j - 1) / 2) hp0 hp (by omega)
          by_cases e : i = j
          · rw [if_pos e]
            exact hpp
          · rw [if_neg e, if_neg (by omega)]
            have hi' := h1 i hi1 hi2 e
            rw [hpi] at hi'
            exact ltP_le_trans hpp hi'
      · rw [if_neg hlt]
        intro i hi1 hi2
        by_cases e : i = j
        · subst e
          simpa using hlt
        · exact h1 i hi1 hi2 e
theorem down_heap : ∀ (f : Nat) (l : List Par) (i n : Nat), n ≤ i + f → n ≤ l.length → i < l.length → 
    (∀ k, 0 < k → k < n → (k - 1) / 2 ≠ i → ltP (gt l k) (gt l ((k - 1) / 2)) = false) →
    (0 < i → ∀ k, 0 < k → k < n → (k - 1) / 2 = i → ltP (gt l k) (gt l ((i - 1) / 2)) = false) → HeapN (downL f l i n) n
  | 0, l, i, n, hf, hn, hi, h1, h2 => by
    intro k hk1 hk2
    exact h1 k hk1 hk2 (by omega)
  | f + 1, l, i, n, hf, hn, hi, h1, h2 => by
    rw [downL]
    by_cases h0 : n ≤ 2 * i + 1
    · rw [if_pos h0]
      intro k hk1 hk2
      exact h1 k hk1 hk2 (by omega)
    · rw [if_neg h0]
      obtain ⟨hc, hkn⟩ := kidJ_cases l i n (by omega)
      have hmin : ∀ k, 0 < k → k < n → (k - 1) / 2 = i → ltP (gt l k) (gt l (kidJ l i n)) = false := by
        intro k hk1 hk2 hk3
        have hk4 : k = 2 * i + 1 ∨ k = 2 * i + 1 + 1 := by omega
        unfold kidJ
        split
        · split
          · rename_i h5
            rcases hk4 with rfl | rfl
            · exact ltP_asymm h5
            · exact ltP_irrefl _
          · rename_i h5
            rcases hk4 with rfl | rfl
            · exact ltP_irrefl _
            · simpa using h5
        · rcases hk4 with rfl | rfl
          · exact ltP_irrefl _
          · omega
      have hpk : (kidJ l i n - 1) / 2 = i := by omega
      have hjl : kidJ l i n < l.length := by omega
      generalize kidJ l i n = j at *
      by_cases hlt : ltP (gt l j) (gt l i) = true
      · rw [if_pos hlt]
        have key := fun k => gt_swap l i j k hi hjl
        refine down_heap f (swapL l i j) j n (by omega) (by rw [swapL_len]; exact hn) (by rw [swapL_len]; exact hjl) ?_ ?_
        · intro k hk1 hk2 hk3
          rw [key k, key ((k - 1) / 2), if_neg hk3]
          by_cases e : k = j
          · subst e
            rw [if_pos rfl, if_pos hpk]
            exact ltP_asymm hlt
          · rw [if_neg e]
            by_cases e2 : k = i
            · subst e2
              rw [if_pos rfl, if_neg (by omega)]
              exact h2 hk1 j (by omega) hkn hpk
            · rw [if_neg e2]
              by_cases e3 : (k - 1) / 2 = i
              · rw [if_pos e3]
                exact hmin k hk1 hk2 e3
              · rw [if_neg e3]
                exact h1 k hk1 hk2 e3
        · intro hj0 k hk1 hk2 hk3
          rw [key k, key ((j - 1) / 2), hpk, if_neg (c := i = j) (by omega), if_pos rfl, if_neg (by omega), if_neg (by omega)]
          have := h1 k hk1 hk2 (by omega)
          rwa [hk3] at this
      · rw [if_neg hlt]
        intro k hk1 hk2
        by_cases e : (k - 1) / 2 = i
        · rw [e]
          exact ltP_le_trans (by simpa using hlt) (hmin k hk1 hk2 e)
        · exact h1 k hk1 hk2 e
theorem downL_gt : ∀ (f : Nat) (l : List Par) (i n k : Nat), n ≤ l.length → i < n → n ≤ k → gt (downL f l i n) k = gt l k
  | 0, _, _, _, _, _, _, _ => rfl
  | f + 1, l, i, n, k, hn, hi, hk => by
    rw [downL]
    split
    · rfl
    · rename_i h0
      obtain ⟨-, hkn⟩ := kidJ_cases l i n (by omega)
      split
      · rw [downL_gt f _ _ n k (by rw [swapL_len]; exact hn) hkn hk, gt_swap l i _ k (by omega) (by omega), if_neg (by omega), if_neg (by omega)]
      · rfl

/-! the list in order -/
def SortP (S : List Par) : Prop := S.Pairwise fun p q => ltP p q = true
def insP (p : Par) : List Par → List Par
  | [] => [p]
  | q :: S => if ltP p q then p :: q :: S else q :: insP p S
theorem insP_perm (p : Par) : ∀ S, (insP p S).Perm (p :: S)
  | [] => List.Perm.refl _
  | q :: S => by
    rw [insP]
    split
    · exact List.Perm.refl _
    · exact ((insP_perm p S).cons q).trans (List.Perm.swap p q S)
theorem insP_mem (p q : Par) (S : List Par) : q ∈ insP p S ↔ q = p ∨ q ∈ S := by
  rw [(insP_perm p S).mem_iff, List.mem_cons]
theorem insP_sort (p : Par) : ∀ S, SortP S → (∀ q ∈ S, p.num ≠ q.num) → SortP (insP p S)
  | [], _, _ => List.pairwise_singleton _ _
  | q :: S, h, hn => by
    obtain ⟨h1, h2⟩ := List.pairwise_cons.1 h
    rw [insP]
    split
    · rename_i hlt
      refine List.pairwise_cons.2 ⟨fun x hx => ?_, h⟩
      rcases List.mem_cons.1 hx with rfl | hx
      · exact hlt
      · exact ltP_trans hlt (h1 x hx)
    · rename_i hlt
      refine List.pairwise_cons.2 ⟨fun x hx => ?_, insP_sort p S h2 fun y hy => hn y (by simp [hy])⟩
      rcases (insP_mem p x S).1 hx with rfl | hx
      · exact ltP_tri (hn q (by simp)) (by simpa using hlt)
      · exact h1 x hx
/-- a heap of what is in order -/
structure HeapOf (Q S : List Par) : Prop where
  heap : HeapN Q Q.length
  perm : Q.Perm S
  sort : SortP S
theorem heap_nil : HeapOf [] [] := ⟨fun _ _ h => absurd h (by simp), List.Perm.refl _, List.Pairwise.nil⟩
theorem heap_push {Q S : List Par} {p : Par} (h : HeapOf Q S) (hn : ∀ q ∈ S, p.num ≠ q.num) : HeapOf (upL (Q.length + 1) (Q ++ [p]) Q.length) (insP p S) := by
  refine ⟨?_, ?_, insP_sort p S h.sort hn⟩
  · rw [upL_len]
    refine up_heap _ _ _ (by omega) (by simp) ?_ ?_
    · intro i h1 h2 h3
      have h4 : i < Q.length := by simp at h2; omega
      have := h.heap i h1 h4
      have e1 : gt (Q ++ [p]) i = gt Q i := by simp [gt, List.getD, List.getElem?_append_left h4]
      have e2 : gt (Q ++ [p]) ((i - 1) / 2) = gt Q ((i - 1) / 2) := by
        have : (i - 1) / 2 < Q.length := by omega
        simp [gt, List.getD, List.getElem?_append_left this]
      rw [e1, e2]
      exact this
    · intro i h1 h2 h3 h4
      simp at h2
      omega
  · refine (upL_perm _ _ _ (by simp)).trans (List.Perm.trans ?_ (insP_perm p S).symm)
    exact (List.perm_append_comm).trans (h.perm.cons p)
theorem heap_first {Q S : List Par} {s : Par} (h : HeapOf Q (s :: S)) : gt Q 0 = s := by
  have hl : 0 < Q.length := by rw [h.perm.length_eq]; simp
  obtain ⟨h1, -⟩ := List.pairwise_cons.1 h.sort
  have hm : s ∈ Q := h.perm.mem_iff.2 (by simp)
  obtain ⟨k, hk, e⟩ := List.getElem_of_mem hm
  have hs : gt Q k = s := by simp [gt, List.getD, hk, e]
  have h2 := heap_min h.heap k hk
  rw [hs] at h2
  have h3 : gt Q 0 ∈ s :: S := by
    rw [← h.perm.mem_iff]
    have : gt Q 0 = Q[0] := by simp [gt, List.getD, hl]
    rw [this]
    exact List.getElem_mem hl
  rcases List.mem_cons.1 h3 with h4 | h4
  · exact h4
  · rw [h1 _ h4] at h2
    cases h2
theorem take_gt {l : List Par} {n i : Nat} (h : i < n) : gt (l.take n) i = gt l i := by
  simp [gt, List.getD, List.getElem?_take, h]
theorem heap_pop {Q S : List Par} {s : Par} (h : HeapOf Q (s :: S)) (n : Nat) (hn : n + 1 = Q.length) :
    gt (downL (n + 1) (swapL Q 0 n) 0 n) n = s ∧ HeapOf ((downL (n + 1) (swapL Q 0 n) 0 n).take n) S := by
  have h0 := heap_first h
  have hl : 0 < Q.length := by omega
  have key := fun k => gt_swap Q 0 n k hl (by omega)
  have hg : gt (downL (n + 1) (swapL Q 0 n) 0 n) n = s := by
    by_cases hn0 : n = 0
    · subst hn0
      rw [downL, if_pos (by omega), key 0, if_pos rfl, h0]
    · rw [downL_gt _ _ _ _ _ (by rw [swapL_len]; omega) (by omega) (Nat.le_refl _), key n, if_pos rfl, h0]
  have hp : (downL (n + 1) (swapL Q 0 n) 0 n).Perm Q := (downL_perm _ _ _ _ (by rw [swapL_len]; omega) (by rw [swapL_len]; omega)).trans (swapL_perm Q 0 n hl (by omega))
  have hlen : (downL (n + 1) (swapL Q 0 n) 0 n).length = n + 1 := by rw [downL_len, swapL_len]; omega
  have hH : HeapN (downL (n + 1) (swapL Q 0 n) 0 n) n := by
    refine down_heap _ _ _ _ (by omega) (by rw [swapL_len]; omega) (by rw [swapL_len]; omega) ?_ (fun h => by omega)
    intro k h1 h2 h3
    rw [key k, key ((k - 1) / 2), if_neg (by omega), if_neg (by omega), if_neg (by omega), if_neg h3]
    exact h.heap k h1 (by omega)
  generalize downL (n + 1) (swapL Q 0 n) 0 n = D at *
  refine ⟨hg, ?_, ?_, (List.pairwise_cons.1 h.sort).2⟩
  · intro i h1 h2
    have h3 : i < n := by rw [List.length_take] at h2; omega
    rw [take_gt h3, take_gt (by omega)]
    exact hH i h1 h3
  · have e : D = D.take n ++ [s] := by
      have hD : D[n]'(by omega) = s := by rw [← hg]; simp [gt, List.getD, hlen]
      have := List.take_append_getElem (l := D) (i := n) (h := by omega)
      rw [hD] at this
      rw [this, List.take_of_length_le (by omega)]
    have h5 : (D.take n ++ [s]).Perm (s :: S) := by rw [← e]; exact hp.trans h.perm
    exact (List.Perm.cons_inv (a := s) ((List.perm_append_comm (l₁ := [s])).trans h5))
end Go.Proofs.Ytmokpnkpfodppaa
