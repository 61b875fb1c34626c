/-
Systems: how they read, and when they are valid.
When a graph of a system, and a system, is valid.
The sum of a row, and whether it holds; the numbers below another one.
-/
import Derived.Test.YtlbhidiliogflaaGreatIB
import Derived.Deep.LoopGhost
import Derived.Test.YtlbhidiliogflaaGreatKB
namespace Go.Proofs.YtlbhidiliogflaaGreat
set_option linter.unusedSimpArgs false
set_option linter.unusedVariables false
open Go.RowKit

structure Gr where
  first : Int
  size : Int
  least : List Int
structure Sys where
  box : List Rng
  rows : List Row
  graphs : List Gr
  cases : List (List Row)
def rdGr : Rd Gr := fun w cs g => ∃ v, cs = [.int .i64 g.first, .int .i64 g.size, v] ∧ Ints w v g.least
theorem rdGr_stable : Stable rdGr := fun _ _ _ _ hb ⟨v, h1, h2⟩ => ⟨v, h1, h2.keep (pl_stable _) hb⟩
abbrev GrsL := Sl rdGr 3
def rdRows : Rd (List Row) := fun w cs l => ∃ v, cs = [v] ∧ RowsL w v l
theorem rdRows_stable : Stable rdRows := fun _ _ _ _ hb ⟨v, h1, h2⟩ => ⟨v, h1, h2.keep rdRow_stable hb⟩
abbrev CasesL := Sl rdRows 1
theorem Sl.gr {w : World} {A : Option Addr} {n c : Nat} {l : List Gr} (h : GrsL w (.slice A n c) l) {k : Nat} (hk : k < l.length) :
    ∃ b o A' c', A = some ⟨b, o, none⟩ ∧ b < w.heap.size ∧ w.cell? ⟨b, o + k * 3, none⟩ = some (.int .i64 l[k].first) ∧ w.cell? ⟨b, o + k * 3 + 1, none⟩ = some (.int .i64 l[k].size) ∧
      w.cell? ⟨b, o + k * 3 + 2, none⟩ = some (.slice A' l[k].least.length c') ∧ Ints w (.slice A' l[k].least.length c') l[k].least := by
  obtain ⟨b, o, cs, hA, had, hcs, hc, v, rfl, ht⟩ := h.at_ hk
  obtain ⟨A', c', rfl, -, -⟩ := ht.form
  exact ⟨b, o, A', c', hA, had, hc 0 _ rfl, hc 1 _ rfl, hc 2 _ rfl, ht⟩
theorem Sl.rowsAt {w : World} {A : Option Addr} {n c : Nat} {l : List (List Row)} (h : CasesL w (.slice A n c) l) {k : Nat} (hk : k < l.length) :
    ∃ b o A' c', A = some ⟨b, o, none⟩ ∧ b < w.heap.size ∧ w.cell? ⟨b, o + k, none⟩ = some (.slice A' l[k].length c') ∧ RowsL w (.slice A' l[k].length c') l[k] := by
  obtain ⟨b, o, cs, hA, had, hcs, hc, v, rfl, ht⟩ := h.at_ hk
  obtain ⟨A', c', rfl, -, -⟩ := ht.form
  exact ⟨b, o, A', c', hA, had, by simpa using hc 0 _ rfl, ht⟩
/-- a system's value -/
def SysV (w : World) (v : Value) (s : Sys) : Prop := ∃ Ab cb Ar cr Ag cg Ac cc, v = .agg #[.slice Ab s.box.length cb, .slice Ar s.rows.length cr, .slice Ag s.graphs.length cg, .slice Ac s.cases.length cc] ∧
  Rngs w (.slice Ab s.box.length cb) s.box ∧ RowsL w (.slice Ar s.rows.length cr) s.rows ∧ GrsL w (.slice Ag s.graphs.length cg) s.graphs ∧ CasesL w (.slice Ac s.cases.length cc) s.cases
theorem SysV.keep {w w' : World} {v : Value} {s : Sys} (h : SysV w v s) (hk : Kp w w') : SysV w' v s := by
  obtain ⟨Ab, cb, Ar, cr, Ag, cg, Ac, cc, h0, h1, h2, h3, h4⟩ := h
  exact ⟨Ab, cb, Ar, cr, Ag, cg, Ac, cc, h0, h1.keep (pl_stable _) hk, h2.keep rdRow_stable hk, h3.keep rdGr_stable hk, h4.keep rdRows_stable hk⟩

set_option maxHeartbeats 400000 in
theorem IndexFuncI_any (p : Int → Bool) (F : FuncId) (cap : List Value) (v : Value) (l : List Int) (w : World) (hS : Ints w v l) (hr : Real Tryz.prog F)
    (hf : ∀ (w' : World) (r : Int), Kp w w' →  Calls Tryz.prog F (.int .i64 r :: cap).toArray w' fun e w'' => e = .returned (.bool (p r)) ∧ Kp w' w'') :
    Calls Tryz.prog 80 #[v, .func (.func F) #[] cap.toArray] w fun e w' => e = .returned (.int .i64 (idxF p 0 l)) ∧ Kp w w' := by
  have HC := hid hf
  clear hf
  have hcf := fun args w => hr.run args w
  obtain ⟨A, c, rfl, hc, hm⟩ := hS.form
  go_enter Tryz.func80, Tryz.ntmps80
  go_wp2
  go_loopw [8] (fun i wr => ∃ k : Nat, k ≤ l.length ∧ i = .int .i64 k ∧ Hid (idxF p 0 l = idxF p k (l.drop k)) ∧ Kp w wr) (fun i _ => l.length - (intOf i).toNat)
  case atStart => exact ⟨0, Nat.zero_le _, rfl, rfl, Kp.refl _⟩
  case round =>
    obtain ⟨k, hk, rfl, HB, hbel⟩ := hrel
    by_cases hlt : k < l.length
    · obtain ⟨b, o, rfl, hb, h1⟩ := (hS.keep (pl_stable _) hbel).ints hlt
      have HD := hid (List.drop_eq_getElem_cons hlt)
      generalize l[k] = r at *
      obtain r := r
      clear hS
      try dsimp only at *
      by_cases hp : p r = true
      · have HF : Hid (idxF p 0 l = k) := hid (by rw [HB.out, HD.out, idxF, if_pos hp])
        have HP := hid hp
        clear hp
        go_wp2_with fail
        refine (HC.out wr r hbel).mono ?_
        rintro e w1 ⟨rfl, hk1⟩
        have hbel1 := hbel.trans hk1
        rw [HP.out]
        go_wp2
        go_ret
        exact ⟨ret_int HF.out.symm, (by repeat (first | assumption | exact Kp.refl _ | apply Kp.alloc | apply Kp.drew | apply Kp.drewN))⟩
      · have HF : Hid (idxF p 0 l = idxF p (k + 1) (l.drop (k + 1))) := hid (by rw [HB.out, HD.out, idxF, if_neg hp])
        have HP := hid (show p r = false by simpa using hp)
        clear hp
        go_wp2_with fail
        refine (HC.out wr r hbel).mono ?_
        rintro e w1 ⟨rfl, hk1⟩
        have hbel1 := hbel.trans hk1
        rw [HP.out]
        go_wp2
        go_roundw
        case rel => exact ⟨k + 1, by omega, by go_num, HF, (by repeat (first | assumption | exact Kp.refl _ | apply Kp.alloc | apply Kp.drew | apply Kp.drewN))⟩
        case measure => simp [intOf]; omega
    · have HF : Hid (idxF p 0 l = -1) := hid (by rw [HB.out, List.drop_of_length_le (by omega)]; rfl)
      go_wp2
      go_ret
      exact ⟨ret_int HF.out.symm, (by repeat (first | assumption | exact Kp.refl _ | apply Kp.alloc | apply Kp.drew | apply Kp.drewN))⟩
set_option maxHeartbeats 400000 in
theorem ContainsFuncI_any (p : Int → Bool) (F : FuncId) (cap : List Value) (v : Value) (l : List Int) (w : World) (hS : Ints w v l) (hr : Real Tryz.prog F)
    (hf : ∀ (w' : World) (r : Int), Kp w w' →  Calls Tryz.prog F (.int .i64 r :: cap).toArray w' fun e w'' => e = .returned (.bool (p r)) ∧ Kp w' w'') :
    Calls Tryz.prog 66 #[v, .func (.func F) #[] cap.toArray] w fun e w' => e = .returned (.bool (l.any p)) ∧ Kp w w' := by
  have HC := hid hf
  clear hf
  rw [← idxF_any p 0 l]
  generalize hi : idxF p 0 l = i
  have HI := hid hi
  clear hi
  obtain ⟨A, c, rfl, hc, hm⟩ := hS.form
  go_enter Tryz.func66, Tryz.ntmps66
  go_wp2_with fail
  refine (IndexFuncI_any p F cap _ l _ hS hr HC.out).mono ?_
  rintro e w1 ⟨rfl, hk1⟩
  rw [HI.out]
  go_wp2
  go_ret
  exact ⟨rfl, (by repeat (first | assumption | exact Kp.refl _ | apply Kp.alloc | apply Kp.drew | apply Kp.drewN))⟩
set_option maxHeartbeats 400000 in
theorem IndexFuncRows_any (p : (List Row) → Bool) (F : FuncId) (cap : List Value) (v : Value) (l : List (List Row)) (w : World) (hS : CasesL w v l) (hr : Real Tryz.prog F)
    (hf : ∀ (w' : World) (A' : Option Addr) (c' : Nat) (r : List Row), Kp w w' → RowsL w' (.slice A' r.length c') r → Calls Tryz.prog F (.slice A' r.length c' :: cap).toArray w' fun e w'' => e = .returned (.bool (p r)) ∧ Kp w' w'') :
    Calls Tryz.prog 68 #[v, .func (.func F) #[] cap.toArray] w fun e w' => e = .returned (.int .i64 (idxF p 0 l)) ∧ Kp w w' := by
  have HC := hid hf
  clear hf
  have hcf := fun args w => hr.run args w
  obtain ⟨A, c, rfl, hc, hm⟩ := hS.form
  go_enter Tryz.func68, Tryz.ntmps68
  go_wp2
  go_loopw [8] (fun i wr => ∃ k : Nat, k ≤ l.length ∧ i = .int .i64 k ∧ Hid (idxF p 0 l = idxF p k (l.drop k)) ∧ Kp w wr) (fun i _ => l.length - (intOf i).toNat)
  case atStart => exact ⟨0, Nat.zero_le _, rfl, rfl, Kp.refl _⟩
  case round =>
    obtain ⟨k, hk, rfl, HB, hbel⟩ := hrel
    by_cases hlt : k < l.length
    · obtain ⟨b, o, A', c', rfl, hb, h1, ht⟩ := (hS.keep rdRows_stable hbel).rowsAt hlt
      have HD := hid (List.drop_eq_getElem_cons hlt)
      generalize l[k] = r at *
      obtain r := r
      clear hS
      try dsimp only at *
      by_cases hp : p r = true
      · have HF : Hid (idxF p 0 l = k) := hid (by rw [HB.out, HD.out, idxF, if_pos hp])
        have HP := hid hp
        clear hp
        go_wp2_with fail
        refine (HC.out wr A' c' r hbel ht).mono ?_
        rintro e w1 ⟨rfl, hk1⟩
        have hbel1 := hbel.trans hk1
        rw [HP.out]
        go_wp2
        go_ret
        exact ⟨ret_int HF.out.symm, (by repeat (first | assumption | exact Kp.refl _ | apply Kp.alloc | apply Kp.drew | apply Kp.drewN))⟩
      · have HF : Hid (idxF p 0 l = idxF p (k + 1) (l.drop (k + 1))) := hid (by rw [HB.out, HD.out, idxF, if_neg hp])
        have HP := hid (show p r = false by simpa using hp)
        clear hp
        go_wp2_with fail
        refine (HC.out wr A' c' r hbel ht).mono ?_
        rintro e w1 ⟨rfl, hk1⟩
        have hbel1 := hbel.trans hk1
        rw [HP.out]
        go_wp2
        go_roundw
        case rel => exact ⟨k + 1, by omega, by go_num, HF, (by repeat (first | assumption | exact Kp.refl _ | apply Kp.alloc | apply Kp.drew | apply Kp.drewN))⟩
        case measure => simp [intOf]; omega
    · have HF : Hid (idxF p 0 l = -1) := hid (by rw [HB.out, List.drop_of_length_le (by omega)]; rfl)
      go_wp2
      go_ret
      exact ⟨ret_int HF.out.symm, (by repeat (first | assumption | exact Kp.refl _ | apply Kp.alloc | apply Kp.drew | apply Kp.drewN))⟩
set_option maxHeartbeats 400000 in
theorem ContainsFuncRows_any (p : (List Row) → Bool) (F : FuncId) (cap : List Value) (v : Value) (l : List (List Row)) (w : World) (hS : CasesL w v l) (hr : Real Tryz.prog F)
    (hf : ∀ (w' : World) (A' : Option Addr) (c' : Nat) (r : List Row), Kp w w' → RowsL w' (.slice A' r.length c') r → Calls Tryz.prog F (.slice A' r.length c' :: cap).toArray w' fun e w'' => e = .returned (.bool (p r)) ∧ Kp w' w'') :
    Calls Tryz.prog 40 #[v, .func (.func F) #[] cap.toArray] w fun e w' => e = .returned (.bool (l.any p)) ∧ Kp w w' := by
  have HC := hid hf
  clear hf
  rw [← idxF_any p 0 l]
  generalize hi : idxF p 0 l = i
  have HI := hid hi
  clear hi
  obtain ⟨A, c, rfl, hc, hm⟩ := hS.form
  go_enter Tryz.func40, Tryz.ntmps40
  go_wp2_with fail
  refine (IndexFuncRows_any p F cap _ l _ hS hr HC.out).mono ?_
  rintro e w1 ⟨rfl, hk1⟩
  rw [HI.out]
  go_wp2
  go_ret
  exact ⟨rfl, (by repeat (first | assumption | exact Kp.refl _ | apply Kp.alloc | apply Kp.drew | apply Kp.drewN))⟩

/-! rows, graph -/
def rowsOk (b : List Rng) (l : List Row) (most : Int) : Bool := decide ((l.length : Int) ≤ most) && validB b l
set_option maxHeartbeats 1000000 in
theorem sRows_any (va vl : Value) (s : Sys) (l : List Row) (most : Int) (w : World) (hs : SysV w va s) (hl : RowsL w vl l) :
    Calls Tryz.prog 38 #[va, vl, .int .i64 most] w fun e w' => e = .returned (.bool (rowsOk s.box l most)) ∧ Kp w w' := by
  obtain ⟨Ab, cb, Ar, cr, Ag, cg, Ac, cc, rfl, hb, hr, hg, hc⟩ := hs
  obtain ⟨A, c, rfl, h1, h2⟩ := hl.form
  have k0 := (Kp.refl w).alloc (.cells #[.slice Ab s.box.length cb, .slice Ar s.rows.length cr, .slice Ag s.graphs.length cg, .slice Ac s.cases.length cc] 27)
  by_cases h : (l.length : Int) ≤ most
  · have HF : Hid (rowsOk s.box l most = validB s.box l) := hid (by simp [rowsOk, h])
    have e1 : decide ((l.length : Int) ≤ most) = true := decide_eq_true h
    go_enter Tryz.func38, Tryz.ntmps38
    go_wp2_with fail
    refine (Valid_any _ _ s.box l _ (hb.keep (pl_stable _) k0) (hl.keep rdRow_stable k0)).mono ?_
    rintro e w1 ⟨rfl, k1⟩
    generalize validB s.box l = x at *
    replace k1 := k0.trans k1
    go_wp2
    go_ret
    exact ⟨ret_bool HF.out.symm, k1⟩
  · have HF : Hid (rowsOk s.box l most = false) := hid (by simp [rowsOk, h])
    have e1 : decide ((l.length : Int) ≤ most) = false := decide_eq_false h
    go_enter Tryz.func38, Tryz.ntmps38
    go_wp2
    go_ret
    exact ⟨ret_bool HF.out.symm, k0⟩
def farI (x : Int) : Bool := decide (x < -4000000) || decide (4000000 < x)
theorem sGraph1_any (x : Int) (w : World) : Calls Tryz.prog 67 #[.int .i64 x] w fun e w' => e = .returned (.bool (farI x)) ∧ Kp w w' := by
  by_cases h1 : x < -4000000
  all_goals
    by_cases h2 : 4000000 < x
    all_goals
      have HF : Hid (farI x = (decide (x < -4000000) || decide (4000000 < x))) := hid rfl
      go_enter Tryz.func67, Tryz.ntmps67
      go_wp2
      go_ret
      exact ⟨ret_bool (by rw [HF.out]; simp <;> omega), Kp.refl _⟩
theorem sGraph1_real : Real Tryz.prog 67 := ⟨_, Tryz.func67, by kernel_rfl, by kernel_rfl⟩
theorem sLooked1_any (x : Int) (w : World) : Calls Tryz.prog 77 #[.int .i64 x] w fun e w' => e = .returned (.bool (farI x)) ∧ Kp w w' := by
  by_cases h1 : x < -4000000
  all_goals
    by_cases h2 : 4000000 < x
    all_goals
      have HF : Hid (farI x = (decide (x < -4000000) || decide (4000000 < x))) := hid rfl
      go_enter Tryz.func77, Tryz.ntmps77
      go_wp2
      go_ret
      exact ⟨ret_bool (by rw [HF.out]; simp <;> omega), Kp.refl _⟩
theorem sLooked1_real : Real Tryz.prog 77 := ⟨_, Tryz.func77, by kernel_rfl, by kernel_rfl⟩
end Go.Proofs.YtlbhidiliogflaaGreat
namespace Go.Proofs.YtlbhidiliogflaaGreat
set_option linter.unusedSimpArgs false
set_option linter.unusedVariables false
open Go.RowKit

theorem Sl.caps {α : Type} {R : Rd α} {size : Nat} {w : World} {A : Option Addr} {n c : Nat} {l : List α} (h : Sl R size w (.slice A n c) l) : l.length ≤ c ∧ c ≤ 9223372036854775807 := by
  obtain ⟨A', c', he, h1, h2⟩ := h.form
  injection he with _ _ he
  subst he
  exact ⟨h1, h2⟩
def GrV (w : World) (v : Value) (g : Gr) : Prop := ∃ A c, v = .agg #[.int .i64 g.first, .int .i64 g.size, .slice A g.least.length c] ∧ Ints w (.slice A g.least.length c) g.least
def grOk (n : Nat) (g : Gr) : Bool := decide (1 ≤ g.size ∧ g.size ≤ 6 ∧ 0 ≤ g.first ∧ g.first ≤ n - g.size * g.size ∧ (g.least.length : Int) = g.size * g.size) && !g.least.any farI
theorem sq_bd {s : Int} (h1 : 1 ≤ s) (h2 : s ≤ 6) : 1 ≤ s * s ∧ s * s ≤ 36 := by
  have h3 : s = 1 ∨ s = 2 ∨ s = 3 ∨ s = 4 ∨ s = 5 ∨ s = 6 := by omega
  rcases h3 with rfl | rfl | rfl | rfl | rfl | rfl <;> omega
set_option maxRecDepth 8000 in
set_option maxHeartbeats 2000000 in
theorem sGraph_any (n : Nat) (va : Value) (g : Gr) (w : World) (hn : n ≤ 1000000) (hg : GrV w va g) :
    Calls Tryz.prog 39 #[.int .i64 (n : Int), va] w fun e w' => e = .returned (.bool (grOk n g)) ∧ Kp w w' := by
  obtain ⟨A, c, rfl, hl⟩ := hg
  obtain ⟨fi, sz, le⟩ := g
  dsimp only at *
  obtain ⟨hc, hm⟩ := hl.caps
  by_cases c1 : sz < 1
  · have e1 : decide (sz < 1) = true := decide_eq_true c1
    have HF : Hid (grOk n ⟨fi, sz, le⟩ = false) := hid (by
      unfold grOk
      dsimp only
      rw [decide_eq_false (by omega)]
      rfl)
    go_enter Tryz.func39, Tryz.ntmps39
    go_wp2
    go_ret
    exact ⟨ret_bool HF.out.symm, (Kp.refl w).alloc _⟩
  have e1 : decide (sz < 1) = false := decide_eq_false c1
  by_cases c2 : 6 < sz
  · have e2 : decide (6 < sz) = true := decide_eq_true c2
    have HF : Hid (grOk n ⟨fi, sz, le⟩ = false) := hid (by
      unfold grOk
      dsimp only
      rw [decide_eq_false (by omega)]
      rfl)
    go_enter Tryz.func39, Tryz.ntmps39
    go_wp2
    go_ret
    exact ⟨ret_bool HF.out.symm, (Kp.refl w).alloc _⟩
  have e2 : decide (6 < sz) = false := decide_eq_false c2
  by_cases c3 : fi < 0
  · have e3 : decide (fi < 0) = true := decide_eq_true c3
    have HF : Hid (grOk n ⟨fi, sz, le⟩ = false) := hid (by
      unfold grOk
      dsimp only
      rw [decide_eq_false (by omega)]
      rfl)
    go_enter Tryz.func39, Tryz.ntmps39
    go_wp2
    go_ret
    exact ⟨ret_bool HF.out.symm, (Kp.refl w).alloc _⟩
  have e3 : decide (fi < 0) = false := decide_eq_false c3
  obtain ⟨b1, b2⟩ := sq_bd (s := sz) (by omega) (by omega)
  have w1 : wrap64 (sz * sz) = sz * sz := IntWalk.wrap64_in _ (by omega)
  have w2 : IntKind.i64.wrap (sz * sz) = sz * sz := IntWalk.i64_in _ (by omega)
  by_cases c4 : n - sz * sz < fi
  · have e4 : decide (n - sz * sz < fi) = true := decide_eq_true c4
    have HF : Hid (grOk n ⟨fi, sz, le⟩ = false) := hid (by
      unfold grOk
      dsimp only
      rw [decide_eq_false (by omega)]
      rfl)
    go_enter Tryz.func39, Tryz.ntmps39
    go_wp2
    go_ret
    exact ⟨ret_bool HF.out.symm, (Kp.refl w).alloc _⟩
  have e4 : decide (n - sz * sz < fi) = false := decide_eq_false c4
  by_cases c5 : (le.length : Int) = sz * sz
  · have e5 : ((le.length : Int) != sz * sz) = false := by simpa using c5
    have e6 : ((le.length : Int) == sz * sz) = true := by simpa using c5
    have HF : Hid (grOk n ⟨fi, sz, le⟩ = !le.any farI) := hid (by
      unfold grOk
      dsimp only
      rw [decide_eq_true (by omega)]
      rfl)
    have k0 := (Kp.refl w).alloc (.cells #[.int .i64 fi, .int .i64 sz, .slice A le.length c] 83)
    clear c5
    go_enter Tryz.func39, Tryz.ntmps39
    go_wp2_with fail
    refine (ContainsFuncI_any farI 67 [] _ le _ (hl.keep (pl_stable _) k0) sGraph1_real (fun w' r _ => sGraph1_any r w')).mono ?_
    rintro e w3 ⟨rfl, k3⟩
    replace k3 := k0.trans k3
    generalize le.any farI = x at *
    go_wp2
    go_ret
    exact ⟨ret_bool HF.out.symm, k3⟩
  · have e5 : ((le.length : Int) != sz * sz) = true := by simpa using c5
    have e6 : ((le.length : Int) == sz * sz) = false := by simpa using c5
    have HF : Hid (grOk n ⟨fi, sz, le⟩ = false) := hid (by
      unfold grOk
      dsimp only
      rw [decide_eq_false (by omega)]
      rfl)
    go_enter Tryz.func39, Tryz.ntmps39
    go_wp2
    go_ret
    exact ⟨ret_bool HF.out.symm, (Kp.refl w).alloc _⟩
/-- which systems are valid -/
def validS (s : Sys) : Bool := (((((boxB s.box && !s.box.any emptyR) && rowsOk s.box s.rows 1024) && decide (s.graphs.length ≤ 64)) && decide (s.cases.length ≤ 1024)) && s.graphs.all (grOk s.box.length)) && !s.cases.any (fun l => !rowsOk s.box l 64)
/-- the cells of a system that lies in a block -/
def SysB (w : World) (g : Nat) (v : Value) : Prop := ∀ cs : Array Value, v = .agg cs → ∀ j u, cs[j]? = some u → w.cell? ⟨g, j, none⟩ = some u
theorem SysB.keep {w w' : World} {g : Nat} {v : Value} (h : SysB w g v) (hk : Kp w w') : SysB w' g v := fun cs hv j u hu => hk.cellS (h cs hv j u hu)
theorem SysB.new (w : World) (cs : Array Value) (t : TypeId) : SysB (w.alloc (.cells cs t)) w.heap.size (.agg cs) := fun cs' hv j u hu => by
  injection hv with hv
  subst hv
  exact alloc_cell w _ t j hu
theorem SysB.cells {w : World} {g : Nat} {a b c d : Value} (h : SysB w g (.agg #[a, b, c, d])) : w.cell? ⟨g, 0, none⟩ = some a ∧ w.cell? ⟨g, 1, none⟩ = some b ∧ w.cell? ⟨g, 2, none⟩ = some c ∧ w.cell? ⟨g, 3, none⟩ = some d :=
  ⟨h _ rfl 0 _ rfl, h _ rfl 1 _ rfl, h _ rfl 2 _ rfl, h _ rfl 3 _ rfl⟩
theorem sValid1_any (g : Nat) (va vl : Value) (s : Sys) (l : List Row) (w : World) (hs : SysV w va s) (hl : RowsL w vl l) (hg : SysB w g va) :
    Calls Tryz.prog 41 #[vl, .pointer (some ⟨g, 0, none⟩)] w fun e w' => e = .returned (.bool (!rowsOk s.box l 64)) ∧ Kp w w' := by
  have hs' := hs
  obtain ⟨Ab, cb, Ar, cr, Ag, cg, Ac, cc, rfl, hb, hr, hgg, hcc⟩ := hs'
  obtain ⟨A, c, rfl, h1, h2⟩ := hl.form
  obtain ⟨c0, c1, c2, c3⟩ := hg.cells
  have hgl := block_lt_of_cell c0
  clear hg
  go_enter Tryz.func41, Tryz.ntmps41
  go_wp2_with fail
  refine (sRows_any _ _ s l 64 w hs hl).mono ?_
  rintro e w1 ⟨rfl, k1⟩
  generalize hx : rowsOk s.box l 64 = x
  have Hx := hid hx
  clear hx
  go_wp2
  go_ret
  exact ⟨ret_bool (by rw [Hx.out]), k1⟩
theorem sValid1_real : Real Tryz.prog 41 := ⟨_, Tryz.func41, by kernel_rfl, by kernel_rfl⟩
set_option maxRecDepth 8000 in
set_option maxHeartbeats 4000000 in
theorem sValid_any (va : Value) (s : Sys) (w : World) (hs : SysV w va s) :
    Calls Tryz.prog 17 #[va] w fun e w' => e = .returned (.bool (validS s)) ∧ Kp w w' := by
  have hs' := hs
  obtain ⟨Ab, cb, Ar, cr, Ag, cg, Ac, cc, rfl, hb, hr, hg, hc⟩ := hs'
  obtain ⟨l1, m1⟩ := hb.caps
  obtain ⟨l2, m2⟩ := hr.caps
  obtain ⟨l3, m3⟩ := hg.caps
  obtain ⟨l4, m4⟩ := hc.caps
  have k0 := (Kp.refl w).alloc (.cells #[.slice Ab s.box.length cb, .slice Ar s.rows.length cr, .slice Ag s.graphs.length cg, .slice Ac s.cases.length cc] 27)
  have B0 := SysB.new w #[.slice Ab s.box.length cb, .slice Ar s.rows.length cr, .slice Ag s.graphs.length cg, .slice Ac s.cases.length cc] 27
  have z0 := alloc_lt w (.cells #[.slice Ab s.box.length cb, .slice Ar s.rows.length cr, .slice Ag s.graphs.length cg, .slice Ac s.cases.length cc] 27)
  go_enter Tryz.func17, Tryz.ntmps17
  go_wp2_with fail
  try rw [← World.size_alloc w (.cells #[.slice Ab s.box.length cb, .slice Ar s.rows.length cr, .slice Ag s.graphs.length cg, .slice Ac s.cases.length cc] 27)]
  generalize w.alloc (.cells #[.slice Ab s.box.length cb, .slice Ar s.rows.length cr, .slice Ag s.graphs.length cg, .slice Ac s.cases.length cc] 27) = w0 at *
  generalize w.heap.size = b0 at *
  refine (Valid_any _ _ s.box [] _ (hb.keep (pl_stable _) k0) (Sl.nil _ _ _)).mono ?_
  rintro e w1 ⟨rfl, k1⟩
  replace B0 := B0.keep k1
  replace k1 := k0.trans k1
  obtain ⟨c0, c1, c2, c3⟩ := B0.cells
  have hgl := block_lt_of_cell c0
  cases hV : validB s.box [] with
  | false =>
    have hV' : boxB s.box = false := by simpa [validB] using hV
    clear hV
    have HF : Hid (validS s = false) := hid (by unfold validS; rw [hV']; simp)
    go_wp2
    go_ret
    exact ⟨ret_bool HF.out.symm, k1⟩
  | true =>
    have hV' : boxB s.box = true := by simpa [validB] using hV
    clear hV
    replace hV' := hid hV'
    go_wp2_with fail
    refine (Empty_any _ s.box _ (hb.keep (pl_stable _) k1)).mono ?_
    rintro e w2 ⟨rfl, k2⟩
    replace B0 := B0.keep k2
    replace k2 := k1.trans k2
    clear c0 c1 c2 c3 hgl k1
    obtain ⟨c0, c1, c2, c3⟩ := B0.cells
    have hgl := block_lt_of_cell c0
    cases hE : s.box.any emptyR with
    | true =>
      have HF : Hid (validS s = false) := hid (by unfold validS; rw [hE]; simp)
      go_wp2
      go_ret
      exact ⟨ret_bool HF.out.symm, k2⟩
    | false =>
      replace hE := hid hE
      go_wp2_with fail
      refine (sRows_any _ _ s s.rows 1024 _ (hs.keep k2) (hr.keep rdRow_stable k2)).mono ?_
      rintro e w3 ⟨rfl, k3⟩
      replace B0 := B0.keep k3
      replace k3 := k2.trans k3
      clear c0 c1 c2 c3 hgl k2
      obtain ⟨c0, c1, c2, c3⟩ := B0.cells
      have hgl := block_lt_of_cell c0
      cases hR : rowsOk s.box s.rows 1024 with
      | false =>
        have HF : Hid (validS s = false) := hid (by unfold validS; rw [hR]; simp)
        go_wp2
        go_ret
        exact ⟨ret_bool HF.out.symm, k3⟩
      | true =>
        replace hR := hid hR
        by_cases h5 : 64 < s.graphs.length
        · have e5 : decide ((64 : Int) < (s.graphs.length : Int)) = true := decide_eq_true (by omega)
          have hG : decide (s.graphs.length ≤ 64) = false := decide_eq_false (by omega)
          replace hG := hid hG
          have HF : Hid (validS s = false) := hid (by unfold validS; rw [hG.out]; simp)
          go_wp2
          go_ret
          exact ⟨ret_bool HF.out.symm, k3⟩
        have e5 : decide ((64 : Int) < (s.graphs.length : Int)) = false := decide_eq_false (by omega)
        have hG : Hid (decide (s.graphs.length ≤ 64) = true) := hid (decide_eq_true (by omega))
        by_cases h6 : 1024 < s.cases.length
        · have e6 : decide ((1024 : Int) < (s.cases.length : Int)) = true := decide_eq_true (by omega)
          have hC : Hid (decide (s.cases.length ≤ 1024) = false) := hid (decide_eq_false (by omega))
          have HF : Hid (validS s = false) := hid (by unfold validS; rw [hC.out]; simp)
          go_wp2
          go_ret
          exact ⟨ret_bool HF.out.symm, k3⟩
        have e6 : decide ((1024 : Int) < (s.cases.length : Int)) = false := decide_eq_false (by omega)
        have hC : Hid (decide (s.cases.length ≤ 1024) = true) := hid (decide_eq_true (by omega))
        have hlb : s.box.length ≤ 128 := by
          have := hV'.out
          unfold boxB at this
          simp only [Bool.and_eq_true, decide_eq_true_eq] at this
          exact this.2
        have HV : Hid (validS s = (s.graphs.all (grOk s.box.length) && !s.cases.any (fun l => !rowsOk s.box l 64))) := hid (by
          unfold validS
          rw [hV'.out, hE.out, hR.out, hG.out, hC.out]
          rfl)
        clear hV' hE hR hG hC
        go_wp2
        go_loopw [36] (fun i wr => ∃ k : Nat, k ≤ s.graphs.length ∧ i = .int .i64 k ∧ Hid (s.graphs.all (grOk s.box.length) = (s.graphs.drop k).all (grOk s.box.length)) ∧ Kp w3 wr) (fun i _ => s.graphs.length - (intOf i).toNat)
        case atStart => exact ⟨0, Nat.zero_le _, rfl, rfl, Kp.refl _⟩
        case round =>
          obtain ⟨k, hk, rfl, HB, hkr⟩ := hrel
          replace B0 := B0.keep hkr
          have kk := k3.trans hkr
          clear c0 c1 c2 c3 hgl k3 e5 e6
          obtain ⟨c0, c1, c2, c3⟩ := B0.cells
          have hgl := block_lt_of_cell c0
          have hs2 := hs.keep kk
          by_cases hlt : k < s.graphs.length
          · have hg2 := hg.keep rdGr_stable kk
            obtain ⟨b, o, A', c', rfl, hb', h1, h2, h3, h4⟩ := hg2.gr hlt
            have HD := hid (List.drop_eq_getElem_cons hlt)
            generalize s.graphs[k] = g at *
            obtain ⟨fi, sz, le⟩ := g
            dsimp only at h1 h2 h3 h4
            clear hs hs2 hb hr hg hg2 hc
            go_wp2_with fail
            refine (sGraph_any s.box.length _ ⟨fi, sz, le⟩ _ (by omega) ⟨_, _, rfl, h4.keep (pl_stable _) ((Kp.refl wr).alloc _)⟩).mono ?_
            rintro e w4 ⟨rfl, k4⟩
            replace k4 := ((Kp.refl wr).alloc _).trans k4
            cases hG : grOk s.box.length ⟨fi, sz, le⟩ with
            | true =>
              have HF : Hid (s.graphs.all (grOk s.box.length) = (s.graphs.drop (k + 1)).all (grOk s.box.length)) := hid (by rw [HB.out, HD.out, List.all_cons, hG]; rfl)
              clear hG
              go_wp2
              go_roundw
              case rel => exact ⟨k + 1, by omega, by go_num, HF, hkr.trans k4⟩
              case measure => simp [intOf]; omega
            | false =>
              have HF : Hid (validS s = false) := hid (by rw [HV.out, HB.out, HD.out, List.all_cons, hG]; rfl)
              clear hG
              go_wp2
              go_ret
              exact ⟨ret_bool HF.out.symm, kk.trans k4⟩
          · have HF : Hid (validS s = !s.cases.any (fun l => !rowsOk s.box l 64)) := hid (by rw [HV.out, HB.out, List.drop_of_length_le (by omega)]; simp)
            clear HV HB
            go_wp2_with fail
            refine (ContainsFuncRows_any (fun l => !rowsOk s.box l 64) 41 [.pointer (some ⟨b0, 0, none⟩)] _ s.cases _ (hc.keep rdRows_stable kk) sValid1_real (fun w' A1 c1 r hk hT => sValid1_any b0 _ _ s r w' (hs2.keep hk) hT (B0.keep hk))).mono ?_
            rintro e w4 ⟨rfl, k4⟩
            generalize hx : s.cases.any (fun l => !rowsOk s.box l 64) = x
            have Hx := hid hx
            clear hx
            go_wp2
            go_ret
            exact ⟨ret_bool (by rw [HF.out, Hx.out]), kk.trans k4⟩
end Go.Proofs.YtlbhidiliogflaaGreat
namespace Go.Proofs.YtlbhidiliogflaaGreat
set_option linter.unusedSimpArgs false
set_option linter.unusedVariables false
open Go.RowKit

set_option maxHeartbeats 1000000 in
theorem sValue_any (vt vv : Value) (ts : List Term) (bd : Int) (vs : List Int) (w : World) (ht : Terms w vt ts) (hv : Ints w vv vs)
    (hok : ∀ t ∈ ts, okT vs.length t) (hvs : okV vs) (hl : ts.length ≤ 128) :
    Calls Tryz.prog 97 #[.agg #[vt, .int .i64 bd], vv] w fun e w' => e = .returned (.int .i64 (valueL vs 0 ts)) ∧ Kp w w' := by
  obtain ⟨A, c, rfl, hc, hm⟩ := ht.form
  obtain ⟨A', c', rfl, hc', hm'⟩ := hv.form
  have HOK := hid hok
  have HVS := hid hvs
  clear hok hvs
  go_enter Tryz.func97, Tryz.ntmps97
  go_wp2
  have hk0 := (Kp.refl w).alloc (.cells #[.slice A ts.length c, .int .i64 bd] 51)
  generalize w.alloc (.cells #[.slice A ts.length c, .int .i64 bd] 51) = w0 at *
  go_loopw [5, 11] (fun z i wr => ∃ (k : Nat) (n : Int), k ≤ ts.length ∧ i = .int .i64 k ∧ -1000000000 * (k : Int) ≤ n ∧ n ≤ 1000000000 * (k : Int) ∧ z = .int .i64 n ∧ Hid (valueL vs 0 ts = valueL vs n (ts.drop k)) ∧ Kp w0 wr) (fun _ i _ => ts.length - (intOf i).toNat)
  case atStart => exact ⟨0, 0, Nat.zero_le _, rfl, by omega, by omega, rfl, rfl, Kp.refl _⟩
  case round =>
    obtain ⟨k, n, hk, rfl, hn1, hn2, rfl, HL, hbel⟩ := hrel
    have hbel' := hk0.trans hbel
    by_cases hlt : k < ts.length
    · obtain ⟨g, o, rfl, hg, h1', h2'⟩ := ht.term hlt
      have h1 := hbel'.cellS h1'
      have h2 := hbel'.cellS h2'
      have HD := hid (List.drop_eq_getElem_cons hlt)
      obtain ⟨o1, o2, o3, o4⟩ := HOK.out ts[k] (List.getElem_mem hlt)
      clear h1' h2' ht
      generalize ts[k] = t at *
      obtain ⟨ce, fa⟩ := t
      dsimp only at h1 h2 o1 o2 o3 o4
      obtain ⟨j, rfl⟩ := Int.eq_ofNat_of_zero_le o1
      have hj : j < vs.length := by omega
      obtain ⟨g', o', rfl, hg', h3'⟩ := hv.ints hj
      have h3 := hbel'.cellS h3'
      obtain ⟨g1, g2⟩ := HVS.out vs[j] (List.getElem_mem hj)
      have HP : Hid (vs.getD ((j : Int)).toNat 0 = vs[j]) := hid (by simp [List.getD, hj])
      clear hv h3'
      generalize vs[j] = x at *
      obtain ⟨p1, p2⟩ := mul_bd fa x o3 o4 g1 g2
      have HW1 : wrap64 (fa * x) = fa * x := IntWalk.wrap64_in _ (by omega)
      have HW2 : IntKind.i64.wrap (fa * x) = fa * x := IntWalk.i64_in _ (by omega)
      have HW3 : IntKind.i64.wrap (n + fa * x) = n + fa * x := IntWalk.i64_in _ (by omega)
      have hgw : g < wr.heap.size := block_lt_of_cell h1
      have hgw' : g' < wr.heap.size := block_lt_of_cell h3
      have q1 : (0 : Int) ≤ k := by omega
      have q2 : (k : Int) < ts.length := by omega
      have HF : Hid (valueL vs 0 ts = valueL vs (n + fa * x) (ts.drop (k + 1))) := hid (by rw [HL.out, HD.out, valueL]; dsimp only; rw [HP.out])
      go_wp2
      go_quiet (fail)
      go_wp2
      go_roundw
      case rel => exact ⟨k + 1, _, by omega, by go_num, by omega, by omega, rfl, HF, (hbel.alloc _).drewN _⟩
      case measure => simp [intOf]; omega
    · have HF : Hid (valueL vs 0 ts = n) := hid (by rw [HL.out, List.drop_of_length_le (by omega)]; rfl)
      go_wp2
      go_ret
      exact ⟨ret_int HF.out.symm, hbel'⟩
def holdsR (vs : List Int) (r : Row) : Bool := decide (valueL vs 0 r.terms ≤ r.bound)
set_option maxHeartbeats 1000000 in
theorem sHolds1_any (vt vv : Value) (ts : List Term) (bd : Int) (vs : List Int) (w : World) (ht : Terms w vt ts) (hv : Ints w vv vs)
    (hok : ∀ t ∈ ts, okT vs.length t) (hvs : okV vs) (hl : ts.length ≤ 128) :
    Calls Tryz.prog 86 #[.agg #[vt, .int .i64 bd], vv] w fun e w' => e = .returned (.bool (holdsR vs ⟨ts, bd⟩)) ∧ Kp w w' := by
  obtain ⟨A, c, rfl, hc, hm⟩ := ht.form
  obtain ⟨A', c', rfl, hc', hm'⟩ := hv.form
  have HOK := hid hok
  have HVS := hid hvs
  clear hok hvs
  have hk0 := (Kp.refl w).alloc (.cells #[.slice A ts.length c, .int .i64 bd] 51)
  have b0 := alloc_cell w #[.slice A ts.length c, .int .i64 bd] 51 0 rfl
  have b1 := alloc_cell w #[.slice A ts.length c, .int .i64 bd] 51 1 rfl
  have hlt0 := alloc_lt w (.cells #[.slice A ts.length c, .int .i64 bd] 51)
  have ht0 := ht.keep (pl_stable _) hk0
  have hv0 := hv.keep (pl_stable _) hk0
  have HF : Hid (holdsR vs ⟨ts, bd⟩ = decide (valueL vs 0 ts ≤ bd)) := hid rfl
  clear ht hv
  go_enter Tryz.func86, Tryz.ntmps86
  go_wp2
  generalize w.alloc (.cells #[.slice A ts.length c, .int .i64 bd] 51) = w0 at *
  generalize w.heap.size = bb at *
  have HC := hid (fun (W : World) (hW : Kp w0 W) => sValue_any _ _ ts bd vs W (ht0.keep (pl_stable _) hW) (hv0.keep (pl_stable _) hW) HOK.out HVS.out hl)
  generalize valueL vs 0 ts = V at *
  clear ht0 hv0
  refine wp_region_kw (by kernel_rfl) (by kernel_rfl) ?_
  repeat (go_big_quiet_step (((go_at_call 97; refine quiet_kw (HC.out _ (kw_kp _ _))))))
  refine wpQuiet_nil ?_
  intro _ hw'
  obtain ⟨u, hw''⟩ := hw'
  subst hw''
  go_wp2
  go_ret
  exact ⟨ret_bool HF.out.symm, hk0.trans (kw_kp _ _)⟩
/-- the numbers below another one -/
def numsL (n : Nat) : List Int := (List.range n).map fun k : Nat => (k : Int)
theorem numsL_len (n : Nat) : (numsL n).length = n := by simp [numsL]
theorem numsL_get (n k : Nat) (h : k < (numsL n).length) : (numsL n)[k] = (k : Int) := by simp [numsL]
end Go.Proofs.YtlbhidiliogflaaGreat
