
/-
The reader: a number, a bool, several numbers into the fields of a struct.
-/
import Derived.Test.YtmeafoakbkjifaaRdr1
namespace Go.Proofs.Ytmeafoakbkjifaa
set_option linter.unusedSimpArgs false
set_option linter.unusedVariables false
open Go.RowKit

set_option maxHeartbeats 1000000 in
theorem rdInteger_any (W0 : World) (g : Nat) (l : List Int) (bad : Bool) (w : World) (hr : Rdr W0 w g l bad) : Reads W0 g intP VI l bad 84 #[.pointer (some ⟨g, 0, none⟩)] w := by
  have hr0 := hr
  obtain ⟨v, h1, h2, h3, h4, h5⟩ := hr.cells
  have hg := hr.lt
  have hlo := hr.lo
  obtain ⟨A, c, rfl, hc, hm⟩ := h1.form
  cases l with
  | nil =>
    simp only [List.length_nil] at *
    have hb := hr0.bad true
    have hk : Kg w (w.setCell ⟨g, 1, none⟩ (.bool true)) g := (Kg.refl w g).set (.inl rfl) _
    go_enter Try.func84, Try.ntmps84
    go_wp2
    go_ret
    exact ⟨_, 0, [], true, rfl, Ow.pure rfl, by unfold SpecP intP; cases bad <;> simp, hb, hk⟩
  | cons n l =>
    obtain ⟨b, o, rfl, hb, hcell⟩ := h1.ints (k := 0) (by simp)
    have hcw := hr0.kp.cellS hcell
    have hbw := hr0.kp.size
    by_cases hc1 : c = 1
    · subst hc1
      obtain rfl : l = [] := by
        cases l with
        | nil => rfl
        | cons _ _ => simp at hc
      have hn : Ints W0 (.slice (some ⟨b, o, none⟩) 0 0) [] := ⟨_, 0, rfl, Nat.le_refl _, by omega, fun k hk => absurd hk (by simp)⟩
      have ht := hr0.row hn (by simp)
      have hk : Kg w (w.setCell ⟨g, 0, none⟩ (.slice (some ⟨b, o, none⟩) 0 0)) g := (Kg.refl w g).set (.inl rfl) _
      simp only [List.getElem_cons_zero, Nat.add_zero, List.length_cons, List.length_nil] at *
      go_enter Try.func84, Try.ntmps84
      go_wp2
      go_ret
      exact ⟨_, n, [], bad, rfl, Ow.pure rfl, by unfold SpecP intP; cases bad <;> simp, ht, hk⟩
    · have ht := hr0.row h1.tail (by simp)
      have hk : Kg w (w.setCell ⟨g, 0, none⟩ (.slice (some ⟨b, o + 1, none⟩) l.length (c - 1))) g := (Kg.refl w g).set (.inl rfl) _
      simp only [List.getElem_cons_zero, Nat.add_zero, List.length_cons] at *
      go_enter Try.func84, Try.ntmps84
      go_wp2
      go_ret
      exact ⟨_, n, l, bad, rfl, Ow.pure rfl, by unfold SpecP intP; cases bad <;> simp, ht, hk⟩
set_option maxHeartbeats 1000000 in
theorem rNext_any (W0 : World) (g : Nat) (l : List Int) (bad : Bool) (w : World) (hr : Rdr W0 w g l bad) : Reads W0 g intP VI l bad 101 #[.pointer (some ⟨g, 0, none⟩)] w := by
  have hr0 := hr
  obtain ⟨v, h1, h2, h3, h4, h5⟩ := hr.cells
  have hg := hr.lt
  have hlo := hr.lo
  obtain ⟨A, c, rfl, hc, hm⟩ := h1.form
  cases l with
  | nil =>
    simp only [List.length_nil] at *
    have hb := hr0.bad true
    have hk : Kg w (w.setCell ⟨g, 1, none⟩ (.bool true)) g := (Kg.refl w g).set (.inl rfl) _
    go_enter Try.func101, Try.ntmps101
    go_wp2
    go_ret
    exact ⟨_, 0, [], true, rfl, Ow.pure rfl, by unfold SpecP intP; cases bad <;> simp, hb, hk⟩
  | cons n l =>
    obtain ⟨b, o, rfl, hb, hcell⟩ := h1.ints (k := 0) (by simp)
    have hcw := hr0.kp.cellS hcell
    have hbw := hr0.kp.size
    by_cases hc1 : c = 1
    · subst hc1
      obtain rfl : l = [] := by
        cases l with
        | nil => rfl
        | cons _ _ => simp at hc
      have hn : Ints W0 (.slice (some ⟨b, o, none⟩) 0 0) [] := ⟨_, 0, rfl, Nat.le_refl _, by omega, fun k hk => absurd hk (by simp)⟩
      have ht := hr0.row hn (by simp)
      have hk : Kg w (w.setCell ⟨g, 0, none⟩ (.slice (some ⟨b, o, none⟩) 0 0)) g := (Kg.refl w g).set (.inl rfl) _
      simp only [List.getElem_cons_zero, Nat.add_zero, List.length_cons, List.length_nil] at *
      go_enter Try.func101, Try.ntmps101
      go_wp2
      go_ret
      exact ⟨_, n, [], bad, rfl, Ow.pure rfl, by unfold SpecP intP; cases bad <;> simp, ht, hk⟩
    · have ht := hr0.row h1.tail (by simp)
      have hk : Kg w (w.setCell ⟨g, 0, none⟩ (.slice (some ⟨b, o + 1, none⟩) l.length (c - 1))) g := (Kg.refl w g).set (.inl rfl) _
      simp only [List.getElem_cons_zero, Nat.add_zero, List.length_cons] at *
      go_enter Try.func101, Try.ntmps101
      go_wp2
      go_ret
      exact ⟨_, n, l, bad, rfl, Ow.pure rfl, by unfold SpecP intP; cases bad <;> simp, ht, hk⟩
theorem boolP_eq : boolP = bindP intP fun n => if n = 0 then retP false else if n = 1 then retP true else noP := by
  funext l
  cases l with
  | nil => rfl
  | cons n l =>
    unfold boolP bindP intP retP noP
    dsimp only
    split
    · rfl
    · split <;> rfl
theorem SpecP.no {α : Type} (x : α) (l l' : List Int) (b : Bool) : SpecP noP l b x l' true := by unfold SpecP noP; cases b <;> simp
theorem Kg.setg {w w' : World} {g : Nat} (h : Kg w w' g) (j : Nat) (u : Value) : Kg w (w'.setCell ⟨g, j, none⟩ u) g := h.set (.inl rfl) _
set_option maxHeartbeats 1000000 in
theorem rdTruth_any (W0 : World) (g : Nat) (l : List Int) (bad : Bool) (w : World) (hr : Rdr W0 w g l bad) : Reads W0 g boolP VB l bad 110 #[.pointer (some ⟨g, 0, none⟩)] w := by
  go_enter Try.func110, Try.ntmps110
  go_wp2_with fail
  refine (rdInteger_any W0 g l bad w hr).mono ?_
  rintro e w1 ⟨v, n, l1, b1, rfl, hv, hs, hr1, hk1⟩
  obtain rfl := hv.here
  clear hv hr
  obtain ⟨v1, h1, h2, h3, h4, h5⟩ := hr1.cells
  have hg := hr1.lt
  have hP := fun (x : Bool) (b2 : Bool) h => SpecP.of_eq boolP_eq (SpecP.bind (Q := fun n => if n = 0 then retP false else if n = 1 then retP true else noP) (y := x) (l2 := l1) (b2 := b2) hs h)
  have hQ := fun b2 => hr1.bad b2
  have hK := fun b2 => hk1.setg 1 (.bool b2)
  clear hs hk1
  by_cases h00 : n = 0
  · subst h00
    have hE := hid (hP false b1 (SpecP.ret false l1 b1))
    clear hP
    cases b1
    all_goals
      go_wp2
      go_ret
      exact ⟨_, false, l1, _, rfl, Ow.pure rfl, hE.out, hQ _, hK _⟩
  · by_cases h01 : n = 1
    · subst h01
      have hE := hid (hP true b1 (SpecP.ret true l1 b1))
      clear hP
      cases b1
      all_goals
        go_wp2
        go_ret
        exact ⟨_, true, l1, _, rfl, Ow.pure rfl, hE.out, hQ _, hK _⟩
    · have hE := hid (hP false true (by simp only [if_neg h00, if_neg h01]; exact SpecP.no _ _ _ _))
      clear hP
      have e0 : (n == 0) = false := by simpa using h00
      have e1 : (n == 1) = false := by simpa using h01
      have e2 : (n != 0) = true := by simpa using h00
      have e3 : (n != 1) = true := by simpa using h01
      cases b1
      all_goals
        go_wp2
        go_ret
        exact ⟨_, false, l1, _, rfl, Ow.pure rfl, hE.out, hQ _, hK _⟩
set_option maxHeartbeats 1000000 in
theorem rBool_any (W0 : World) (g : Nat) (l : List Int) (bad : Bool) (w : World) (hr : Rdr W0 w g l bad) : Reads W0 g boolP VB l bad 105 #[.pointer (some ⟨g, 0, none⟩)] w := by
  go_enter Try.func105, Try.ntmps105
  go_wp2_with fail
  refine (rNext_any W0 g l bad w hr).mono ?_
  rintro e w1 ⟨v, n, l1, b1, rfl, hv, hs, hr1, hk1⟩
  obtain rfl := hv.here
  clear hv hr
  obtain ⟨v1, h1, h2, h3, h4, h5⟩ := hr1.cells
  have hg := hr1.lt
  have hP := fun (x : Bool) (b2 : Bool) h => SpecP.of_eq boolP_eq (SpecP.bind (Q := fun n => if n = 0 then retP false else if n = 1 then retP true else noP) (y := x) (l2 := l1) (b2 := b2) hs h)
  have hQ := hr1.bad true
  have hK := hk1.setg 1 (.bool true)
  clear hs
  by_cases h00 : n = 0
  · subst h00
    have hE := hid (hP false b1 (SpecP.ret false l1 b1))
    clear hP
    go_wp2
    go_ret
    exact ⟨_, false, l1, _, rfl, Ow.pure rfl, hE.out, hr1, hk1⟩
  · by_cases h01 : n = 1
    · subst h01
      have hE := hid (hP true b1 (SpecP.ret true l1 b1))
      clear hP
      go_wp2
      go_ret
      exact ⟨_, true, l1, _, rfl, Ow.pure rfl, hE.out, hr1, hk1⟩
    · have hE := hid (hP false true (by simp only [if_neg h00, if_neg h01]; exact SpecP.no _ _ _ _))
      clear hP
      have e0 : (n == 0) = false := by simpa using h00
      have e1 : (n == 1) = false := by simpa using h01
      have e2 : (n != 0) = true := by simpa using h00
      have e3 : (n != 1) = true := by simpa using h01
      go_wp2
      go_ret
      exact ⟨_, false, l1, _, rfl, Ow.pure rfl, hE.out, hQ, hK⟩
end Go.Proofs.Ytmeafoakbkjifaa
