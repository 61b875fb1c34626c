
/-
Search: what the law on propagation asks: plain.
-/
import Derived.Test.YtlbhidiliogflaaSfK
import Derived.Test.YtlbhidiliogflaaSeG
namespace Go.Proofs.Ytlbhidiliogflaa
set_option linter.unusedSimpArgs false
set_option linter.unusedVariables false
open Go.RowKit

theorem fit_in {s : Sys} {box : List Rng} {vs : List Int} (h : validS s = true) (hl : box.length = s.box.length) (hb : boxB box = true) (hc : containsB box vs = true) : FitV s vs ∧ lookedB s vs = true := by
  obtain ⟨h1, h2, ⟨h3, h4⟩, h5, h6, h7, h8⟩ := validS_parts h
  have hlv := (not_badV hc).1
  have hl2 : s.box.length = vs.length := by omega
  have hvb : validB box [] = true := by simp [validB, hb]
  have hv := okV_of hvb hc
  obtain ⟨-, v2, -⟩ := validB_ok h4
  have hf : FitV s vs := ⟨fun r hr => row_okV h4 hl2 hr, fun g hg => by rw [← hl2]; exact h7 g hg, fun l hll r hr => row_okV (h8 l hll).2 hl2 hr, hv, by omega, h3, h5, h6⟩
  refine ⟨hf, ?_⟩
  unfold lookedB
  rw [h, decide_eq_true hl2.symm]
  simp only [Bool.and_self, Bool.true_and, Bool.not_eq_true', List.any_eq_false]
  intro x hx
  have := hv x hx
  unfold farI
  simp
  omega
/-- the box that is left lies in the box and keeps all solutions -/
structure KpL (s : Sys) (box bx : List Rng) (o : Bool) : Prop where
  sub : bx.length ≤ box.length ∧ ∀ k : Nat, k < bx.length → (pick box k).lo ≤ (pick bx k).lo ∧ (pick bx k).hi ≤ (pick box k).hi
  keep : ∀ vs, containsB box vs = true → (∀ r ∈ s.rows, badR vs r = false) → (∀ g ∈ s.graphs, badG vs g = false) → o = true ∧ containsB bx vs = true
theorem prop_ok {s : Sys} {box : List Rng} (hv : validS s = true) (hl : box.length = s.box.length) (hb : boxB box = true) (he : box.any emptyR = false) :
    propR s box 65536 = if (runB 65536 s.rows s.graphs box).fine = false then ([], [], false, 14) else if (runB 65536 s.rows s.graphs box).opn = false then ((runB 65536 s.rows s.graphs box).steps, [], false, 0) else ((runB 65536 s.rows s.graphs box).steps, (runB 65536 s.rows s.graphs box).box, true, 0) := by
  unfold propR
  rw [if_pos ⟨hv, hl, hb, he⟩, if_pos ⟨by omega, by omega⟩]
  rfl
theorem prop_cases {s : Sys} {box : List Rng} (hv : validS s = true) (hl : box.length = s.box.length) (hb : boxB box = true) (he : box.any emptyR = false) :
    propR s box 65536 = ([], [], false, 14) ∨ ∃ st bx o, propR s box 65536 = (st, bx, o, 0) ∧ KpL s box bx o ∧ ((o = true ∧ bx.length = box.length ∧ propR s bx 65536 = ([], bx, true, 0)) ∨ (o = false ∧ bx = [] ∧ 0 < st.length)) := by
  obtain ⟨p1, p2, p3, p4, p5⟩ := sys_parts hv
  have hfb : fineBox s.box.length box := by
    obtain ⟨a1, a2⟩ := boxB_all hb
    exact ⟨hl, a1, fun r hr => by
      have := List.any_eq_false.1 he r hr
      unfold emptyR at this
      simpa using this⟩
  have hp := prop_ok hv hl hb he
  obtain ⟨k1, k2, k3, k4⟩ := runB_kept p1 65536 p2 p3 hfb
  have hk : ∀ vs, containsB box vs = true → (∀ r ∈ s.rows, badR vs r = false) → (∀ g ∈ s.graphs, badG vs g = false) → (runB 65536 s.rows s.graphs box).fine = true → (runB 65536 s.rows s.graphs box).opn = true ∧ containsB (runB 65536 s.rows s.graphs box).box vs = true := fun vs hc h1 h2 hfi =>
    runB_keeps p1 65536 p2 p3 hfb hc (fun r hr => by
      have := h1 r hr
      unfold badR holdsR at this
      simpa using this) (fun g hg => by
      have := h2 g hg
      unfold badG at this
      simpa using this) hfi
  generalize hF : runB 65536 s.rows s.graphs box = F at *
  cases hfi : F.fine with
  | false =>
    left
    rw [hp, if_pos hfi]
  | true =>
    right
    cases ho : F.opn with
    | false =>
      refine ⟨F.steps, [], false, by rw [hp, if_neg (by rw [hfi]; simp), if_pos ho], ⟨⟨Nat.zero_le _, fun k hk => absurd hk (by simp)⟩, fun vs hc h1 h2 => ?_⟩, .inr ⟨rfl, rfl, k3 ho hfi⟩⟩
      have := (hk vs hc h1 h2 hfi).1
      rw [ho] at this
      cases this
    | true =>
      have hfx := (k4 ho).2
      have hbx := boxB_fine k1 p1
      have hne : F.box.any emptyR = false := by
        rw [List.any_eq_false]
        intro r hr
        have := k1.2.2 r hr
        unfold emptyR
        simp
        omega
      refine ⟨F.steps, F.box, true, by rw [hp, if_neg (by rw [hfi]; simp), if_neg (by rw [ho]; simp)], ⟨⟨by rw [k1.1, hl]; exact Nat.le_refl _, fun k hk => ?_⟩, fun vs hc h1 h2 => ⟨rfl, (hk vs hc h1 h2 hfi).2⟩⟩, .inl ⟨rfl, by rw [k1.1, hl], ?_⟩⟩
      · exact k2.2 k (by rw [hl, ← k1.1]; exact hk)
      · have hp2 := prop_ok hv k1.1 hbx hne
        rw [runB_fixed p1 65536 p2 p3 k1 hfx] at hp2
        rw [hp2]
        simp
end Go.Proofs.Ytlbhidiliogflaa
