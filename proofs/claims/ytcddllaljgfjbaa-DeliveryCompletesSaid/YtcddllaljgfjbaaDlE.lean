
/-
A new causal buffer, and what it holds: the walks.
-/
import Derived.Test.YtcddllaljgfjbaaDlD
namespace Go.Proofs.Ytcddllaljgfjbaa
set_option linter.unusedSimpArgs false
set_option linter.unusedVariables false
open Go.RowKit

set_option maxHeartbeats 2000000 in
theorem bHeld_any {S : Nat → Prop} {base : Nat} {w : World} {b cb cc mb n : Nat} {c : List Int} {M : List EvS} (h : BfW S base w b cb cc mb n c M) {H : List Ev} (hH : (M.map (·.e)).Perm H) (ok : BfOk c H) :
    Calls Try.prog 13 #[.pointer (some ⟨b, 0, none⟩)] w fun x w' => ∃ v ys, x = .returned v ∧ EsR w.heap.size w' v ys ∧ ys.map (·.e) = H ∧ Kp w w' := by
  have C1 := hid (bList_any h hH ok.sort (by have := ok.len; omega) (fun e he => by
      have h1 := (ok.ev e he).2
      have h2 := (validC_iff.1 ok.clk).2
      omega))
  clear h hH ok
  go_enter Try.func13, Try.ntmps13
  go_wp2_with fail
  refine C1.out.mono ?_
  rintro e w1 ⟨v, ys, rfl, h1, h2, h3⟩
  replace h2 := hid h2
  go_wp2
  go_ret
  exact ⟨_, ys, rfl, h1, h2.out, h3⟩
set_option maxRecDepth 8000 in
set_option maxHeartbeats 2000000 in
theorem bNew_any (c : List Int) (v : Value) (w : World) (hS : Ints w v c) :
    Calls Try.prog 10 #[v] w fun x w' => Kp w w' ∧ ((validC c = false ∧ x = .returned (.tuple #[.pointer none, .int .i64 1])) ∨
      (validC c = true ∧ ∃ b cb cc mb, x = .returned (.tuple #[.pointer (some ⟨b, 0, none⟩), .int .i64 0]) ∧ BfW (fun q => q = b ∨ q = cb ∨ q = mb) w.heap.size w' b cb cc mb c.length c [])) := by
  have hmm := @run_makeMap Try.prog
  have C1 := hid (cValid_any c v w hS)
  go_enter Try.func10, Try.ntmps10
  go_wp2_with fail
  refine C1.out.mono ?_
  rintro e w1 ⟨rfl, k1⟩
  cases hv : validC c with
  | false =>
    go_wp2
    go_ret2
    exact ⟨k1, .inl ⟨hv, rfl⟩⟩
  | true =>
    have hl := (validC_iff.1 hv).2
    have C2 := hid (CloneI_any v c w1 (hS.keep (pl_stable _) k1) (by omega))
    replace hv := hid hv
    go_wp2_with fail
    refine C2.out.mono ?_
    rintro e w2 ⟨v2, rfl, own2, k2⟩
    obtain ⟨g, cc, rfl, hc1, hc2, hg1, hg2⟩ := own2.row (by omega)
    have k3 := (Kp.refl w2).alloc (.map #[] 0)
    have hM := MapL.new (encK := dtV) w2
    have hz3 : (w2.alloc (.map #[] 0)).heap.size = w2.heap.size + 1 := World.size_alloc _ _
    have hB := Bx.new (w2.alloc (.map #[] 0)) #[.slice (some ⟨g, 0, none⟩) c.length cc, .map (some w2.heap.size)] 95
    have k4 := k3.alloc (.cells #[.slice (some ⟨g, 0, none⟩) c.length cc, .map (some w2.heap.size)] 95)
    rw [hz3] at hB
    have hM4 := hM.kp ((Kp.refl _).alloc (.cells #[.slice (some ⟨g, 0, none⟩) c.length cc, .map (some w2.heap.size)] 95))
    have hz1 := k1.size
    have hz2 := k2.size
    replace hz3 := hid hz3
    go_wp2
    go_ret2
    refine ⟨(k1.trans k2).trans k4, .inr ⟨hv.out, _, _, _, _, rfl, ⟨hB, rfl, (own2.kp k4).less hz1, hM4, by simp, by omega, by omega, by omega, by omega, by omega, .inl rfl, .inr (.inl rfl), .inr (.inr rfl)⟩⟩⟩
end Go.Proofs.Ytcddllaljgfjbaa
