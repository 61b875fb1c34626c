
/-
Search: a function that is guarded against the end of the budget: the walk.
-/
import Derived.Test.YtlbhidiliogflaaGreatSeE
import Derived.Defers
import Derived.Recover
namespace Go.Proofs.YtlbhidiliogflaaGreat
set_option linter.unusedSimpArgs false
set_option linter.unusedVariables false
open Go.RowKit

theorem guarded1_real : Real Tryz.prog 42 := ⟨_, Tryz.func42, by kernel_rfl, by kernel_rfl⟩
set_option maxRecDepth 100000 in
theorem guarded1_panic (g : Nat) (w : World) (hc : w.cell? ⟨g, 0, none⟩ = some (.bool false)) (hz : w.frozen? ⟨g, 0, none⟩ = false) :
    CallsD Tryz.prog 42 #[.pointer (some ⟨g, 0, none⟩)] (.panicking Pn) w fun e u' w' =>
      e = .returned (.tuple #[]) ∧ u' = .panicking [{ v := .iface 89 (.agg #[]), recovered := true }] ∧ Kp w w' := by
  have hq : ∀ w : World, (binOp BinOp.eql 20 (.iface 89 (.agg #[])) .nilIface).run Tryz.prog w = .ok (.bool false) w := fun _ => by kernel_rfl
  have hta : ∀ w : World, (Instr.typeAssert (.iface 89 (.agg #[])) 20 89 true).run Tryz.prog w = .ok (.tuple #[.agg #[], .bool true]) w := fun _ => by kernel_rfl
  unfold Pn
  refine callsD_of_wpS Tryz.func42 rfl fun c₀ cs hu => ?_
  apply wpS_seq
  apply wpS_region
  simp [wpOpsS, go_sem, recoverD, hu, Tryz.ntmps42, Exit.thenS]
  refine wpS_of_wp ?_
  go_wp2
  simp only [bodyPostS]
  exact ⟨trivial, _, rfl, _, by simp [results, Tryz.results42], rfl, rfl, (Kp.refl w).alloc _⟩
set_option maxRecDepth 100000 in
theorem guarded1_idle (g : Nat) (v : Value) (w : World) (hc : w.cell? ⟨g, 0, none⟩ = some v) (hz : w.frozen? ⟨g, 0, none⟩ = false) :
    CallsD Tryz.prog 42 #[.pointer (some ⟨g, 0, none⟩)] .returning w fun e u' w' =>
      e = .returned (.tuple #[]) ∧ u' = .returning ∧ w' = w.setCell ⟨g, 0, none⟩ (.bool true) := by
  have hq : ∀ w : World, (binOp BinOp.eql 20 .nilIface .nilIface).run Tryz.prog w = .ok (.bool true) w := fun _ => by kernel_rfl
  refine callsD_of_wpS Tryz.func42 rfl fun c₀ cs hu => ?_
  apply wpS_seq
  apply wpS_region
  simp [wpOpsS, go_sem, recoverD, hu, Tryz.ntmps42, Exit.thenS]
  refine wpS_of_wp ?_
  go_wp2
  simp only [bodyPostS]
  exact ⟨trivial, .returning, by rw [← hu], _, by simp [results, Tryz.results42], rfl, rfl, trivial⟩
set_option maxRecDepth 100000 in
theorem guarded_any (F : FuncId) (cap : List Value) (Q S : World → Prop) (w : World) (hr : Real Tryz.prog F)
    (H : Calls Tryz.prog F cap.toArray (w.alloc (.cells #[.bool false] 4)) fun e w' => (e = .returned (.tuple #[]) ∧ Q w') ∨ (e = .panicked Pn ∧ S w'))
    (hQ : ∀ w1, Q w1 → Bx w1 w.heap.size [.bool false]) (hS : ∀ w1, S w1 → Bx w1 w.heap.size [.bool false]) :
    Calls Tryz.prog 18 #[.func (.func F) #[] cap.toArray] w fun e w' => (∃ w1, Q w1 ∧ e = .returned (.bool true) ∧ Fx (fun q => q = w.heap.size) w1 w') ∨ (∃ w1, S w1 ∧ e = .returned (.bool false) ∧ Kp w1 w') := by
  have hcf := fun args W => hr.run args W
  have hmf : ∀ (fn : Fn) (first cap : Array Value) (w : World), (Instr.makeFunc fn first cap).run Tryz.prog w = .ok (.func fn first cap) w := fun _ _ _ _ => rfl
  go_enter_defers Tryz.func18, Tryz.ntmps18
  go_wp2_with fail
  refine H.mono ?_
  rintro e w1 (⟨rfl, hq⟩ | ⟨rfl, hs⟩)
  · have hB := hQ w1 hq
    have c0 := hB.cell (j := 0) rfl
    have f0 := hB.free (j := 0) (by simp)
    have B2 := hB.set (j := 0) (by simp) (.bool true)
    have k2 : Fx (fun q => q = w.heap.size) w1 (w1.setCell ⟨w.heap.size, 0, none⟩ (.bool true)) := (Fx.refl (fun q => q = w.heap.size) w1).set1 ⟨w.heap.size, 0, none⟩ _ (.inl rfl)
    go_wp2
    generalize w1.setCell ⟨w.heap.size, 0, none⟩ (.bool true) = w2 at *
    have B3 := B2.set (j := 0) (by simp) (.bool true)
    have k3 := k2.trans ((Fx.refl (fun q => q = w.heap.size) w2).set1 ⟨w.heap.size, 0, none⟩ (.bool true) (.inl rfl))
    refine leaves_cons (f := 42) (args := #[.pointer (some ⟨w.heap.size, 0, none⟩)]) (by simp) (by simp [go_sem]) ?_
    refine (guarded1_idle w.heap.size (.bool true) w2 (B2.cell (j := 0) rfl) (B2.free (j := 0) (by simp))).mono ?_
    rintro e u' w3 ⟨rfl, rfl, rfl⟩
    generalize w2.setCell ⟨w.heap.size, 0, none⟩ (.bool true) = w3 at *
    have c3 := B3.cell (j := 0) rfl
    simp only [List.set_cons_zero] at B3
    have c3 := B3.cell (j := 0) rfl
    simp only [Leaves, settle]
    refine ⟨.bool true, ?_, .inl ⟨w1, hq, rfl, k3⟩⟩
    simp [results, Tryz.results18, go_sem, c3]
  · have hB := hS w1 hs
    have c0 := hB.cell (j := 0) rfl
    go_wp2
    refine leaves_cons (f := 42) (args := #[.pointer (some ⟨w.heap.size, 0, none⟩)]) (by simp) (by simp [go_sem]) ?_
    refine (guarded1_panic w.heap.size w1 c0 (hB.free (j := 0) (by simp))).mono ?_
    rintro e u' w3 ⟨rfl, rfl, k3⟩
    have c3 := k3.cellS c0
    simp only [Leaves, settle, List.dropWhile_nil]
    refine ⟨.bool false, ?_, .inr ⟨w1, hs, rfl, k3⟩⟩
    simp [results, Tryz.results18, go_sem, c3]
end Go.Proofs.YtlbhidiliogflaaGreat
