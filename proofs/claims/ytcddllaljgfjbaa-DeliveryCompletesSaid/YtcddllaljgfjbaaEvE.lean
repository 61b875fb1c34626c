
/-
The map of the forms of events: the walk.
-/
import Derived.Test.YtcddllaljgfjbaaEvD
namespace Go.Proofs.Ytcddllaljgfjbaa
set_option linter.unusedSimpArgs false
set_option linter.unusedVariables false
open Go.RowKit

abbrev frV (f be : Nat) : Value := .func (.func f) #[] #[.pointer (some ⟨be, 0, none⟩)]
def frL (be : Nat) : List (Int × Value) := [(0, frV 86 be), (1, frV 87 be), (2, frV 88 be)]
theorem wpl_insert {ops : Array Oper} {rest : List Oper} {o : Oper} {a : Act} {Q : Exit → Act → World → Prop} {w w' : World} (hgd : o.guard = none) (t : TypeId) (m k v : Operand) (ho : o.op = Op.insert t m k v)
    {vm vk vv : Value} (hm : a.eval m = vm) (hk : a.eval k = vk) (hv : a.eval v = vv) (hrun : Sem.run Try.prog (Instr.mapUpdate t vm vk vv) w = .ok () w') (h : wpList Try.prog ops Q rest (a.put o.dst undef) w') : wpList Try.prog ops Q (o :: rest) a w := by
  refine wpList_plain hgd fun K hK => ?_
  unfold Oper.wp
  simp [execOp, ho, hm, hk, hv, hrun, Result.andThen]
  exact hK _ _ h
set_option maxRecDepth 8000 in
set_option maxHeartbeats 2000000 in
theorem evForms_any (e : Ev) (v : Value) (w : World) : Calls Try.prog 70 #[evV e v] w fun y w' => ∃ mb be, y = .returned (.map (some mb)) ∧ MapL intV w' mb (frL be) ∧ Bx w' be (evL e v) ∧ w.heap.size ≤ be ∧ Kp w w' := by
  obtain ⟨r, n, t, pa, kd, ac, ⟨⟨g1, g2, g3⟩, g4⟩, ds, pl, se⟩ := e
  dsimp only [evV, evL]
  have hE := Bx.new w #[.int .i64 r, .int .i64 n, .int .i64 t, v, .int .i64 kd, .int .i64 ac, .int .i64 g1, .int .i64 g2, .int .i64 g3, .int .i64 g4, .int .i64 ds, .int .i64 pl, .int .i64 se] 33
  have k0 := (Kp.refl w).alloc (.cells #[.int .i64 r, .int .i64 n, .int .i64 t, v, .int .i64 kd, .int .i64 ac, .int .i64 g1, .int .i64 g2, .int .i64 g3, .int .i64 g4, .int .i64 ds, .int .i64 pl, .int .i64 se] 33)
  have hz0 : (w.alloc (.cells #[.int .i64 r, .int .i64 n, .int .i64 t, v, .int .i64 kd, .int .i64 ac, .int .i64 g1, .int .i64 g2, .int .i64 g3, .int .i64 g4, .int .i64 ds, .int .i64 pl, .int .i64 se] 33)).heap.size = w.heap.size + 1 := World.size_alloc _ _
  have hmf : ∀ (fn : Fn) (first cap : Array Value) (w : World), (Instr.makeFunc fn first cap).run Try.prog w = .ok (.func fn first cap) w := fun _ _ _ _ => rfl
  have hmm := @run_makeMap Try.prog
  go_enter Try.func70, Try.ntmps70
  go_upto_region 1 with (fail)
  generalize w.alloc (.cells #[.int .i64 r, .int .i64 n, .int .i64 t, v, .int .i64 kd, .int .i64 ac, .int .i64 g1, .int .i64 g2, .int .i64 g3, .int .i64 g4, .int .i64 ds, .int .i64 pl, .int .i64 se] 33) = w1 at *
  have hM0 := MapL.new (encK := intV) w1
  have hE2 := hE.keep (heap_alloc_old w1 (.map #[] 0) (by omega))
  have k2 := k0.alloc (.map #[] 0)
  have hbm : w.heap.size < w1.heap.size := by omega
  have hz2 : w1.heap.size < (w1.alloc (.map #[] 0)).heap.size := by rw [World.size_alloc]; omega
  have HZ := hid hz0
  clear hz0
  obtain ⟨w3, r3, hM3, g3', z3⟩ := hM0.put keyI Try.underlying133 0 (frV 86 w.heap.size)
  obtain ⟨w4, r4, hM4, g4', z4⟩ := hM3.put keyI Try.underlying133 1 (frV 87 w.heap.size)
  obtain ⟨w5, r5, hM5, g5', z5⟩ := hM4.put keyI Try.underlying133 2 (frV 88 w.heap.size)
  have hF : putL (2 : Int) (frV 88 w.heap.size) (putL 1 (frV 87 w.heap.size) (putL 0 (frV 86 w.heap.size) [])) = frL w.heap.size := by simp [putL, frL]
  rw [hF] at hM5
  have R3 := hid r3
  have R4 := hid r4
  have R5 := hid r5
  have kf := (((k2.fx (fun k => k = w1.heap.size)).trans (g3'.fx (.inl rfl))).trans (g4'.fx (.inl rfl))).trans (g5'.fx (.inl rfl))
  have KF : Hid (Kp w w5) := hid (kf.kp fun k hk e => by omega)
  have hb : ∀ {wa wb : World}, Kg wa wb w1.heap.size → w.heap.size < wa.heap.size → wb.heap[w.heap.size]? = wa.heap[w.heap.size]? := fun g h => g.block _ h (by simp; omega)
  have HE5 : Hid (Bx w5 w.heap.size #[.int .i64 r, .int .i64 n, .int .i64 t, v, .int .i64 kd, .int .i64 ac, .int .i64 g1, .int .i64 g2, .int .i64 g3, .int .i64 g4, .int .i64 ds, .int .i64 pl, .int .i64 se].toList) := hid (((hE2.keep (hb g3' (by omega))).keep (hb g4' (by omega))).keep (hb g5' (by omega)))
  have HM5 := hid hM5
  clear r3 r4 r5 hM5 hM4 hM3 hM0 hF kf k2 hE2 hb hz2 z3 z4 z5 g3' g4' g5' k0 hE
  go_wp2_with (first | (refine wpl_insert rfl 133 (.tmp 3) (.const (.int .i64 0)) (.tmp 4) rfl rfl rfl rfl R3.out ?_) | (refine wpl_insert rfl 133 (.tmp 3) (.const (.int .i64 1)) (.tmp 5) rfl rfl rfl rfl R4.out ?_) | (refine wpl_insert rfl 133 (.tmp 3) (.const (.int .i64 2)) (.tmp 6) rfl rfl rfl rfl R5.out ?_))
  go_ret
  exact ⟨w1.heap.size, rfl, w.heap.size, HM5.out, HE5.out, Nat.le_refl _, KF.out⟩
end Go.Proofs.Ytcddllaljgfjbaa
