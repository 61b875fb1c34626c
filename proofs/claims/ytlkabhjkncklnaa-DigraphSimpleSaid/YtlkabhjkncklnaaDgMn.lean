
/-
slices.Min of a row whose first one is the least; slices.Clone of a row of rows: the walks.
-/
import Derived.Test.YtlkabhjkncklnaaDgSc
namespace Go.Proofs.Ytlkabhjkncklnaa
set_option linter.unusedSimpArgs false
set_option linter.unusedVariables false
open Go.RowKit

set_option maxRecDepth 8000 in
set_option maxHeartbeats 4000000 in
theorem MinI_any (v : Value) (l : List Int) (w : World) (hl : Ints w v l) (h0 : 0 < l.length) (hm : ∀ k (hk : k < l.length), l[0] ≤ l[k]) : Calls Try.prog 37 #[v] w fun e w' => e = .returned (.int .i64 l[0]) ∧ Kp w w' := by
  obtain ⟨A, c, rfl, hc, hcm⟩ := hl.form
  have HL := hid hl
  have HM := hid hm
  obtain ⟨g, o, hA, hg, i0⟩ := hl.ints h0
  subst hA
  clear hl hm
  rw [Nat.add_zero] at i0
  generalize l[0] = x at *
  have h1 : ¬ (l.length : Int) < 1 := by omega
  have h2 : (0 : Int) < (l.length : Int) := by omega
  go_enter Try.func37, Try.ntmps37
  go_wp2_with fail
  go_loopw [3, 4] (fun mv iv wr => ∃ i : Nat, 1 ≤ i ∧ i ≤ l.length ∧ mv = .int .i64 x ∧ iv = .int .i64 (i : Int) ∧ Kp w wr) (fun _ iv _ => l.length - (intOf iv).toNat)
  case atStart => exact ⟨1, by omega, by omega, rfl, rfl, Kp.refl _⟩
  case round =>
    obtain ⟨i, hi0, hi, rfl, rfl, kr⟩ := hrel
    by_cases hp : i < l.length
    · obtain ⟨g', o', hA', -, i1⟩ := (HL.out.keep (pl_stable _) kr).ints hp
      injection hA' with hA'
      injection hA' with c1 c2
      subst c1 c2
      have hle := HM.out i hp
      generalize l[i] = y at *
      have hpp : (i : Int) < (l.length : Int) := by omega
      have hmin : min x y = x := by omega
      go_wp2_with fail
      go_roundw
      case rel => exact ⟨i + 1, by omega, by omega, by simp [hle], by go_num, kr⟩
      case measure => simp [intOf]; omega
    · obtain rfl : i = l.length := by omega
      have hpp : ¬ (l.length : Int) < (l.length : Int) := by omega
      go_wp2
      go_ret
      exact ⟨rfl, kr⟩
set_option maxHeartbeats 1000000 in
theorem CloneLL_any (v : Value) (l : List (Elm 1)) (w : World) (hS : Sl (Pl encC) 1 w v l) (hl : l.length ≤ 1000000000) :
    Calls Try.prog 40 #[v] w fun e w' => ∃ v', e = .returned v' ∧ Own encC 28 1 w.heap.size w' v' l ∧ Kp w w' := by
  obtain ⟨A, c, rfl, hc, hm⟩ := hS.form
  rcases A with _ | A
  · have hl0 : l = [] := by
      cases l with
      | nil => rfl
      | cons x l =>
        obtain ⟨_, _, _, hA, _⟩ := hS.at_ (k := 0) (by simp)
        cases hA
    subst hl0
    rw [List.length_nil]
    have hnil := fun (W : World) => Lib.run_eql_slice_nil (P := Try.prog) W 35 28 none 0 c 0 0 Try.underlying35
    go_enter Try.func40, Try.ntmps40
    go_wp2
    go_ret
    exact ⟨_, rfl, Own.nil _ _ _ _ _, Kp.refl _⟩
  · have hnil := fun (W : World) => Lib.run_eql_slice_nil (P := Try.prog) W 35 28 (some A) l.length c 0 0 Try.underlying35
    go_enter Try.func40, Try.ntmps40
    go_wp2_with (at_builtin; refine wpl_append_flat rfl (.tmp 5) (.tmp 6) rfl stIntsM encC_len encC_one rfl (Own.lit (base := w.heap.size) encC w #[] [] (Nat.le_refl _) (by simp) rfl rfl) rfl (hS.keep (pl_stable _) ((Kp.refl w).alloc _)) (by simp; omega) (by simp; omega) (by simp) ?_; intro v' w' hown hgrow hat hnil')
    go_ret
    exact ⟨_, rfl, by simpa using hown, ((Kp.refl w).alloc _).grown hgrow (fun k hk => by cases hk; exact Nat.le_refl _)⟩
end Go.Proofs.Ytlkabhjkncklnaa
