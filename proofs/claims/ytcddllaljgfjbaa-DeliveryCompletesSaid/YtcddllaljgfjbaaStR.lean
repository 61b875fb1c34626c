
/-
Copies of lists of events, and their order: the walks.
-/
import Derived.Test.YtcddllaljgfjbaaStQ
namespace Go.Proofs.Ytcddllaljgfjbaa
set_option linter.unusedSimpArgs false
set_option linter.unusedVariables false
open Go.RowKit

/-- events with their slices, as cells -/
abbrev EsL := Sl (Pl encEs) 13
abbrev EvS.v (x : EvS) : Value := .slice x.A x.n x.c
set_option maxHeartbeats 1000000 in
theorem CloneEs_any (v : Value) (l : List EvS) (w : World) (hS : EsL w v l) (hl : l.length ≤ 1000000000) :
    Calls Try.prog 64 #[v] w fun e w' => ∃ v', e = .returned v' ∧ Own encEs 33 13 w.heap.size w' v' l ∧ Kp w w' := by
  obtain ⟨A, c, rfl, hc, hm⟩ := hS.form
  rcases A with _ | A
  · have hl0 : l = [] := by
      cases l with
      | nil => rfl
      | cons x l =>
        obtain ⟨_, _, _, hA, _⟩ := hS.at_ (k := 0) (by simp)
        cases hA
    subst hl0
    rw [List.length_nil]
    have hnil := fun (W : World) => Lib.run_eql_slice_nil (P := Try.prog) W 35 33 none 0 c 0 0 Try.underlying35
    go_enter Try.func64, Try.ntmps64
    go_wp2
    go_ret
    exact ⟨_, rfl, Own.nil _ _ _ _ _, Kp.refl _⟩
  · have hnil := fun (W : World) => Lib.run_eql_slice_nil (P := Try.prog) W 35 33 (some A) l.length c 0 0 Try.underlying35
    go_enter Try.func64, Try.ntmps64
    go_wp2_with (at_builtin; refine wpl_append_flat rfl (.tmp 5) (.tmp 6) rfl stEvs encEs_len encEs_one rfl (Own.lit (base := w.heap.size) encEs w #[] [] (Nat.le_refl _) (by simp) rfl rfl) rfl (hS.keep (pl_stable _) ((Kp.refl w).alloc _)) (by simp; omega) (by simp; omega) (by simp) ?_; intro v' w' hown hgrow hat hnil')
    go_ret
    exact ⟨_, rfl, by simpa using hown, ((Kp.refl w).alloc _).grown hgrow (fun k hk => by cases hk; exact Nat.le_refl _)⟩
theorem sIns_nil (w : World) : Calls Try.prog 102 #[.slice none 0 0, .int .i64 0, .int .i64 0, .func (.func 66) #[] #[]] w fun e w' => e = .returned (.tuple #[]) ∧ w' = w := by
  go_enter Try.func102, Try.ntmps102
  go_wp2_with fail
  go_loopw [8] (fun vi wr => vi = .int .i64 1 ∧ wr = w) (fun _ _ => 0)
  case atStart => exact ⟨rfl, rfl⟩
  case round =>
    obtain ⟨rfl, rfl⟩ := hrel
    go_wp2
    go_end0
    exact ⟨rfl, rfl⟩
theorem sStable_nil (w : World) : Calls Try.prog 84 #[.slice none 0 0, .int .i64 0, .func (.func 66) #[] #[]] w fun e w' => e = .returned (.tuple #[]) ∧ w' = w := by
  go_enter Try.func84, Try.ntmps84
  go_wp2_with fail
  go_loopw [7, 8] (fun va vb wr => va = .int .i64 0 ∧ vb = .int .i64 20 ∧ wr = w) (fun _ _ _ => 0)
  case atStart => exact ⟨rfl, rfl, rfl⟩
  case round =>
    obtain ⟨rfl, rfl, rfl⟩ := hrel
    have C1 := hid (sIns_nil wr)
    go_wp2_with fail
    refine C1.out.mono ?_
    rintro e w1 ⟨rfl, rfl⟩
    go_wp2_with fail
    go_loopw [6, 7, 8, 9] (fun vs _ _ _ wr => vs = .int .i64 20 ∧ wr = w1) (fun _ _ _ _ _ => 0)
    case atStart => exact ⟨rfl, rfl⟩
    case round =>
      obtain ⟨rfl, rfl⟩ := hrel
      go_wp2
      go_end0
      exact ⟨rfl, rfl⟩
theorem sSort_nil (w : World) : Calls Try.prog 65 #[.slice none 0 0, .func (.func 66) #[] #[]] w fun e w' => e = .returned (.tuple #[]) ∧ w' = w := by
  have C1 := hid (sStable_nil w)
  go_enter Try.func65, Try.ntmps65
  go_wp2_with fail
  refine C1.out.mono ?_
  rintro e w1 ⟨rfl, rfl⟩
  go_wp2
  go_end0
  exact ⟨rfl, rfl⟩
/-! what a rearrangement holds -/
theorem mv_perm {n : Nat} {σ : Nat → Nat} (h : St.Mv 0 n σ) : ((List.range n).map σ).Perm (List.range n) := by
  refine (List.perm_ext_iff_of_nodup ?_ List.nodup_range).2 fun a => ?_
  · refine List.Pairwise.map σ ?_ List.nodup_range
    intro i j hij e
    exact hij (h.inj e)
  · rw [List.mem_map, List.mem_range]
    constructor
    · rintro ⟨i, hi, rfl⟩
      exact (h.within (Nat.zero_le _) (List.mem_range.1 hi)).2
    · intro ha
      obtain ⟨τ, t1, t2⟩ := h.inv
      refine ⟨τ a, List.mem_range.2 ?_, t2 a⟩
      rcases Nat.lt_or_ge (τ a) n with h1 | h1
      · exact h1
      · have h2 := h.out (τ a) (.inr h1)
        rw [t2] at h2
        omega
theorem re_perm {n : Nat} {d d' : Nat → EvS} (h : St.Re 0 n d d') : (DL d' n).Perm (DL d n) := by
  obtain ⟨σ, h1, h2⟩ := h
  have e : DL d' n = ((List.range n).map σ).map d := by
    unfold DL
    rw [List.map_map]
    exact List.map_congr_left fun k _ => h2 k
  rw [e]
  exact (mv_perm h1).map d
theorem so_pairwise {n : Nat} {d : Nat → EvS} (h : St.So ltS 0 n d) : (DL d n).Pairwise fun a b => ltS b a = false := by
  unfold DL
  rw [List.pairwise_map, List.pairwise_iff_getElem]
  intro i j hi hj hij
  rw [List.getElem_range, List.getElem_range]
  exact h i j (Nat.zero_le _) hij (by simpa using hj)
theorem DL_of (xs : List EvS) : DL (fun k => xs.getD k default) xs.length = xs := by
  apply List.ext_getElem
  · rw [DL_len]
  · intro k h1 h2
    rw [DL_at _ h2]
    simp [List.getD_eq_getElem?_getD, h2]
set_option maxHeartbeats 2000000 in
theorem eOrder_any (v : Value) (xs : List EvS) (w : World) (hS : EsL w v xs) (hl : xs.length ≤ 4096) :
    Calls Try.prog 37 #[v] w fun e w' => ∃ v' ys, e = .returned v' ∧ Own encEs 33 13 w.heap.size w' v' ys ∧ ys.Perm xs ∧ (ys.Pairwise fun a b => ltE b.e a.e = false) ∧ Kp w w' := by
  have C0 := hid (CloneEs_any v xs w hS (by omega))
  go_enter Try.func37, Try.ntmps37
  go_wp2_with fail
  refine C0.out.mono ?_
  rintro e w1 ⟨v1, rfl, own1, k1⟩
  clear C0
  rcases own1.2 with ⟨rfl, h0⟩ | ⟨g, cap, cur, rfl, hb, -⟩
  · have C1 := hid (sSort_nil w1)
    have hxs : xs = [] := List.eq_nil_of_length_eq_zero h0
    subst hxs
    go_wp2_with fail
    refine C1.out.mono ?_
    rintro e w2 ⟨rfl, rfl⟩
    go_wp2
    go_ret
    exact ⟨_, [], rfl, Own.nil _ _ _ _ _, List.Perm.refl _, List.Pairwise.nil, k1⟩
  · have hD : SD w.heap.size g xs.length cap (fun k => xs.getD k default) w1 := by
      unfold SD
      rw [DL_of]
      exact own1
    have C1 := hid (sSort_any w.heap.size g xs.length cap hl _ w1 hD)
    have hge : w.heap.size ≤ g := hb
    have hxs := hid (DL_of xs)
    generalize xs.length = n at *
    clear own1 hD
    go_wp2_with fail
    refine C1.out.mono ?_
    rintro e w2 ⟨rfl, ⟨d', hD', hR, hO⟩, fx⟩
    have k2 : Kp w w2 := ((k1.fx _).trans fx).kp fun q hq hg => by subst hg; omega
    have hp : (DL d' n).Perm xs := by
      have := re_perm hR
      rw [hxs.out] at this
      exact this
    have hq := so_pairwise hO
    go_wp2
    go_ret
    have hD2 : Own encEs 33 13 w.heap.size w2 (.slice (some ⟨g, 0, none⟩) n cap) (DL d' n) := hD'
    exact ⟨_, _, rfl, hD2, hp, hq, k2⟩
end Go.Proofs.Ytcddllaljgfjbaa
