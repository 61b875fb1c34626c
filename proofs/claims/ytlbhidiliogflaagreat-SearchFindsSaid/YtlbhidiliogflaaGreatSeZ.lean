
/-
Search: the law's example: the walks.
-/
import Derived.Test.YtlbhidiliogflaaGreatSeY
namespace Go.Proofs.YtlbhidiliogflaaGreat
set_option linter.unusedSimpArgs false
set_option linter.unusedVariables false
open Go.RowKit

def encP (p : Value × Row) : List Value := [p.1, .int .i64 p.2.bound]
theorem encP_len (p : Value × Row) : (encP p).length = 2 := rfl
theorem litRowsL (w : World) (t : TypeId) (rows : List (Value × Row)) (h : ∀ p ∈ rows, Terms w p.1 p.2.terms) (hl : rows.length ≤ 1000) (cs : Array Value) (hcs : cs.toList = flat encP rows) (n : Nat) (hn : n = rows.length) (l : List Row) (hm : l = rows.map (·.2)) :
    RowsL (w.alloc (.cells cs t)) (.slice (some ⟨w.heap.size, 0, none⟩) n n) l := by
  subst hn hm
  have hk := (Kp.refl w).alloc (.cells cs t)
  have s := (Own.lit (base := w.heap.size) encP (e := t) (size := 2) w cs rows (Nat.le_refl _) (by omega) (by have h2 := congrArg List.length hcs; rw [flat_length encP_len] at h2; simpa using h2) hcs).sl encP_len
  refine ⟨some ⟨w.heap.size, 0, none⟩, rows.length, by simp, by simp, by omega, fun k hk' => ?_⟩
  have hk2 : k < rows.length := by simpa using hk'
  obtain ⟨b, o, c2, hA, hb, hc1, hc2, hr⟩ := s.at_ hk2
  unfold Pl encP at hr
  subst hr
  exact ⟨b, o, _, hA, hb, hc1, hc2, rows[k].1, by simp, by simpa using (h rows[k] (List.getElem_mem hk2)).keep (pl_stable _) hk⟩
theorem litT2 (w : World) (t : TypeId) (l : List Term) (cs : Array Value) (h : cs.toList = flat encTerm l) (hl : l.length ≤ 1000) (n : Nat) (hn : n = l.length) : Terms (w.alloc (.cells cs t)) (.slice (some ⟨w.heap.size, 0, none⟩) n n) l := by
  subst hn
  exact (Own.lit (base := w.heap.size) encTerm (e := t) (size := 2) w cs l (Nat.le_refl _) (by omega) (by have h2 := congrArg List.length h; rw [flat_length encTerm_len] at h2; simpa using h2) h).sl encTerm_len
theorem litR2 (w : World) (t : TypeId) (l : List Rng) (cs : Array Value) (h : cs.toList = flat encRng l) (hl : l.length ≤ 1000) (n : Nat) (hn : n = l.length) : Rngs (w.alloc (.cells cs t)) (.slice (some ⟨w.heap.size, 0, none⟩) n n) l := by
  subst hn
  exact (Own.lit (base := w.heap.size) encRng (e := t) (size := 2) w cs l (Nat.le_refl _) (by omega) (by have h2 := congrArg List.length h; rw [flat_length encRng_len] at h2; simpa using h2) h).sl encRng_len
/-- a row's value -/
def RowV (w : World) (v : Value) (r : Row) : Prop := ∃ A c, v = .agg #[.slice A r.terms.length c, .int .i64 r.bound] ∧ Terms w (.slice A r.terms.length c) r.terms
theorem RowV.keep {w w' : World} {v : Value} {r : Row} (h : RowV w v r) (k : Kp w w') : RowV w' v r := by
  obtain ⟨A, c, e, h⟩ := h
  exact ⟨A, c, e, h.keep (pl_stable _) k⟩
/-- a row's value, in blocks from z on -/
def RowO (z : Nat) (w : World) (v : Value) (r : Row) : Prop := ∃ A c, v = .agg #[.slice A r.terms.length c, .int .i64 r.bound] ∧ OwF (fun q => q < z) w fun W => Terms W (.slice A r.terms.length c) r.terms
theorem example1_any (a b bd : Int) (w : World) : Calls Tryz.prog 26 #[.int .i64 a, .int .i64 b, .int .i64 bd] w fun e w' => ∃ v, e = .returned v ∧ RowO w.heap.size w' v (exRow a b bd) ∧ Kp w w' := by
  have kA := ((Kp.refl w).alloc (.cells #[.slice (some ⟨w.heap.size + 1, 0, none⟩) 2 2, .int .i64 bd] 51)).alloc (.cells #[.int .i64 0, .int .i64 a, .int .i64 1, .int .i64 b] 48)
  have hO := Own.lit (base := w.heap.size + 1) encTerm (e := 48) (size := 2) (w.alloc (.cells #[.slice (some ⟨w.heap.size + 1, 0, none⟩) 2 2, .int .i64 bd] 51)) #[.int .i64 0, .int .i64 a, .int .i64 1, .int .i64 b] [⟨0, a⟩, ⟨1, b⟩] (by simp) (by simp) rfl rfl
  have hB := (Bx.new w #[.slice (some ⟨w.heap.size + 1, 0, none⟩) 2 2, .int .i64 bd] 51).kp ((Kp.refl _).alloc (.cells #[.int .i64 0, .int .i64 a, .int .i64 1, .int .i64 b] 48)) (by simp)
  rw [World.size_alloc] at hO
  have hT := (OwF.own (z := w.heap.size) hO (fun q hq => by have := hO.ge q hq; omega)).imp fun _ h => h.sl encTerm_len
  clear hO
  go_enter Tryz.func26, Tryz.ntmps26
  go_wp2
  refine bodyPost_ret (results_cell_bx rfl _ _ w.heap.size [.slice (some ⟨w.heap.size + 1, 0, none⟩) 2 2, .int .i64 bd] _ rfl hB.range Tryz.underlying51 rfl (by kernel_rfl)) rfl ?_
  exact ⟨_, rfl, ⟨_, _, rfl, hT⟩, kA⟩
theorem example1_real : Real Tryz.prog 26 := ⟨_, Tryz.func26, by kernel_rfl, by kernel_rfl⟩
theorem rowsOf {W : World} {v : Value} {rows : List (Value × Row)} (s : Sl (Pl encP) 2 W v rows) (h : ∀ p ∈ rows, Terms W p.1 p.2.terms) : RowsL W v (rows.map (·.2)) := by
  obtain ⟨A, c, rfl, hle, hmx⟩ := s.form
  refine ⟨A, c, by simp, by simpa using hle, hmx, fun k hk' => ?_⟩
  have hk2 : k < rows.length := by simpa using hk'
  obtain ⟨b, o, c2, hA, hb, hc1, hc2, hr⟩ := s.at_ hk2
  unfold Pl encP at hr
  subst hr
  exact ⟨b, o, _, hA, hb, hc1, hc2, rows[k].1, by simp, by simpa using h rows[k] (List.getElem_mem hk2)⟩
set_option maxRecDepth 8000 in
set_option maxHeartbeats 4000000 in
theorem example_any (w : World) : Calls Tryz.prog 9 #[] w fun e w' => ∃ Ab cb g, e = .returned (.agg #[.slice Ab 2 cb, .slice (some ⟨g, 0, none⟩) 3 3, .slice none 0 0, .slice none 0 0]) ∧ SysV w' (.agg #[.slice Ab 2 cb, .slice (some ⟨g, 0, none⟩) 3 3, .slice none 0 0, .slice none 0 0]) exS ∧ Kp w w' := by
  have hcf := fun args W => example1_real.run args W
  have k0 := (Kp.refl w).alloc (.cells [.slice none 0 0, .slice none 0 0, .slice none 0 0, .slice none 0 0].toArray 27)
  have B0 := Bx.new w [.slice none 0 0, .slice none 0 0, .slice none 0 0, .slice none 0 0].toArray 27
  have z0 := World.size_alloc w (.cells [.slice none 0 0, .slice none 0 0, .slice none 0 0, .slice none 0 0].toArray 27)
  go_enter Tryz.func9, Tryz.ntmps9
  go_wp2_with fail
  generalize w.alloc (.cells [.slice none 0 0, .slice none 0 0, .slice none 0 0, .slice none 0 0].toArray 27) = w0 at *
  obtain ⟨t0, ht0⟩ : ∃ t0, t0 = w.heap.size := ⟨_, rfl⟩
  rw [← ht0] at B0 z0 ⊢
  have hR := Own.lit (base := 0) encRng (e := 57) (size := 2) w0 #[.int .i64 0, .int .i64 3, .int .i64 0, .int .i64 3] exS.box (Nat.zero_le _) (by decide) rfl rfl
  have k1 := (Kp.refl w0).alloc (.cells #[.int .i64 0, .int .i64 3, .int .i64 0, .int .i64 3] 57)
  have z1 := World.size_alloc w0 (.cells #[.int .i64 0, .int .i64 3, .int .i64 0, .int .i64 3] 57)
  generalize w0.alloc (.cells #[.int .i64 0, .int .i64 3, .int .i64 0, .int .i64 3] 57) = w1 at *
  rw [z0] at hR z1
  obtain ⟨t4, ht4⟩ : ∃ t4, t4 = t0 + 1 := ⟨_, rfl⟩
  rw [← ht4] at hR ⊢
  have ht01 : t0 < w1.heap.size ∧ t0 ≠ t4 := by omega
  replace ht0 := hid ht0
  replace ht4 := hid ht4
  replace z0 := hid z0
  replace z1 := hid z1
  refine (example1_any 1 1 3 w1).mono ?_
  rintro e w2 ⟨v1, rfl, hv1, k2⟩
  obtain ⟨A1, c1, rfl, h1⟩ := hv1
  go_wp2_with fail
  refine (example1_any (-1) (-1) (-3) w2).mono ?_
  rintro e w3 ⟨v2, rfl, hv2, k3⟩
  obtain ⟨A2, c2, rfl, h2⟩ := hv2
  go_wp2_with fail
  refine (example1_any (-1) 1 (-2) w3).mono ?_
  rintro e w4 ⟨v3, rfl, hv3, k4⟩
  obtain ⟨A3, c3, rfl, h3⟩ := hv3
  have z2 := k2.size
  have z3 := k3.size
  have z4 := k4.size
  have k14 := k2.trans (k3.trans k4)
  have k04 := k1.trans k14
  have hlb := B0.lt (by simp)
  have B4 := B0.kp k04 hlb
  have k5 := (Kp.refl w4).alloc (.cells #[.slice A1 (exRow 1 1 3).terms.length c1, .int .i64 (exRow 1 1 3).bound, .slice A2 (exRow (-1) (-1) (-3)).terms.length c2, .int .i64 (exRow (-1) (-1) (-3)).bound, .slice A3 (exRow (-1) 1 (-2)).terms.length c3, .int .i64 (exRow (-1) 1 (-2)).bound] 51)
  have hO5 := Own.lit (base := w4.heap.size) encP (e := 51) (size := 2) w4 #[.slice A1 (exRow 1 1 3).terms.length c1, .int .i64 (exRow 1 1 3).bound, .slice A2 (exRow (-1) (-1) (-3)).terms.length c2, .int .i64 (exRow (-1) (-1) (-3)).bound, .slice A3 (exRow (-1) 1 (-2)).terms.length c3, .int .i64 (exRow (-1) 1 (-2)).bound]
    [(.slice A1 (exRow 1 1 3).terms.length c1, exRow 1 1 3), (.slice A2 (exRow (-1) (-1) (-3)).terms.length c2, exRow (-1) (-1) (-3)), (.slice A3 (exRow (-1) 1 (-2)).terms.length c3, exRow (-1) 1 (-2))] (Nat.le_refl _) (by simp) rfl rfl
  have h1' := (h1.mono (Y := fun q => q = t0) fun q e => by rw [e]; omega).fx (((k3.trans k4).trans k5).fx _)
  have h2' := (h2.mono (Y := fun q => q = t0) fun q e => by rw [e]; omega).fx ((k4.trans k5).fx _)
  have h3' := (h3.mono (Y := fun q => q = t0) fun q e => by rw [e]; omega).fx (k5.fx _)
  have hR5 := hR.kp (k14.trans k5)
  have B5 := B4.kp k5 (Nat.lt_of_lt_of_le hlb k04.size)
  have hwt : w.heap.size ≤ t0 := by rw [ht0.out]; exact Nat.le_refl _
  have kk5 := (k0.trans k04).trans k5
  have hn4 : w4.heap.size ≠ t0 := by omega
  have y0 := B5.cell (j := 0) rfl
  have y1 := B5.cell (j := 1) rfl
  have y2 := B5.cell (j := 2) rfl
  have y3 := B5.cell (j := 3) rfl
  have f0 := B5.free (j := 0) (by simp)
  have f1 := B5.free (j := 1) (by simp)
  have f2 := B5.free (j := 2) (by simp)
  have f3 := B5.free (j := 3) (by simp)
  replace hwt := hid hwt
  replace hn4 := hid hn4
  clear h1 h2 h3 hR B0 B4 k0 k1 k2 k3 k4 k14 k04 hlb z2 z3 z4
  go_wp2
  generalize w4.alloc _ = w5 at *
  have BE := B5.all (cs := [.slice (some ⟨t4, 0, none⟩) 2 2, .slice (some ⟨w4.heap.size, 0, none⟩) 3 3, .slice none 0 0, .slice none 0 0]) rfl
  change bodyPost _ _ _ _ _ (w5.setCells t0 0 [.slice (some ⟨t4, 0, none⟩) 2 2, .slice (some ⟨w4.heap.size, 0, none⟩) 3 3, .slice none 0 0, .slice none 0 0])
  refine bodyPost_ret (results_cell_bx rfl _ _ t0 [.slice (some ⟨t4, 0, none⟩) 2 2, .slice (some ⟨w4.heap.size, 0, none⟩) 3 3, .slice none 0 0, .slice none 0 0] _ rfl BE.range Tryz.underlying27 rfl (by kernel_rfl)) rfl ?_
  have kS : Fx (fun q => q = t0) w5 (w5.setCells t0 0 [.slice (some ⟨t4, 0, none⟩) 2 2, .slice (some ⟨w4.heap.size, 0, none⟩) 3 3, .slice none 0 0, .slice none 0 0]) := setsFx t0 0 _ _ (Fx.refl _ _) (.inl rfl)
  have kE := kS.kp_of kk5 (fun q e => by rw [e]; exact hwt.out)
  generalize w5.setCells t0 0 [.slice (some ⟨t4, 0, none⟩) 2 2, .slice (some ⟨w4.heap.size, 0, none⟩) 3 3, .slice none 0 0, .slice none 0 0] = wE at *
  refine ⟨some ⟨t4, 0, none⟩, 2, w4.heap.size, rfl, ⟨some ⟨t4, 0, none⟩, 2, some ⟨w4.heap.size, 0, none⟩, 3, none, 0, none, 0, rfl, ?_, ?_, Sl.nil _ _ _, Sl.nil _ _ _⟩, kE⟩
  · exact (hR5.fx kS (fun q hq e => by
      have h9 : t4 = q := Option.some.inj hq
      exact ht01.2 (e.symm.trans h9.symm))).sl encRng_len
  · exact rowsOf ((hO5.fx kS (fun q hq e => by
      have h9 : w4.heap.size = q := Option.some.inj hq
      exact hn4.out (h9.trans e))).sl encP_len) (by
      intro p hp
      simp only [List.mem_cons, List.not_mem_nil, or_false] at hp
      rcases hp with rfl | rfl | rfl
      · exact h1' _ kS
      · exact h2' _ kS
      · exact h3' _ kS)
end Go.Proofs.YtlbhidiliogflaaGreat
