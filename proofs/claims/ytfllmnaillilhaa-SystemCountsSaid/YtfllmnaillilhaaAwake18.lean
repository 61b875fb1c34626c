
/-
What the laws' own examples of chapter 18 return: true.
-/
import Derived.Test.YtfllmnaillilhaaSF
import Derived.Test.YtfllmnaillilhaaGA
namespace Go.Proofs.Ytfllmnaillilhaa
set_option linter.unusedSimpArgs false
set_option linter.unusedVariables false
open Go.RowKit

def encP (p : Value × Row) : List Value := [p.1, .int .i64 p.2.bound]
theorem encP_len (p : Value × Row) : (encP p).length = 2 := rfl
theorem litRowsL (w : World) (t : TypeId) (rows : List (Value × Row)) (h : ∀ p ∈ rows, Terms w p.1 p.2.terms) (hl : rows.length ≤ 1000) (cs : Array Value) (hcs : cs.toList = flat encP rows) (n : Nat) (hn : n = rows.length) (l : List Row) (hm : l = rows.map (·.2)) :
    RowsL (w.alloc (.cells cs t)) (.slice (some ⟨w.heap.size, 0, none⟩) n n) l := by
  subst hn hm
  have hk := (Kp.refl w).alloc (.cells cs t)
  have s := (Own.lit (base := w.heap.size) encP (e := t) (size := 2) w cs rows (Nat.le_refl _) (by omega) (by have h2 := congrArg List.length hcs; rw [flat_length encP_len] at h2; simpa using h2) hcs).sl encP_len
  refine ⟨some ⟨w.heap.size, 0, none⟩, rows.length, by simp, by simp, by omega, fun k hk' => ?_⟩
  have hk2 : k < rows.length := by simpa using hk'
  obtain ⟨b, o, c2, hA, hb, hc1, hc2, hr⟩ := s.at_ hk2
  unfold Pl encP at hr
  subst hr
  exact ⟨b, o, _, hA, hb, hc1, hc2, rows[k].1, by simp, by simpa using (h rows[k] (List.getElem_mem hk2)).keep (pl_stable _) hk⟩
theorem litT2 (w : World) (t : TypeId) (l : List Term) (cs : Array Value) (h : cs.toList = flat encTerm l) (hl : l.length ≤ 1000) (n : Nat) (hn : n = l.length) : Terms (w.alloc (.cells cs t)) (.slice (some ⟨w.heap.size, 0, none⟩) n n) l := by
  subst hn
  exact (Own.lit (base := w.heap.size) encTerm (e := t) (size := 2) w cs l (Nat.le_refl _) (by omega) (by have h2 := congrArg List.length h; rw [flat_length encTerm_len] at h2; simpa using h2) h).sl encTerm_len
theorem litR2 (w : World) (t : TypeId) (l : List Rng) (cs : Array Value) (h : cs.toList = flat encRng l) (hl : l.length ≤ 1000) (n : Nat) (hn : n = l.length) : Rngs (w.alloc (.cells cs t)) (.slice (some ⟨w.heap.size, 0, none⟩) n n) l := by
  subst hn
  exact (Own.lit (base := w.heap.size) encRng (e := t) (size := 2) w cs l (Nat.le_refl _) (by omega) (by have h2 := congrArg List.length h; rw [flat_length encRng_len] at h2; simpa using h2) h).sl encRng_len
def two (f b : Int) : Row := ⟨[⟨0, f⟩, ⟨1, f⟩], b⟩
/-- a row's value -/
def RowV (w : World) (v : Value) (r : Row) : Prop := ∃ A c, v = .agg #[.slice A r.terms.length c, .int .i64 r.bound] ∧ Terms w (.slice A r.terms.length c) r.terms
theorem RowV.keep {w w' : World} {v : Value} {r : Row} (h : RowV w v r) (k : Kp w w') : RowV w' v r := by
  obtain ⟨A, c, e, h⟩ := h
  exact ⟨A, c, e, h.keep (pl_stable _) k⟩
theorem awake181_any (f b : Int) (w : World) : Calls Try.prog 33 #[.int .i64 f, .int .i64 b] w fun e w' => ∃ v, e = .returned v ∧ RowV w' v (two f b) ∧ Kp w w' := by
  have kA := ((Kp.refl w).alloc (.cells #[.slice (some ⟨w.heap.size + 1, 0, none⟩) 2 2, .int .i64 b] 30)).alloc (.cells #[.int .i64 0, .int .i64 f, .int .i64 1, .int .i64 f] 49)
  have hT := litT2 (w.alloc (.cells #[.slice (some ⟨w.heap.size + 1, 0, none⟩) 2 2, .int .i64 b] 30)) 49 [⟨0, f⟩, ⟨1, f⟩] #[.int .i64 0, .int .i64 f, .int .i64 1, .int .i64 f] rfl (by simp) 2 rfl
  have hB := (Bx.new w #[.slice (some ⟨w.heap.size + 1, 0, none⟩) 2 2, .int .i64 b] 30).kp ((Kp.refl _).alloc (.cells #[.int .i64 0, .int .i64 f, .int .i64 1, .int .i64 f] 49)) (by simp)
  rw [World.size_alloc] at hT
  go_enter Try.func33, Try.ntmps33
  go_wp2
  refine bodyPost_ret (results_cell_bx rfl _ _ w.heap.size [.slice (some ⟨w.heap.size + 1, 0, none⟩) 2 2, .int .i64 b] _ rfl hB.range Try.underlying30 rfl (by kernel_rfl)) rfl ?_
  exact ⟨_, rfl, ⟨_, _, rfl, hT⟩, kA⟩
theorem awake181_real : Real Try.prog 33 := ⟨_, Try.func33, by kernel_rfl, by kernel_rfl⟩
def awB18 : List Rng := [⟨0, 1⟩, ⟨0, 1⟩]
def awS18 : Sys := ⟨awB18, [two 1 2, two 1 1, two 2 1], [], []⟩
def awG18 : Sys := ⟨[⟨0, 1⟩, ⟨0, 1⟩, ⟨0, 1⟩, ⟨0, 1⟩], [], [⟨0, 2, [1, 1, 1, 1]⟩], []⟩
theorem aw18_norm : NormalR ⟨[⟨0, 4⟩, ⟨1, -6⟩], 5⟩ = (⟨[⟨0, 2⟩, ⟨1, -3⟩], 2⟩, true) := by kernel_rfl
theorem aw18_simp : (SimpR awS18).1.rows = [two 1 0] := by kernel_rfl
theorem aw18_simp2 : (SimpR awS18).2 = 0 := by decide +kernel
theorem aw18_count : CountR awG18 = (3, 0) := by decide +kernel
theorem aw18_valid : validS awG18 = true := by decide +kernel
theorem aw18_h1 : holdsS awG18 [0, 1, 0, 0] = true := by decide +kernel
theorem aw18_h2 : holdsS awG18 [0, 1, 1, 0] = false := by decide +kernel
theorem aw18_h3 : holdsS awG18 [0, 0, 0, 1] = false := by decide +kernel
def awW (W : World) (n : Nat) : World := (((W.alloc (.cells #[.int .i64 0, .int .i64 1, .int .i64 0, .int .i64 1, .int .i64 0, .int .i64 1, .int .i64 0, .int .i64 1] 59)).alloc (.cells #[.int .i64 1, .int .i64 1, .int .i64 1, .int .i64 1] 3)).alloc (.cells #[.int .i64 0, .int .i64 2, .slice (some ⟨n + 1, 0, none⟩) 4 4] 65)).alloc (.cells #[.slice (some ⟨n, 0, none⟩) 4 4, .slice none 0 0, .slice (some ⟨n + 1 + 1, 0, none⟩) 1 1, .slice none 0 0] 27)
theorem awG_v (W : World) (n : Nat) (hn : n = W.heap.size) : SysV (awW W n) (.agg #[.slice (some ⟨n, 0, none⟩) 4 4, .slice none 0 0, .slice (some ⟨n + 1 + 1, 0, none⟩) 1 1, .slice none 0 0]) awG18 ∧ Kp W (awW W n) ∧
    SysB (awW W n) (n + 1 + 1 + 1) (.agg #[.slice (some ⟨n, 0, none⟩) 4 4, .slice none 0 0, .slice (some ⟨n + 1 + 1, 0, none⟩) 1 1, .slice none 0 0]) := by
  subst hn
  have a1 := litR2 W 59 awG18.box #[.int .i64 0, .int .i64 1, .int .i64 0, .int .i64 1, .int .i64 0, .int .i64 1, .int .i64 0, .int .i64 1] rfl (by decide) 4 rfl
  have k1 := (Kp.refl W).alloc (.cells #[.int .i64 0, .int .i64 1, .int .i64 0, .int .i64 1, .int .i64 0, .int .i64 1, .int .i64 0, .int .i64 1] 59)
  have s1 : (W.alloc (.cells #[.int .i64 0, .int .i64 1, .int .i64 0, .int .i64 1, .int .i64 0, .int .i64 1, .int .i64 0, .int .i64 1] 59)).heap.size = W.heap.size + 1 := by simp
  unfold awW
  generalize W.alloc (.cells #[.int .i64 0, .int .i64 1, .int .i64 0, .int .i64 1, .int .i64 0, .int .i64 1, .int .i64 0, .int .i64 1] 59) = W1 at *
  have a2 := litI (w := W1) 3 [1, 1, 1, 1] #[.int .i64 1, .int .i64 1, .int .i64 1, .int .i64 1] rfl (by simp) 4 rfl
  rw [s1] at a2
  have k2 := (Kp.refl W1).alloc (.cells #[.int .i64 1, .int .i64 1, .int .i64 1, .int .i64 1] 3)
  have s2 : (W1.alloc (.cells #[.int .i64 1, .int .i64 1, .int .i64 1, .int .i64 1] 3)).heap.size = W.heap.size + 1 + 1 := by simp; omega
  generalize W1.alloc (.cells #[.int .i64 1, .int .i64 1, .int .i64 1, .int .i64 1] 3) = W2 at *
  have a3 := Sl.one (R := rdGr) W2 [.int .i64 0, .int .i64 2, .slice (some ⟨W.heap.size + 1, 0, none⟩) 4 4] 65 3 ⟨0, 2, [1, 1, 1, 1]⟩ rfl ⟨_, rfl, a2.keep (pl_stable _) ((Kp.refl W2).alloc _)⟩
  rw [s2] at a3
  have k3 := (Kp.refl W2).alloc (.cells #[.int .i64 0, .int .i64 2, .slice (some ⟨W.heap.size + 1, 0, none⟩) 4 4] 65)
  have s3 : (W2.alloc (.cells #[.int .i64 0, .int .i64 2, .slice (some ⟨W.heap.size + 1, 0, none⟩) 4 4] 65)).heap.size = W.heap.size + 1 + 1 + 1 := by simp; omega
  generalize W2.alloc (.cells #[.int .i64 0, .int .i64 2, .slice (some ⟨W.heap.size + 1, 0, none⟩) 4 4] 65) = W3 at *
  have k4 := (Kp.refl W3).alloc (.cells #[.slice (some ⟨W.heap.size, 0, none⟩) 4 4, .slice none 0 0, .slice (some ⟨W.heap.size + 1 + 1, 0, none⟩) 1 1, .slice none 0 0] 27)
  have B := SysB.new W3 #[.slice (some ⟨W.heap.size, 0, none⟩) 4 4, .slice none 0 0, .slice (some ⟨W.heap.size + 1 + 1, 0, none⟩) 1 1, .slice none 0 0] 27
  rw [s3] at B
  exact ⟨⟨_, _, _, _, _, _, _, _, rfl, a1.keep (pl_stable _) ((k2.trans k3).trans k4), Sl.nil _ _ _, a3.keep rdGr_stable k4, Sl.nil _ _ _⟩, ((k1.trans k2).trans k3).trans k4, B⟩
/-- what the last statement reads -/
structure AwF (r b g o e2 n3 : Nat) (A1 : Option Addr) (c1 : Nat) (sv : Value) (w : World) : Prop where
  r0 : w.cell? ⟨r, 0, none⟩ = some (.slice A1 2 c1)
  r1 : w.cell? ⟨r, 1, none⟩ = some (.int .i64 2)
  p1 : w.cell? ⟨b, 1, none⟩ = some (.slice (some ⟨g, o, none⟩) 1 e2)
  bd : w.cell? ⟨g, o + 1, none⟩ = some (.int .i64 0)
  tm : Terms w (.slice A1 2 c1) [⟨0, 2⟩, ⟨1, -3⟩]
  sb : SysB w n3 sv
  sv : SysV w sv awG18
theorem AwF.keep {r b g o e2 n3 : Nat} {A1 : Option Addr} {c1 : Nat} {sv : Value} {w w' : World} (h : AwF r b g o e2 n3 A1 c1 sv w) (k : Kp w w') : AwF r b g o e2 n3 A1 c1 sv w' :=
  ⟨k.cellS h.r0, k.cellS h.r1, k.cellS h.p1, k.cellS h.bd, h.tm.keep (pl_stable _) k, h.sb.keep k, h.sv.keep k⟩
theorem aw18_eq : eqT [⟨0, 2⟩, ⟨1, -3⟩] [⟨0, 2⟩, ⟨1, -3⟩] = true := by decide +kernel
/-- what the operations of the drawn statement yield -/
def awPV (w0 : World) : Nat → Value → World → Prop
  | 0, v, _ | 1, v, _ => v = .agg #[.int .i64 0, .int .i64 1]
  | 2, v, w => ∃ A c, v = .slice A 2 c ∧ Rngs w v awB18
  | 3, v, _ | 5, v, _ | 7, v, _ => v = .func (.func 33) #[] #[]
  | 4, v, w => RowV w v (two 1 2)
  | 6, v, w => RowV w v (two 1 1)
  | 8, v, w => RowV w v (two 2 1)
  | 9, v, w => ∃ A c, v = .slice A 3 c ∧ RowsL w v awS18.rows
  | 10, v, w => SysV w v awS18
  | 11, v, w | 12, v, w => ∃ x, v = .tuple #[x, .int .i64 0] ∧ SysV w x (SimpR awS18).1
  | 13, v, w => SysV w v (SimpR awS18).1
  | 14, v, _ => v = .int .i64 0
  | 15, v, w => ∃ b, v = .pointer (some ⟨b, 0, none⟩) ∧ (Bx w b [.slice none 0 0, .slice none 0 0, .slice none 0 0, .slice none 0 0] ∧ w.heap[b]? = some (.cells #[.slice none 0 0, .slice none 0 0, .slice none 0 0, .slice none 0 0] 27)) ∧ w0.heap.size ≤ b ∧ b < w.heap.size
  | _, _, _ => True
theorem awPV_keep (w0 : World) (j : Nat) (v : Value) (w1 w2 : World) (h : awPV w0 j v w1) (k : Kp w1 w2) : awPV w0 j v w2 := by
  match j, h with
  | 0, h | 1, h | 3, h | 5, h | 7, h | 14, h => exact h
  | 2, ⟨A, c, e, h⟩ => exact ⟨A, c, e, h.keep (pl_stable _) k⟩
  | 4, h | 6, h | 8, h => exact RowV.keep h k
  | 9, ⟨A, c, e, h⟩ => exact ⟨A, c, e, h.keep rdRow_stable k⟩
  | 10, h | 13, h => exact SysV.keep h k
  | 11, ⟨x, e, h⟩ | 12, ⟨x, e, h⟩ => exact ⟨x, e, h.keep k⟩
  | 15, ⟨b, e, h, l1, l2⟩ => exact ⟨b, e, ⟨h.1.kp k l2, (k.block l2).trans h.2⟩, l1, Nat.lt_of_lt_of_le l2 k.size⟩
  | n + 16, _ => trivial
set_option maxRecDepth 10000 in
set_option maxHeartbeats 8000000 in
theorem awake18_any (w : World) : Calls Try.prog 9 #[] w fun e w' => e = .returned (.bool true) ∧ Kp w w' := by
  go_enter Try.func9, Try.ntmps9
  have hT1 := litT2 w 49 [⟨0, 4⟩, ⟨1, -6⟩] #[.int .i64 0, .int .i64 4, .int .i64 1, .int .i64 (-6)] rfl (by simp) 2 rfl
  have k0 := (Kp.refl w).alloc (.cells #[.int .i64 0, .int .i64 4, .int .i64 1, .int .i64 (-6)] 49)
  go_wp2_with fail
  refine (sNormal_any _ [⟨0, 4⟩, ⟨1, -6⟩] 5 _ hT1).mono ?_
  rw [aw18_norm]
  rintro e w1 ⟨v1, rfl, own1, k1⟩
  dsimp only at own1 ⊢
  replace k1 := k0.trans k1
  have t1 := own1.sl encTerm_len
  obtain ⟨A1, c1, rfl, _, _⟩ := own1.form
  clear own1 hT1 k0
  go_wp2
  have hA := ((Kp.refl w1).alloc (.cells #[.slice A1 2 c1, .int .i64 2] 30)).alloc (.cells #[.int .i64 0, .int .i64 1] 59)
  have c0 := alloc_cell (w1.alloc (.cells #[.slice A1 2 c1, .int .i64 2] 30)) #[.int .i64 0, .int .i64 1] 59 0 rfl
  have c2 := alloc_cell (w1.alloc (.cells #[.slice A1 2 c1, .int .i64 2] 30)) #[.int .i64 0, .int .i64 1] 59 1 rfl
  have r0 := ((Kp.refl _).alloc (.cells #[.int .i64 0, .int .i64 1] 59)).cellS (alloc_cell w1 #[.slice A1 2 c1, .int .i64 2] 30 0 rfl)
  have r1 := ((Kp.refl _).alloc (.cells #[.int .i64 0, .int .i64 1] 59)).cellS (alloc_cell w1 #[.slice A1 2 c1, .int .i64 2] 30 1 rfl)
  rw [World.size_alloc] at c0 c2
  generalize (w1.alloc (.cells #[.slice A1 2 c1, .int .i64 2] 30)).alloc (.cells #[.int .i64 0, .int .i64 1] 59) = w2 at *
  refine wp_region_grow [14] 16 109 (awPV w2) (by kernel_rfl) (by kernel_rfl) rfl (fun _ _ _ _ _ h => h) (awPV_keep w2) ?_ ?_ ?_
  · intro i hi
    have hi' : i = 0 ∨ i = 1 ∨ i = 2 ∨ i = 3 ∨ i = 4 ∨ i = 5 ∨ i = 6 ∨ i = 7 ∨ i = 8 ∨ i = 9 ∨ i = 10 ∨ i = 11 ∨ i = 12 ∨ i = 13 ∨ i = 14 ∨ i = 15 := by omega
    rcases hi' with rfl | rfl | rfl | rfl | rfl | rfl | rfl | rfl | rfl | rfl | rfl | rfl | rfl | rfl | rfl | rfl
    · intro a w' hk hF hD K hK
      simp only [List.getElem?_toArray, List.getElem?_cons_zero, List.getElem?_cons_succ, Option.map_some, Option.getD_some]
      have h3 : a.tmps[3]?.getD undef = .pointer (some ⟨w1.heap.size + 1, 0, none⟩) := hF 3 (by kernel_rfl)
      have d0 := hk.cellS c0
      have d1 := hk.cellS c2
      clear hF hD
      go_simp
      exact hK.out _ _ (Kp.refl _) rfl
    · intro a w' hk hF hD K hK
      simp only [List.getElem?_toArray, List.getElem?_cons_zero, List.getElem?_cons_succ, Option.map_some, Option.getD_some]
      have h3 : a.tmps[3]?.getD undef = .pointer (some ⟨w1.heap.size + 1, 0, none⟩) := hF 3 (by kernel_rfl)
      have d0 := hk.cellS c0
      have d1 := hk.cellS c2
      clear hF hD
      go_simp
      exact hK.out _ _ (Kp.refl _) rfl
    · intro a w' hk hF hD K hK
      simp only [List.getElem?_toArray, List.getElem?_cons_zero, List.getElem?_cons_succ, Option.map_some, Option.getD_some]
      have h20 : a.tmps[20]?.getD undef = .agg #[.int .i64 0, .int .i64 1] := hD 0 (by kernel_rfl)
      have h21 : a.tmps[21]?.getD undef = .agg #[.int .i64 0, .int .i64 1] := hD 1 (by kernel_rfl)
      clear hF hD
      go_simp
      exact hK.out _ _ ((Kp.refl w').alloc _) ⟨_, _, rfl, litR2 w' _ awB18 #[.int .i64 0, .int .i64 1, .int .i64 0, .int .i64 1] rfl (by decide) 2 rfl⟩
    · intro a w' hk hF hD K hK
      simp only [List.getElem?_toArray, List.getElem?_cons_zero, List.getElem?_cons_succ, Option.map_some, Option.getD_some]
      have h4 : a.tmps[4]?.getD undef = .func (.func 33) #[] #[] := hF 4 (by kernel_rfl)
      clear hF hD
      go_simp
      exact hK.out _ _ (Kp.refl _) rfl
    · intro a w' hk hF hD K hK
      simp only [List.getElem?_toArray, List.getElem?_cons_zero, List.getElem?_cons_succ, Option.map_some, Option.getD_some]
      have h23 : a.tmps[23]?.getD undef = .func (.func 33) #[] #[] := hD 3 (by kernel_rfl)
      have hcf := fun args w => awake181_real.run args w
      clear hF hD
      go_simp
      refine (awake181_any 1 2 w').mono ?_
      rintro e w9 ⟨v, rfl, hv, hk9⟩
      exact hK.out _ _ hk9 hv
    · intro a w' hk hF hD K hK
      simp only [List.getElem?_toArray, List.getElem?_cons_zero, List.getElem?_cons_succ, Option.map_some, Option.getD_some]
      have h4 : a.tmps[4]?.getD undef = .func (.func 33) #[] #[] := hF 4 (by kernel_rfl)
      clear hF hD
      go_simp
      exact hK.out _ _ (Kp.refl _) rfl
    · intro a w' hk hF hD K hK
      simp only [List.getElem?_toArray, List.getElem?_cons_zero, List.getElem?_cons_succ, Option.map_some, Option.getD_some]
      have h23 : a.tmps[25]?.getD undef = .func (.func 33) #[] #[] := hD 5 (by kernel_rfl)
      have hcf := fun args w => awake181_real.run args w
      clear hF hD
      go_simp
      refine (awake181_any 1 1 w').mono ?_
      rintro e w9 ⟨v, rfl, hv, hk9⟩
      exact hK.out _ _ hk9 hv
    · intro a w' hk hF hD K hK
      simp only [List.getElem?_toArray, List.getElem?_cons_zero, List.getElem?_cons_succ, Option.map_some, Option.getD_some]
      have h4 : a.tmps[4]?.getD undef = .func (.func 33) #[] #[] := hF 4 (by kernel_rfl)
      clear hF hD
      go_simp
      exact hK.out _ _ (Kp.refl _) rfl
    · intro a w' hk hF hD K hK
      simp only [List.getElem?_toArray, List.getElem?_cons_zero, List.getElem?_cons_succ, Option.map_some, Option.getD_some]
      have h23 : a.tmps[27]?.getD undef = .func (.func 33) #[] #[] := hD 7 (by kernel_rfl)
      have hcf := fun args w => awake181_real.run args w
      clear hF hD
      go_simp
      refine (awake181_any 2 1 w').mono ?_
      rintro e w9 ⟨v, rfl, hv, hk9⟩
      exact hK.out _ _ hk9 hv
    · intro a w' hk hF hD K hK
      simp only [List.getElem?_toArray, List.getElem?_cons_zero, List.getElem?_cons_succ, Option.map_some, Option.getD_some]
      obtain ⟨A1, c1, h24, t1⟩ : RowV w' (a.tmps[24]?.getD undef) (two 1 2) := hD 4 (by kernel_rfl)
      obtain ⟨A2, c2, h26, t2⟩ : RowV w' (a.tmps[26]?.getD undef) (two 1 1) := hD 6 (by kernel_rfl)
      obtain ⟨A3, c3, h28, t3⟩ : RowV w' (a.tmps[28]?.getD undef) (two 2 1) := hD 8 (by kernel_rfl)
      clear hF hD
      go_simp
      exact hK.out _ _ ((Kp.refl w').alloc _) ⟨_, _, rfl, litRowsL w' _ [(.slice A1 (two 1 2).terms.length c1, two 1 2), (.slice A2 (two 1 1).terms.length c2, two 1 1), (.slice A3 (two 2 1).terms.length c3, two 2 1)] (by
        intro p hp
        simp only [List.mem_cons, List.not_mem_nil, or_false] at hp
        rcases hp with rfl | rfl | rfl
        · exact t1
        · exact t2
        · exact t3) (by simp) _ rfl 3 rfl _ rfl⟩
    · intro a w' hk hF hD K hK
      simp only [List.getElem?_toArray, List.getElem?_cons_zero, List.getElem?_cons_succ, Option.map_some, Option.getD_some]
      obtain ⟨A1, c1, h22, t1⟩ : ∃ A c, a.tmps[22]?.getD undef = .slice A 2 c ∧ Rngs w' (a.tmps[22]?.getD undef) awB18 := hD 2 (by kernel_rfl)
      obtain ⟨A2, c2, h29, t2⟩ : ∃ A c, a.tmps[29]?.getD undef = .slice A 3 c ∧ RowsL w' (a.tmps[29]?.getD undef) awS18.rows := hD 9 (by kernel_rfl)
      rw [h22] at t1
      rw [h29] at t2
      clear hF hD
      go_simp
      exact hK.out _ _ (Kp.refl w') ⟨A1, c1, A2, c2, none, 0, none, 0, rfl, t1, t2, Sl.nil _ _ _, Sl.nil _ _ _⟩
    · intro a w' hk hF hD K hK
      simp only [List.getElem?_toArray, List.getElem?_cons_zero, List.getElem?_cons_succ, Option.map_some, Option.getD_some]
      have hs : SysV w' (a.tmps[30]?.getD undef) awS18 := hD 10 (by kernel_rfl)
      obtain ⟨B1, e1, B2, e2, B3, e3, B4, e4, h30, -⟩ := id hs
      rw [h30] at hs
      clear hF hD
      go_simp
      refine (sSimplify_any _ awS18 w' hs).mono ?_
      rw [aw18_simp2]
      rintro e w9 ⟨v, rfl, hv, hk9⟩
      exact hK.out _ _ hk9 ⟨v, rfl, hv⟩
    · intro a w' hk hF hD K hK
      simp only [List.getElem?_toArray, List.getElem?_cons_zero, List.getElem?_cons_succ, Option.map_some, Option.getD_some]
      obtain ⟨x, h31, hx⟩ : ∃ x, a.tmps[31]?.getD undef = .tuple #[x, .int .i64 0] ∧ SysV w' x (SimpR awS18).1 := hD 11 (by kernel_rfl)
      clear hF hD
      go_simp
      exact hK.out _ _ (Kp.refl w') ⟨x, rfl, hx⟩
    · intro a w' hk hF hD K hK
      simp only [List.getElem?_toArray, List.getElem?_cons_zero, List.getElem?_cons_succ, Option.map_some, Option.getD_some]
      obtain ⟨x, h19, hx⟩ : ∃ x, a.tmps[19]?.getD undef = .tuple #[x, .int .i64 0] ∧ SysV w' x (SimpR awS18).1 := hD 12 (by kernel_rfl)
      clear hF hD
      go_simp
      exact hK.out _ _ (Kp.refl w') hx
    · intro a w' hk hF hD K hK
      simp only [List.getElem?_toArray, List.getElem?_cons_zero, List.getElem?_cons_succ, Option.map_some, Option.getD_some]
      obtain ⟨x, h19, hx⟩ : ∃ x, a.tmps[19]?.getD undef = .tuple #[x, .int .i64 0] ∧ SysV w' x (SimpR awS18).1 := hD 12 (by kernel_rfl)
      clear hF hD
      go_simp
      exact hK.out _ _ (Kp.refl w') rfl
    · intro a w' hk hF hD K hK
      simp only [List.getElem?_toArray, List.getElem?_cons_zero, List.getElem?_cons_succ, Option.map_some, Option.getD_some]
      clear hF hD
      go_simp
      exact hK.out _ _ ((Kp.refl w').alloc _) ⟨_, rfl, ⟨Bx.new w' _ _, heap_alloc_new w' _⟩, hk.size, by simp⟩
  · intro i hi
    obtain rfl : i = 14 := by simpa using hi
    refine ⟨by omega, fun a w' hk hF hD => ?_⟩
    simp only [List.getElem?_toArray, List.getElem?_cons_zero, List.getElem?_cons_succ, Option.map_some, Option.getD_some]
    obtain ⟨x, h19, hx⟩ : ∃ x, a.tmps[19]?.getD undef = .tuple #[x, .int .i64 0] ∧ SysV w' x (SimpR awS18).1 := hD 12 (by kernel_rfl)
    clear hF hD
    exact ⟨.int .i64 0, rfl, Or.inl ⟨by simp [Region.wanted], fun w => by go_simp⟩⟩
  · intro v w3 k3 hv
    obtain ⟨b, hb, ⟨hBx, hbh⟩, l1, l2⟩ := hv 15 (by omega)
    obtain ⟨B1, e1, B2, e2, B3, e3, B4, e4, h13, -, hrow, -, -⟩ : SysV w3 (v 13) (SimpR awS18).1 := hv 13 (by omega)
    rw [aw18_simp] at h13 hrow
    have h14 : v 14 = .int .i64 0 := hv 14 (by omega)
    clear hv
    obtain ⟨g, o, A5, e5, rfl, hg, -, hbd, -⟩ := hrow.row (k := 0) (by simp)
    have hgb : g ≠ b := by
      rintro rfl
      have h := hbd
      simp only [World.cell?, hbh] at h
      rcases (show o = 0 ∨ o = 1 ∨ o = 2 ∨ 3 ≤ o by omega) with rfl | rfl | rfl | ho
      · simp at h
      · simp at h
      · simp at h
      · have : ¬ o + 0 * 2 + 1 < 4 := by omega
        simp [this] at h
    simp only [growPut, gDst, List.getElem?_toArray, List.getElem?_cons_zero, List.getElem?_cons_succ, Option.bind_some, Option.getD_some, List.setIfInBounds_toArray, List.set_cons_zero, List.set_cons_succ, List.drop_succ_cons, List.drop_zero, hb, h14, h13]
    have d0 := (k3.cellS c0)
    have d1 := (k3.cellS c2)
    have q0 := (k3.cellS r0)
    have q1 := (k3.cellS r1)
    have hb1 : w1.heap.size + 1 < w2.heap.size := block_lt_of_cell c0
    have f0 := hBx.free (j := 0) (by simp)
    have f1 := hBx.free (j := 1) (by simp)
    have f2 := hBx.free (j := 2) (by simp)
    have f3 := hBx.free (j := 3) (by simp)
    have g0 := hBx.cell (j := 0) rfl
    have g1 := hBx.cell (j := 1) rfl
    have g2 := hBx.cell (j := 2) rfl
    have g3 := hBx.cell (j := 3) rfl
    clear hbh
    have hBF := hBx.set4 (.slice B1 (SimpR awS18).1.box.length e1) (.slice (some ⟨g, o, none⟩) 1 e2) (.slice B3 (SimpR awS18).1.graphs.length e3) (.slice B4 (SimpR awS18).1.cases.length e4)
    have hKF := Kg.set4 w3 b (.slice B1 (SimpR awS18).1.box.length e1) (.slice (some ⟨g, o, none⟩) 1 e2) (.slice B3 (SimpR awS18).1.graphs.length e3) (.slice B4 (SimpR awS18).1.cases.length e4)
    have hsF : ((((w3.setCell ⟨b, 0, none⟩ (.slice B1 (SimpR awS18).1.box.length e1)).setCell ⟨b, 1, none⟩ (.slice (some ⟨g, o, none⟩) 1 e2)).setCell ⟨b, 2, none⟩ (.slice B3 (SimpR awS18).1.graphs.length e3)).setCell ⟨b, 3, none⟩ (.slice B4 (SimpR awS18).1.cases.length e4)).heap.size = w3.heap.size := by simp only [set_size]
    have hkw : Kp w w3 := (k1.trans hA).trans k3
    go_wp2_with fail
    generalize (((w3.setCell ⟨b, 0, none⟩ (.slice B1 (SimpR awS18).1.box.length e1)).setCell ⟨b, 1, none⟩ (.slice (some ⟨g, o, none⟩) 1 e2)).setCell ⟨b, 2, none⟩ (.slice B3 (SimpR awS18).1.graphs.length e3)).setCell ⟨b, 3, none⟩ (.slice B4 (SimpR awS18).1.cases.length e4) = wF at *
    obtain ⟨hsv, hkG, hsb⟩ := awG_v wF w3.heap.size hsF.symm
    have hkF : Kp w wF := Kg.to_kp hkw hKF (by have := hA.size; have := k1.size; omega)
    have F : AwF w1.heap.size b g o e2 (w3.heap.size + 1 + 1 + 1) A1 c1 (.agg #[.slice (some ⟨w3.heap.size, 0, none⟩) 4 4, .slice none 0 0, .slice (some ⟨w3.heap.size + 1 + 1, 0, none⟩) 1 1, .slice none 0 0]) (awW wF w3.heap.size) :=
      ⟨hkG.cellS (hKF.cellS q0 (by show w1.heap.size ≠ b; omega)), hkG.cellS (hKF.cellS q1 (by show w1.heap.size ≠ b; omega)), hkG.cellS (hBF.cell (j := 1) rfl), hkG.cellS (hKF.cellS (by simpa [two] using hbd) hgb), t1.keep (pl_stable _) ((Kg.to_kp (hA.trans k3) hKF (by have := hA.size; omega)).trans hkG), hsb, hsv⟩
    have K := hkF.trans hkG
    clear hsv hkG hsb hkF hBF hKF hsF hBx d0 d1 q0 q1 hbd hgb k3 hA c0 c2 r0 r1 f0 f1 f2 f3 g0 g1 g2 g3 t1 h13 h14 hb
    show Calls Try.prog 20 _ (awW wF w3.heap.size) _
    generalize awW wF w3.heap.size = wa at *
    generalize w3.heap.size = n3 at *
    refine (sCount_any _ awG18 _ F.sv).mono ?_
    rw [aw18_count]
    rintro e w6 ⟨rfl, k6⟩
    replace F := F.keep k6
    replace K := K.trans k6
    have kL := (Kp.refl w6).alloc (.cells #[.int .i64 0, .int .i64 2, .int .i64 1, .int .i64 (-3)] 49)
    have hL := litT2 w6 49 [⟨0, 2⟩, ⟨1, -3⟩] #[.int .i64 0, .int .i64 2, .int .i64 1, .int .i64 (-3)] rfl (by simp) 2 rfl
    have r0 := F.r0
    have r1 := F.r1
    have p1 := F.p1
    have bd := F.bd
    obtain ⟨s0, s1, s2, s3⟩ := F.sb.cells
    have z0 := block_lt_of_cell r0
    have z1 := block_lt_of_cell p1
    have z2 := block_lt_of_cell bd
    have z3 := block_lt_of_cell s0
    go_wp2_with fail
    refine (EqualTerm_any _ _ [⟨0, 2⟩, ⟨1, -3⟩] [⟨0, 2⟩, ⟨1, -3⟩] _ (F.tm.keep (pl_stable _) kL) hL).mono ?_
    rw [aw18_eq]
    rintro e w7 ⟨rfl, k7⟩
    clear r0 r1 p1 bd s0 s1 s2 s3 z0 z1 z2 z3
    replace F := F.keep (kL.trans k7)
    replace K := K.trans (kL.trans k7)
    have r0 := F.r0
    have r1 := F.r1
    have p1 := F.p1
    have bd := F.bd
    obtain ⟨s0, s1, s2, s3⟩ := F.sb.cells
    have z0 := block_lt_of_cell r0
    have z1 := block_lt_of_cell p1
    have z2 := block_lt_of_cell bd
    have z3 := block_lt_of_cell s0
    go_wp2_with fail
    refine (sValid_any _ awG18 _ F.sv).mono ?_
    rw [aw18_valid]
    rintro e w8 ⟨rfl, k8⟩
    clear r0 r1 p1 bd s0 s1 s2 s3 z0 z1 z2 z3
    replace F := F.keep (k8)
    replace K := K.trans (k8)
    have kL0 := (Kp.refl w8).alloc (.cells #[.int .i64 0, .int .i64 1, .int .i64 0, .int .i64 0] 3)
    have hL0 := litI (w := w8) 3 [0, 1, 0, 0] #[.int .i64 0, .int .i64 1, .int .i64 0, .int .i64 0] rfl (by simp) 4 rfl
    have r0 := F.r0
    have r1 := F.r1
    have p1 := F.p1
    have bd := F.bd
    obtain ⟨s0, s1, s2, s3⟩ := F.sb.cells
    have z0 := block_lt_of_cell r0
    have z1 := block_lt_of_cell p1
    have z2 := block_lt_of_cell bd
    have z3 := block_lt_of_cell s0
    go_wp2_with fail
    refine (sHolds_any _ _ awG18 [0, 1, 0, 0] _ (F.sv.keep kL0) hL0).mono ?_
    rw [aw18_h1]
    rintro e w9 ⟨rfl, k9⟩
    clear r0 r1 p1 bd s0 s1 s2 s3 z0 z1 z2 z3
    replace F := F.keep (kL0.trans k9)
    replace K := K.trans (kL0.trans k9)
    have kL1 := (Kp.refl w9).alloc (.cells #[.int .i64 0, .int .i64 1, .int .i64 1, .int .i64 0] 3)
    have hL1 := litI (w := w9) 3 [0, 1, 1, 0] #[.int .i64 0, .int .i64 1, .int .i64 1, .int .i64 0] rfl (by simp) 4 rfl
    have r0 := F.r0
    have r1 := F.r1
    have p1 := F.p1
    have bd := F.bd
    obtain ⟨s0, s1, s2, s3⟩ := F.sb.cells
    have z0 := block_lt_of_cell r0
    have z1 := block_lt_of_cell p1
    have z2 := block_lt_of_cell bd
    have z3 := block_lt_of_cell s0
    go_wp2_with fail
    refine (sHolds_any _ _ awG18 [0, 1, 1, 0] _ (F.sv.keep kL1) hL1).mono ?_
    rw [aw18_h2]
    rintro e w10 ⟨rfl, k10⟩
    clear r0 r1 p1 bd s0 s1 s2 s3 z0 z1 z2 z3
    replace F := F.keep (kL1.trans k10)
    replace K := K.trans (kL1.trans k10)
    have kL2 := (Kp.refl w10).alloc (.cells #[.int .i64 0, .int .i64 0, .int .i64 0, .int .i64 1] 3)
    have hL2 := litI (w := w10) 3 [0, 0, 0, 1] #[.int .i64 0, .int .i64 0, .int .i64 0, .int .i64 1] rfl (by simp) 4 rfl
    have r0 := F.r0
    have r1 := F.r1
    have p1 := F.p1
    have bd := F.bd
    obtain ⟨s0, s1, s2, s3⟩ := F.sb.cells
    have z0 := block_lt_of_cell r0
    have z1 := block_lt_of_cell p1
    have z2 := block_lt_of_cell bd
    have z3 := block_lt_of_cell s0
    go_wp2_with fail
    refine (sHolds_any _ _ awG18 [0, 0, 0, 1] _ (F.sv.keep kL2) hL2).mono ?_
    rw [aw18_h3]
    rintro e w11 ⟨rfl, k11⟩
    clear r0 r1 p1 bd s0 s1 s2 s3 z0 z1 z2 z3
    replace F := F.keep (kL2.trans k11)
    replace K := K.trans (kL2.trans k11)
    go_wp2
    go_ret
    exact ⟨rfl, K⟩
end Go.Proofs.Ytfllmnaillilhaa
