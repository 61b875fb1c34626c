/-
The reference: the bytes of a record; whether two records are the same.
The reference: the bytes of a record; whether few numbers are few.
What is written is read again: plain facts; a guarded load of a struct.
-/
import Derived.Test.YtmeafoakbkjifaaRefN7
import Derived.Test.YtmeafoakbkjifaaRefB1
import Derived.Test.YtmeafoakbkjifaaCanonWalk
import Derived.Test.YtmeafoakbkjifaaIntegersWalk
namespace Go.Proofs.Ytmeafoakbkjifaa
set_option linter.unusedSimpArgs false
set_option linter.unusedVariables false
open Go.RowKit

theorem RecordV.parts {w : World} {val : Value} {x : Record} (h : RecordV w val x) : ∃ cs csE csB csN : List Value, val = .agg cs.toArray ∧ cs = .int .i64 x.kind :: (csE ++ (csB ++ (.int .i64 x.term :: .int .i64 x.vote :: .int .i64 x.index :: csN))) ∧
    csE.length = 13 ∧ csB.length = 7 ∧ csN.length = 6 ∧ EventV w (.agg csE.toArray) x.event ∧ BaseV w (.agg csB.toArray) x.base ∧ EntryV w (.agg csN.toArray) x.entry := by
  obtain ⟨v0, v1, v2, v3, v4, v5, v6, v7, rfl, p0, p1, p2, p3, p4, p5, p6, p7⟩ := h
  exact ⟨_, [_, _, _, v0, _, _, _, _, _, _, _, _, _], [v1, _, v2, v3, v4, v5, v6], [_, _, _, _, _, v7], rfl, rfl, rfl, rfl, rfl, ⟨_, rfl, p0⟩, ⟨_, _, _, _, _, _, rfl, p1, p2, p3, p4, p5, p6⟩, ⟨_, rfl, p7⟩⟩
theorem range_drop {w : World} {b o : Nat} (A B : List Value) (n : Nat) (hn : A.length = n) (h : w.rangeAt b o (A ++ B)) : w.rangeAt b (o + n) B := fun j u hu => by
  have h1 := h (n + j) u (by rw [List.getElem?_append_right (by omega), hn, Nat.add_sub_cancel_left]; exact hu)
  rwa [← Nat.add_assoc] at h1
theorem range_take {w : World} {b o : Nat} {A B : List Value} (h : w.rangeAt b o (A ++ B)) : w.rangeAt b o A := fun j u hu => h j u (by rw [List.getElem?_append_left (List.getElem?_eq_some_iff.1 hu).1]; exact hu)
theorem box_parts {w : World} {b : Nat} {k t v i : Value} {csE csB csN : List Value} (hE : csE.length = 13) (hB : csB.length = 7) (h : w.rangeAt b 0 (k :: (csE ++ (csB ++ (t :: v :: i :: csN))))) :
    w.cell? ⟨b, 0, none⟩ = some k ∧ w.cell? ⟨b, 21, none⟩ = some t ∧ w.cell? ⟨b, 22, none⟩ = some v ∧ w.cell? ⟨b, 23, none⟩ = some i ∧ w.rangeAt b 1 csE ∧ w.rangeAt b 14 csB ∧ w.rangeAt b 24 csN := by
  have h0 := h 0 k rfl
  have h1 := range_drop [k] _ 1 rfl h
  have h2 := range_drop csE _ 13 hE h1
  have h3 := range_drop csB _ 7 hB h2
  have c0 := h3 0 t rfl
  have c1 := h3 1 v rfl
  have c2 := h3 2 i rfl
  have h4 := range_drop [t, v, i] _ 3 rfl h3
  exact ⟨by simpa using h0, by simpa using c0, by simpa using c1, by simpa using c2, by simpa using range_take h1, by simpa using range_take h2, by simpa using h4⟩
/-- whether two records have the same numbers -/
def sameR (x y : Record) : Bool := decide (x.kind = y.kind) && decide (x.term = y.term) && decide (x.vote = y.vote) && decide (x.index = y.index) && decide (numEvent x.event = numEvent y.event) && decide (numBase x.base = numBase y.base) && decide (numEntry x.entry = numEntry y.entry)
abbrev ShortR (x : Record) : Prop := (numEvent x.event).length ≤ 1000000000 ∧ (numBase x.base).length ≤ 1000000000 ∧ (numEntry x.entry).length ≤ 1000000000
theorem ShortR.past {x : Record} (h : ShortR x) : x.event.past.length ≤ 1000000000 := by
  have h1 := numIs_len x.event.past
  have h2 := h.1
  simp only [numEvent, List.length_append, List.length_cons, List.length_nil] at h2
  omega
theorem ShortR.voters {x : Record} (h : ShortR x) : x.entry.voters.length ≤ 1000000000 := by
  have h1 := numIs_len x.entry.voters
  have h2 := h.2.2
  simp only [numEntry, List.length_append, List.length_cons, List.length_nil] at h2
  omega
theorem info_len {t : TypeId} {cs : List Value} {n : Nat} (h : cs.length = n) (h1 : (Try.prog.info? t).map (·.size) = some n) : (Try.prog.info? t).map (·.size) = some cs.length := by rw [h]; exact h1
set_option maxRecDepth 100000 in
set_option maxHeartbeats 8000000 in
theorem SameRecord_any (va vb : Value) (x y : Record) (w : World) (ha : RecordV w va x) (hb : RecordV w vb y) (sx : ShortR x) (sy : ShortR y) :
    Calls Try.prog 24 #[va, vb] w fun e w' => e = .returned (.bool (sameR x y)) ∧ Kp w w' := by
  obtain ⟨ca, aE, aB, aN, rfl, hca, la, lb, lc, va1, va2, va3⟩ := ha.parts
  obtain ⟨cb, bE, bB, bN, rfl, hcb, ma, mb, mc, vb1, vb2, vb3⟩ := hb.parts
  have px := sx.past
  have qx := sx.voters
  have py := sy.past
  have qy := sy.voters
  obtain ⟨sx1, sx2, sx3⟩ := sx
  obtain ⟨sy1, sy2, sy3⟩ := sy
  replace hca := hid hca
  replace hcb := hid hcb
  have k1 := (Kp.refl w).alloc (.cells ca.toArray 46)
  have k2 := k1.alloc (.cells cb.toArray 46)
  have r1 := ((Kp.refl _).alloc (.cells cb.toArray 46)).range (range_box w ca 46)
  have r2 := range_box (w.alloc (.cells ca.toArray 46)) cb 46
  rw [World.size_alloc] at r2
  have hsz : (w.alloc (.cells ca.toArray 46)).heap.size = w.heap.size + 1 := World.size_alloc _ _
  have xa1 := va1.kp k2
  have xa2 := va2.kp k2
  have xa3 := va3.kp k2
  have xb1 := vb1.kp k2
  have xb2 := vb2.kp k2
  have xb3 := vb3.kp k2
  have iE := info_len (t := 37) la (by kernel_rfl)
  have iB := info_len (t := 42) lb (by kernel_rfl)
  have iN := info_len (t := 44) lc (by kernel_rfl)
  have jE := info_len (t := 37) ma (by kernel_rfl)
  have jB := info_len (t := 42) mb (by kernel_rfl)
  have jN := info_len (t := 44) mc (by kernel_rfl)
  clear ha hb k1 va1 va2 va3 vb1 vb2 vb3
  go_enter Try.func24, Try.ntmps24
  go_wp2_with fail
  generalize (w.alloc (.cells ca.toArray 46)).alloc (.cells cb.toArray 46) = wB at *
  generalize w.heap.size + 1 = b2 at *
  generalize w.heap.size = b1 at *
  rw [hca.out] at r1
  rw [hcb.out] at r2
  replace r1 := hid (box_parts la lb r1)
  replace r2 := hid (box_parts ma mb r2)
  clear hsz hca hcb
  obtain ⟨xk, xe, xb, xt, xv, xi, xn⟩ := x
  obtain ⟨yk, ye, yb, yt, yv, yi, yn⟩ := y
  dsimp only at *
  have hS : ∀ W, Kp wB W → ((W.cell? ⟨b1, 0, none⟩ = some (.int .i64 xk) ∧ W.cell? ⟨b1, 21, none⟩ = some (.int .i64 xt) ∧ W.cell? ⟨b1, 22, none⟩ = some (.int .i64 xv) ∧ W.cell? ⟨b1, 23, none⟩ = some (.int .i64 xi) ∧ W.rangeAt b1 1 aE ∧ W.rangeAt b1 14 aB ∧ W.rangeAt b1 24 aN) ∧ (W.cell? ⟨b2, 0, none⟩ = some (.int .i64 yk) ∧ W.cell? ⟨b2, 21, none⟩ = some (.int .i64 yt) ∧ W.cell? ⟨b2, 22, none⟩ = some (.int .i64 yv) ∧ W.cell? ⟨b2, 23, none⟩ = some (.int .i64 yi) ∧ W.rangeAt b2 1 bE ∧ W.rangeAt b2 14 bB ∧ W.rangeAt b2 24 bN) ∧ Kp wB W) := fun W hk => ⟨⟨hk.cellS r1.out.1, hk.cellS r1.out.2.1, hk.cellS r1.out.2.2.1, hk.cellS r1.out.2.2.2.1, hk.range r1.out.2.2.2.2.1, hk.range r1.out.2.2.2.2.2.1, hk.range r1.out.2.2.2.2.2.2⟩, ⟨hk.cellS r2.out.1, hk.cellS r2.out.2.1, hk.cellS r2.out.2.2.1, hk.cellS r2.out.2.2.2.1, hk.range r2.out.2.2.2.2.1, hk.range r2.out.2.2.2.2.2.1, hk.range r2.out.2.2.2.2.2.2⟩, hk⟩
  refine wp_region_held_drew (S := fun W => (W.cell? ⟨b1, 0, none⟩ = some (.int .i64 xk) ∧ W.cell? ⟨b1, 21, none⟩ = some (.int .i64 xt) ∧ W.cell? ⟨b1, 22, none⟩ = some (.int .i64 xv) ∧ W.cell? ⟨b1, 23, none⟩ = some (.int .i64 xi) ∧ W.rangeAt b1 1 aE ∧ W.rangeAt b1 14 aB ∧ W.rangeAt b1 24 aN) ∧ (W.cell? ⟨b2, 0, none⟩ = some (.int .i64 yk) ∧ W.cell? ⟨b2, 21, none⟩ = some (.int .i64 yt) ∧ W.cell? ⟨b2, 22, none⟩ = some (.int .i64 yv) ∧ W.cell? ⟨b2, 23, none⟩ = some (.int .i64 yi) ∧ W.rangeAt b2 1 bE ∧ W.rangeAt b2 14 bB ∧ W.rangeAt b2 24 bN) ∧ Kp wB W) (by kernel_rfl) (hS _ (Kp.refl _).drew) (fun hHeld => ?_)
  refine take_at 0 5 (v := ?_) rfl rfl (by kernel_rfl) (by kernel_rfl) (by kernel_rfl) (fun _ _ _ h => h) hHeld (Or.inl ⟨by kernel_rfl, ?_⟩) ?_
  rotate_left
  · intro w hSw; (try dsimp only at hSw); go_simp; try with_reducible rfl
  simp only [Act.put, List.setIfInBounds_toArray, List.set_cons_zero, List.set_cons_succ]
  refine take_at 1 6 (v := ?_) rfl rfl (by kernel_rfl) (by kernel_rfl) (by kernel_rfl) (fun _ _ _ h => h) hHeld (Or.inl ⟨by kernel_rfl, ?_⟩) ?_
  rotate_left
  · intro w hSw; (try dsimp only at hSw); go_simp; try with_reducible rfl
  simp only [Act.put, List.setIfInBounds_toArray, List.set_cons_zero, List.set_cons_succ]
  refine take_at 2 7 (v := ?_) rfl rfl (by kernel_rfl) (by kernel_rfl) (by kernel_rfl) (fun _ _ _ h => h) hHeld (Or.inl ⟨by kernel_rfl, ?_⟩) ?_
  rotate_left
  · intro w hSw; (try dsimp only at hSw); go_simp; try with_reducible rfl
  simp only [Act.put, List.setIfInBounds_toArray, List.set_cons_zero, List.set_cons_succ]
  refine take_at 3 8 (v := ?_) rfl rfl (by kernel_rfl) (by kernel_rfl) (by kernel_rfl) (fun _ _ _ h => h) hHeld (Or.inl ⟨by kernel_rfl, ?_⟩) ?_
  rotate_left
  · intro w hSw; (try dsimp only at hSw); go_simp; try with_reducible rfl
  simp only [Act.put, List.setIfInBounds_toArray, List.set_cons_zero, List.set_cons_succ]
  refine take_at 4 9 (v := .bool (decide (xk = yk))) rfl rfl (by kernel_rfl) (by kernel_rfl) (by kernel_rfl) (fun _ _ _ h => h) hHeld (Or.inl ⟨by kernel_rfl, ?_⟩) ?_
  · intro w hSw; (try dsimp only at hSw); go_simp; try rfl
  simp only [Act.put, List.setIfInBounds_toArray, List.set_cons_zero, List.set_cons_succ]
  generalize HA : decide (xk = yk) = c0 at *
  replace HA := hid HA
  refine take_at 5 10 (v := ?_) rfl rfl (by kernel_rfl) (by kernel_rfl) (by kernel_rfl) (fun _ _ _ h => h) hHeld (Or.inl ⟨by kernel_rfl, ?_⟩) ?_
  rotate_left
  · intro w hSw; (try dsimp only at hSw); go_simp; try with_reducible rfl
  simp only [Act.put, List.setIfInBounds_toArray, List.set_cons_zero, List.set_cons_succ]
  refine take_at 6 11 (v := cond c0 (.pointer (some ⟨b1, 21, none⟩)) undef) rfl rfl (by kernel_rfl) (by kernel_rfl) (by kernel_rfl) (fun _ _ _ h => h) hHeld ?_ ?_
  · cases c0
    · exact Or.inr ⟨by kernel_rfl, by kernel_rfl⟩
    · refine Or.inl ⟨by kernel_rfl, ?_⟩
      intro w hSw; (try dsimp only at hSw); go_simp; try rfl
  simp only [Act.put, List.setIfInBounds_toArray, List.set_cons_zero, List.set_cons_succ]
  refine take_at 7 12 (v := cond c0 (.int .i64 xt) undef) rfl rfl (by kernel_rfl) (by kernel_rfl) (by kernel_rfl) (fun _ _ _ h => h) hHeld ?_ ?_
  · cases c0
    · exact Or.inr ⟨by kernel_rfl, by kernel_rfl⟩
    · refine Or.inl ⟨by kernel_rfl, ?_⟩
      intro w hSw; (try dsimp only at hSw); go_simp; try rfl
  simp only [Act.put, List.setIfInBounds_toArray, List.set_cons_zero, List.set_cons_succ]
  refine take_at 8 13 (v := cond c0 (.pointer (some ⟨b2, 21, none⟩)) undef) rfl rfl (by kernel_rfl) (by kernel_rfl) (by kernel_rfl) (fun _ _ _ h => h) hHeld ?_ ?_
  · cases c0
    · exact Or.inr ⟨by kernel_rfl, by kernel_rfl⟩
    · refine Or.inl ⟨by kernel_rfl, ?_⟩
      intro w hSw; (try dsimp only at hSw); go_simp; try rfl
  simp only [Act.put, List.setIfInBounds_toArray, List.set_cons_zero, List.set_cons_succ]
  refine take_at 9 14 (v := cond c0 (.int .i64 yt) undef) rfl rfl (by kernel_rfl) (by kernel_rfl) (by kernel_rfl) (fun _ _ _ h => h) hHeld ?_ ?_
  · cases c0
    · exact Or.inr ⟨by kernel_rfl, by kernel_rfl⟩
    · refine Or.inl ⟨by kernel_rfl, ?_⟩
      intro w hSw; (try dsimp only at hSw); go_simp; try rfl
  simp only [Act.put, List.setIfInBounds_toArray, List.set_cons_zero, List.set_cons_succ]
  refine take_at 10 15 (v := cond c0 (.bool (decide (xt = yt))) undef) rfl rfl (by kernel_rfl) (by kernel_rfl) (by kernel_rfl) (fun _ _ _ h => h) hHeld ?_ ?_
  · cases c0
    · exact Or.inr ⟨by kernel_rfl, by kernel_rfl⟩
    · refine Or.inl ⟨by kernel_rfl, ?_⟩
      intro w hSw; (try dsimp only at hSw); go_simp; try rfl
  simp only [Act.put, List.setIfInBounds_toArray, List.set_cons_zero, List.set_cons_succ]
  refine take_at 11 16 (v := .bool (c0 && decide (xt = yt))) rfl rfl (by kernel_rfl) (by kernel_rfl) (by kernel_rfl) (fun _ _ _ h => h) hHeld ?_ ?_
  · cases c0
    all_goals
      refine Or.inl ⟨by kernel_rfl, ?_⟩
      intro w hSw; (try dsimp only at hSw); go_simp; try rfl
  simp only [Act.put, List.setIfInBounds_toArray, List.set_cons_zero, List.set_cons_succ]
  generalize HB : (c0 && decide (xt = yt)) = c1 at *
  replace HB := hid HB
  refine take_at 12 17 (v := ?_) rfl rfl (by kernel_rfl) (by kernel_rfl) (by kernel_rfl) (fun _ _ _ h => h) hHeld (Or.inl ⟨by kernel_rfl, ?_⟩) ?_
  rotate_left
  · intro w hSw; (try dsimp only at hSw); go_simp; try with_reducible rfl
  simp only [Act.put, List.setIfInBounds_toArray, List.set_cons_zero, List.set_cons_succ]
  refine take_at 13 18 (v := cond c1 (.pointer (some ⟨b1, 22, none⟩)) undef) rfl rfl (by kernel_rfl) (by kernel_rfl) (by kernel_rfl) (fun _ _ _ h => h) hHeld ?_ ?_
  · cases c1
    · exact Or.inr ⟨by kernel_rfl, by kernel_rfl⟩
    · refine Or.inl ⟨by kernel_rfl, ?_⟩
      intro w hSw; (try dsimp only at hSw); go_simp; try rfl
  simp only [Act.put, List.setIfInBounds_toArray, List.set_cons_zero, List.set_cons_succ]
  refine take_at 14 19 (v := cond c1 (.int .i64 xv) undef) rfl rfl (by kernel_rfl) (by kernel_rfl) (by kernel_rfl) (fun _ _ _ h => h) hHeld ?_ ?_
  · cases c1
    · exact Or.inr ⟨by kernel_rfl, by kernel_rfl⟩
    · refine Or.inl ⟨by kernel_rfl, ?_⟩
      intro w hSw; (try dsimp only at hSw); go_simp; try rfl
  simp only [Act.put, List.setIfInBounds_toArray, List.set_cons_zero, List.set_cons_succ]
  refine take_at 15 20 (v := cond c1 (.pointer (some ⟨b2, 22, none⟩)) undef) rfl rfl (by kernel_rfl) (by kernel_rfl) (by kernel_rfl) (fun _ _ _ h => h) hHeld ?_ ?_
  · cases c1
    · exact Or.inr ⟨by kernel_rfl, by kernel_rfl⟩
    · refine Or.inl ⟨by kernel_rfl, ?_⟩
      intro w hSw; (try dsimp only at hSw); go_simp; try rfl
  simp only [Act.put, List.setIfInBounds_toArray, List.set_cons_zero, List.set_cons_succ]
  refine take_at 16 21 (v := cond c1 (.int .i64 yv) undef) rfl rfl (by kernel_rfl) (by kernel_rfl) (by kernel_rfl) (fun _ _ _ h => h) hHeld ?_ ?_
  · cases c1
    · exact Or.inr ⟨by kernel_rfl, by kernel_rfl⟩
    · refine Or.inl ⟨by kernel_rfl, ?_⟩
      intro w hSw; (try dsimp only at hSw); go_simp; try rfl
  simp only [Act.put, List.setIfInBounds_toArray, List.set_cons_zero, List.set_cons_succ]
  refine take_at 17 22 (v := cond c1 (.bool (decide (xv = yv))) undef) rfl rfl (by kernel_rfl) (by kernel_rfl) (by kernel_rfl) (fun _ _ _ h => h) hHeld ?_ ?_
  · cases c1
    · exact Or.inr ⟨by kernel_rfl, by kernel_rfl⟩
    · refine Or.inl ⟨by kernel_rfl, ?_⟩
      intro w hSw; (try dsimp only at hSw); go_simp; try rfl
  simp only [Act.put, List.setIfInBounds_toArray, List.set_cons_zero, List.set_cons_succ]
  refine take_at 18 23 (v := .bool (c1 && decide (xv = yv))) rfl rfl (by kernel_rfl) (by kernel_rfl) (by kernel_rfl) (fun _ _ _ h => h) hHeld ?_ ?_
  · cases c1
    all_goals
      refine Or.inl ⟨by kernel_rfl, ?_⟩
      intro w hSw; (try dsimp only at hSw); go_simp; try rfl
  simp only [Act.put, List.setIfInBounds_toArray, List.set_cons_zero, List.set_cons_succ]
  generalize HC : (c1 && decide (xv = yv)) = c2 at *
  replace HC := hid HC
  refine take_at 19 24 (v := ?_) rfl rfl (by kernel_rfl) (by kernel_rfl) (by kernel_rfl) (fun _ _ _ h => h) hHeld (Or.inl ⟨by kernel_rfl, ?_⟩) ?_
  rotate_left
  · intro w hSw; (try dsimp only at hSw); go_simp; try with_reducible rfl
  simp only [Act.put, List.setIfInBounds_toArray, List.set_cons_zero, List.set_cons_succ]
  refine take_at 20 25 (v := cond c2 (.pointer (some ⟨b1, 23, none⟩)) undef) rfl rfl (by kernel_rfl) (by kernel_rfl) (by kernel_rfl) (fun _ _ _ h => h) hHeld ?_ ?_
  · cases c2
    · exact Or.inr ⟨by kernel_rfl, by kernel_rfl⟩
    · refine Or.inl ⟨by kernel_rfl, ?_⟩
      intro w hSw; (try dsimp only at hSw); go_simp; try rfl
  simp only [Act.put, List.setIfInBounds_toArray, List.set_cons_zero, List.set_cons_succ]
  refine take_at 21 26 (v := cond c2 (.int .i64 xi) undef) rfl rfl (by kernel_rfl) (by kernel_rfl) (by kernel_rfl) (fun _ _ _ h => h) hHeld ?_ ?_
  · cases c2
    · exact Or.inr ⟨by kernel_rfl, by kernel_rfl⟩
    · refine Or.inl ⟨by kernel_rfl, ?_⟩
      intro w hSw; (try dsimp only at hSw); go_simp; try rfl
  simp only [Act.put, List.setIfInBounds_toArray, List.set_cons_zero, List.set_cons_succ]
  refine take_at 22 27 (v := cond c2 (.pointer (some ⟨b2, 23, none⟩)) undef) rfl rfl (by kernel_rfl) (by kernel_rfl) (by kernel_rfl) (fun _ _ _ h => h) hHeld ?_ ?_
  · cases c2
    · exact Or.inr ⟨by kernel_rfl, by kernel_rfl⟩
    · refine Or.inl ⟨by kernel_rfl, ?_⟩
      intro w hSw; (try dsimp only at hSw); go_simp; try rfl
  simp only [Act.put, List.setIfInBounds_toArray, List.set_cons_zero, List.set_cons_succ]
  refine take_at 23 28 (v := cond c2 (.int .i64 yi) undef) rfl rfl (by kernel_rfl) (by kernel_rfl) (by kernel_rfl) (fun _ _ _ h => h) hHeld ?_ ?_
  · cases c2
    · exact Or.inr ⟨by kernel_rfl, by kernel_rfl⟩
    · refine Or.inl ⟨by kernel_rfl, ?_⟩
      intro w hSw; (try dsimp only at hSw); go_simp; try rfl
  simp only [Act.put, List.setIfInBounds_toArray, List.set_cons_zero, List.set_cons_succ]
  refine take_at 24 29 (v := cond c2 (.bool (decide (xi = yi))) undef) rfl rfl (by kernel_rfl) (by kernel_rfl) (by kernel_rfl) (fun _ _ _ h => h) hHeld ?_ ?_
  · cases c2
    · exact Or.inr ⟨by kernel_rfl, by kernel_rfl⟩
    · refine Or.inl ⟨by kernel_rfl, ?_⟩
      intro w hSw; (try dsimp only at hSw); go_simp; try rfl
  simp only [Act.put, List.setIfInBounds_toArray, List.set_cons_zero, List.set_cons_succ]
  refine take_at 25 30 (v := .bool (c2 && decide (xi = yi))) rfl rfl (by kernel_rfl) (by kernel_rfl) (by kernel_rfl) (fun _ _ _ h => h) hHeld ?_ ?_
  · cases c2
    all_goals
      refine Or.inl ⟨by kernel_rfl, ?_⟩
      intro w hSw; (try dsimp only at hSw); go_simp; try rfl
  simp only [Act.put, List.setIfInBounds_toArray, List.set_cons_zero, List.set_cons_succ]
  generalize HD : (c2 && decide (xi = yi)) = c3 at *
  replace HD := hid HD
  refine take_at 26 31 (v := ?_) rfl rfl (by kernel_rfl) (by kernel_rfl) (by kernel_rfl) (fun _ _ _ h => h) hHeld (Or.inl ⟨by kernel_rfl, ?_⟩) ?_
  rotate_left
  · intro w hSw; (try dsimp only at hSw); go_simp; try with_reducible rfl
  simp only [Act.put, List.setIfInBounds_toArray, List.set_cons_zero, List.set_cons_succ]
  have HV := hid (show sameR ⟨xk, xe, xb, xt, xv, xi, xn⟩ ⟨yk, ye, yb, yt, yv, yi, yn⟩ = (c3 && decide (numEvent xe = numEvent ye) && decide (numBase xb = numBase yb) && decide (numEntry xn = numEntry yn)) by rw [← HD.out, ← HC.out, ← HB.out, ← HA.out]; rfl)
  clear HA HB HC HD
  cases c3
  · have hv0 := hid (show sameR ⟨xk, xe, xb, xt, xv, xi, xn⟩ ⟨yk, ye, yb, yt, yv, yi, yn⟩ = false by rw [HV.out]; rfl)
    refine take_at 27 32 (v := undef) rfl rfl (by kernel_rfl) (by kernel_rfl) (by kernel_rfl) (fun _ _ _ h => h) hHeld (Or.inr ⟨by kernel_rfl, rfl⟩) ?_
    simp only [Act.put, List.setIfInBounds_toArray, List.set_cons_zero, List.set_cons_succ]
    refine take_at 28 33 (v := undef) rfl rfl (by kernel_rfl) (by kernel_rfl) (by kernel_rfl) (fun _ _ _ h => h) hHeld (Or.inr ⟨by kernel_rfl, rfl⟩) ?_
    simp only [Act.put, List.setIfInBounds_toArray, List.set_cons_zero, List.set_cons_succ]
    refine take_at 29 34 (v := undef) rfl rfl (by kernel_rfl) (by kernel_rfl) (by kernel_rfl) (fun _ _ _ h => h) hHeld (Or.inr ⟨by kernel_rfl, rfl⟩) ?_
    simp only [Act.put, List.setIfInBounds_toArray, List.set_cons_zero, List.set_cons_succ]
    refine take_at 30 35 (v := undef) rfl rfl (by kernel_rfl) (by kernel_rfl) (by kernel_rfl) (fun _ _ _ h => h) hHeld (Or.inr ⟨by kernel_rfl, rfl⟩) ?_
    simp only [Act.put, List.setIfInBounds_toArray, List.set_cons_zero, List.set_cons_succ]
    refine take_at 31 36 (v := undef) rfl rfl (by kernel_rfl) (by kernel_rfl) (by kernel_rfl) (fun _ _ _ h => h) hHeld (Or.inr ⟨by kernel_rfl, rfl⟩) ?_
    simp only [Act.put, List.setIfInBounds_toArray, List.set_cons_zero, List.set_cons_succ]
    refine take_at 32 37 (v := undef) rfl rfl (by kernel_rfl) (by kernel_rfl) (by kernel_rfl) (fun _ _ _ h => h) hHeld (Or.inr ⟨by kernel_rfl, rfl⟩) ?_
    simp only [Act.put, List.setIfInBounds_toArray, List.set_cons_zero, List.set_cons_succ]
    refine take_at 33 38 (v := undef) rfl rfl (by kernel_rfl) (by kernel_rfl) (by kernel_rfl) (fun _ _ _ h => h) hHeld (Or.inr ⟨by kernel_rfl, rfl⟩) ?_
    simp only [Act.put, List.setIfInBounds_toArray, List.set_cons_zero, List.set_cons_succ]
    refine take_at 34 39 (v := ?_) rfl rfl (by kernel_rfl) (by kernel_rfl) (by kernel_rfl) (fun _ _ _ h => h) hHeld (Or.inl ⟨by kernel_rfl, ?_⟩) ?_
    rotate_left
    · intro w hSw; (try dsimp only at hSw); go_simp; try with_reducible rfl
    simp only [Act.put, List.setIfInBounds_toArray, List.set_cons_zero, List.set_cons_succ]
    refine take_at 35 40 (v := ?_) rfl rfl (by kernel_rfl) (by kernel_rfl) (by kernel_rfl) (fun _ _ _ h => h) hHeld (Or.inl ⟨by kernel_rfl, ?_⟩) ?_
    rotate_left
    · intro w hSw; (try dsimp only at hSw); go_simp; try with_reducible rfl
    simp only [Act.put, List.setIfInBounds_toArray, List.set_cons_zero, List.set_cons_succ]
    refine take_at 36 41 (v := undef) rfl rfl (by kernel_rfl) (by kernel_rfl) (by kernel_rfl) (fun _ _ _ h => h) hHeld (Or.inr ⟨by kernel_rfl, rfl⟩) ?_
    simp only [Act.put, List.setIfInBounds_toArray, List.set_cons_zero, List.set_cons_succ]
    refine take_at 37 42 (v := undef) rfl rfl (by kernel_rfl) (by kernel_rfl) (by kernel_rfl) (fun _ _ _ h => h) hHeld (Or.inr ⟨by kernel_rfl, rfl⟩) ?_
    simp only [Act.put, List.setIfInBounds_toArray, List.set_cons_zero, List.set_cons_succ]
    refine take_at 38 43 (v := undef) rfl rfl (by kernel_rfl) (by kernel_rfl) (by kernel_rfl) (fun _ _ _ h => h) hHeld (Or.inr ⟨by kernel_rfl, rfl⟩) ?_
    simp only [Act.put, List.setIfInBounds_toArray, List.set_cons_zero, List.set_cons_succ]
    refine take_at 39 44 (v := undef) rfl rfl (by kernel_rfl) (by kernel_rfl) (by kernel_rfl) (fun _ _ _ h => h) hHeld (Or.inr ⟨by kernel_rfl, rfl⟩) ?_
    simp only [Act.put, List.setIfInBounds_toArray, List.set_cons_zero, List.set_cons_succ]
    refine take_at 40 45 (v := undef) rfl rfl (by kernel_rfl) (by kernel_rfl) (by kernel_rfl) (fun _ _ _ h => h) hHeld (Or.inr ⟨by kernel_rfl, rfl⟩) ?_
    simp only [Act.put, List.setIfInBounds_toArray, List.set_cons_zero, List.set_cons_succ]
    refine take_at 41 46 (v := undef) rfl rfl (by kernel_rfl) (by kernel_rfl) (by kernel_rfl) (fun _ _ _ h => h) hHeld (Or.inr ⟨by kernel_rfl, rfl⟩) ?_
    simp only [Act.put, List.setIfInBounds_toArray, List.set_cons_zero, List.set_cons_succ]
    refine take_at 42 47 (v := undef) rfl rfl (by kernel_rfl) (by kernel_rfl) (by kernel_rfl) (fun _ _ _ h => h) hHeld (Or.inr ⟨by kernel_rfl, rfl⟩) ?_
    simp only [Act.put, List.setIfInBounds_toArray, List.set_cons_zero, List.set_cons_succ]
    refine take_at 43 48 (v := ?_) rfl rfl (by kernel_rfl) (by kernel_rfl) (by kernel_rfl) (fun _ _ _ h => h) hHeld (Or.inl ⟨by kernel_rfl, ?_⟩) ?_
    rotate_left
    · intro w hSw; (try dsimp only at hSw); go_simp; try with_reducible rfl
    simp only [Act.put, List.setIfInBounds_toArray, List.set_cons_zero, List.set_cons_succ]
    refine take_at 44 49 (v := ?_) rfl rfl (by kernel_rfl) (by kernel_rfl) (by kernel_rfl) (fun _ _ _ h => h) hHeld (Or.inl ⟨by kernel_rfl, ?_⟩) ?_
    rotate_left
    · intro w hSw; (try dsimp only at hSw); go_simp; try with_reducible rfl
    simp only [Act.put, List.setIfInBounds_toArray, List.set_cons_zero, List.set_cons_succ]
    refine take_at 45 50 (v := undef) rfl rfl (by kernel_rfl) (by kernel_rfl) (by kernel_rfl) (fun _ _ _ h => h) hHeld (Or.inr ⟨by kernel_rfl, rfl⟩) ?_
    simp only [Act.put, List.setIfInBounds_toArray, List.set_cons_zero, List.set_cons_succ]
    refine take_at 46 51 (v := undef) rfl rfl (by kernel_rfl) (by kernel_rfl) (by kernel_rfl) (fun _ _ _ h => h) hHeld (Or.inr ⟨by kernel_rfl, rfl⟩) ?_
    simp only [Act.put, List.setIfInBounds_toArray, List.set_cons_zero, List.set_cons_succ]
    refine take_at 47 52 (v := undef) rfl rfl (by kernel_rfl) (by kernel_rfl) (by kernel_rfl) (fun _ _ _ h => h) hHeld (Or.inr ⟨by kernel_rfl, rfl⟩) ?_
    simp only [Act.put, List.setIfInBounds_toArray, List.set_cons_zero, List.set_cons_succ]
    refine take_at 48 53 (v := undef) rfl rfl (by kernel_rfl) (by kernel_rfl) (by kernel_rfl) (fun _ _ _ h => h) hHeld (Or.inr ⟨by kernel_rfl, rfl⟩) ?_
    simp only [Act.put, List.setIfInBounds_toArray, List.set_cons_zero, List.set_cons_succ]
    refine take_at 49 54 (v := undef) rfl rfl (by kernel_rfl) (by kernel_rfl) (by kernel_rfl) (fun _ _ _ h => h) hHeld (Or.inr ⟨by kernel_rfl, rfl⟩) ?_
    simp only [Act.put, List.setIfInBounds_toArray, List.set_cons_zero, List.set_cons_succ]
    refine take_at 50 55 (v := undef) rfl rfl (by kernel_rfl) (by kernel_rfl) (by kernel_rfl) (fun _ _ _ h => h) hHeld (Or.inr ⟨by kernel_rfl, rfl⟩) ?_
    simp only [Act.put, List.setIfInBounds_toArray, List.set_cons_zero, List.set_cons_succ]
    refine take_at 51 56 (v := undef) rfl rfl (by kernel_rfl) (by kernel_rfl) (by kernel_rfl) (fun _ _ _ h => h) hHeld (Or.inr ⟨by kernel_rfl, rfl⟩) ?_
    simp only [Act.put, List.setIfInBounds_toArray, List.set_cons_zero, List.set_cons_succ]
    refine take_at 52 57 (v := ?_) rfl rfl (by kernel_rfl) (by kernel_rfl) (by kernel_rfl) (fun _ _ _ h => h) hHeld (Or.inl ⟨by kernel_rfl, ?_⟩) ?_
    rotate_left
    · intro w hSw; (try dsimp only at hSw); go_simp; try with_reducible rfl
    simp only [Act.put, List.setIfInBounds_toArray, List.set_cons_zero, List.set_cons_succ]
    refine wpAnyH_ready (rs := [53]) (by kernel_rfl) (by simp) ?_
    refine AllReadyH.cons (o := _) rfl (fun K hK => ?_) AllReadyH.nil
    go_simp
    refine hK.out _ _ hHeld (fun hHeld2 => ?_)
    clear hK K hHeld
    have hHeld := hHeld2
    clear hHeld2
    refine wpAnyH_done (by kernel_rfl) ?_ _
    have k9 := k2.trans hHeld.2.2
    go_wp2
    go_ret
    exact ⟨by rw [hv0.out]; rfl, k9⟩
  · skip
    refine take_at 27 32 (v := ?_) rfl rfl (by kernel_rfl) (by kernel_rfl) (by kernel_rfl) (fun _ _ _ h => h) hHeld (Or.inl ⟨by kernel_rfl, ?_⟩) ?_
    rotate_left
    · intro w hSw; (try dsimp only at hSw); go_simp; try with_reducible rfl
    simp only [Act.put, List.setIfInBounds_toArray, List.set_cons_zero, List.set_cons_succ]
    refine take_at 28 33 (v := _) rfl rfl (by kernel_rfl) (by kernel_rfl) (by kernel_rfl) (fun _ _ _ h => h) hHeld (yieldsIf_load_mid (by kernel_rfl) 37 _ rfl _ 1 rfl aE _ (fun _ h => h.1.2.2.2.2.1) Try.underlying37 rfl (by assumption)) ?_
    simp only [Act.put, List.setIfInBounds_toArray, List.set_cons_zero, List.set_cons_succ]
    refine take_at 30 35 (v := ?_) rfl rfl (by kernel_rfl) (by kernel_rfl) (by kernel_rfl) (fun _ _ _ h => h) hHeld (Or.inl ⟨by kernel_rfl, ?_⟩) ?_
    rotate_left
    · intro w hSw; (try dsimp only at hSw); go_simp; try with_reducible rfl
    simp only [Act.put, List.setIfInBounds_toArray, List.set_cons_zero, List.set_cons_succ]
    refine take_at 31 36 (v := _) rfl rfl (by kernel_rfl) (by kernel_rfl) (by kernel_rfl) (fun _ _ _ h => h) hHeld (yieldsIf_load_mid (by kernel_rfl) 37 _ rfl _ 1 rfl bE _ (fun _ h => h.2.1.2.2.2.2.1) Try.underlying37 rfl (by assumption)) ?_
    simp only [Act.put, List.setIfInBounds_toArray, List.set_cons_zero, List.set_cons_succ]
    refine wpAnyH_ready (rs := [29]) (by kernel_rfl) (by simp) ?_
    refine AllReadyH.cons (o := _) rfl (fun K hK => ?_) AllReadyH.nil
    go_simp
    refine (nEvent_any _ xe _ (xa1.kp hHeld.2.2) px).mono ?_
    rintro e w1 ⟨v1, rfl, own1, h1⟩
    obtain ⟨D1, z1, rfl, zz1, zf1⟩ := own1.form
    refine hK.out _ _ (hS _ (hHeld.2.2.trans h1)) (fun hHeld2 => ?_)
    clear hK K hHeld
    have hHeld := hHeld2
    clear hHeld2
    refine wpAnyH_ready (rs := [32]) (by kernel_rfl) (by simp) ?_
    refine AllReadyH.cons (o := _) rfl (fun K hK => ?_) AllReadyH.nil
    go_simp
    refine (nEvent_any _ ye _ (xb1.kp hHeld.2.2) py).mono ?_
    rintro e w2 ⟨v2, rfl, own2, h2⟩
    obtain ⟨D2, z2, rfl, zz2, zf2⟩ := own2.form
    refine hK.out _ _ (hS _ (hHeld.2.2.trans h2)) (fun hHeld2 => ?_)
    clear hK K hHeld
    have hHeld := hHeld2
    clear hHeld2
    refine wpAnyH_ready (rs := [33]) (by kernel_rfl) (by simp) ?_
    refine AllReadyH.cons (o := _) rfl (fun K hK => ?_) AllReadyH.nil
    go_simp
    refine (Same_any _ _ (numEvent xe) (numEvent ye) _ ((own1.sl encInt_len).keep (pl_stable _) h2) (own2.sl encInt_len)).mono ?_
    rintro e w3 ⟨rfl, h3⟩
    refine hK.out _ _ (hS _ (hHeld.2.2.trans h3)) (fun hHeld2 => ?_)
    clear hK K hHeld
    have hHeld := hHeld2
    clear hHeld2
    clear own1 own2 h1 h2 h3
    generalize HGE : decide (numEvent xe = numEvent ye) = g0 at *
    replace HGE := hid HGE
    refine take_at 34 39 (v := ?_) rfl rfl (by kernel_rfl) (by kernel_rfl) (by kernel_rfl) (fun _ _ _ h => h) hHeld (Or.inl ⟨by kernel_rfl, ?_⟩) ?_
    rotate_left
    · intro w hSw; (try dsimp only at hSw); go_simp; try with_reducible rfl
    simp only [Act.put, List.setIfInBounds_toArray, List.set_cons_zero, List.set_cons_succ]
    refine take_at 35 40 (v := ?_) rfl rfl (by kernel_rfl) (by kernel_rfl) (by kernel_rfl) (fun _ _ _ h => h) hHeld (Or.inl ⟨by kernel_rfl, ?_⟩) ?_
    rotate_left
    · intro w hSw; (try dsimp only at hSw); go_simp; try with_reducible rfl
    simp only [Act.put, List.setIfInBounds_toArray, List.set_cons_zero, List.set_cons_succ]
    cases g0
    · have hv0 := hid (show sameR ⟨xk, xe, xb, xt, xv, xi, xn⟩ ⟨yk, ye, yb, yt, yv, yi, yn⟩ = false by rw [HV.out]; rfl)
      refine take_at 36 41 (v := undef) rfl rfl (by kernel_rfl) (by kernel_rfl) (by kernel_rfl) (fun _ _ _ h => h) hHeld (Or.inr ⟨by kernel_rfl, rfl⟩) ?_
      simp only [Act.put, List.setIfInBounds_toArray, List.set_cons_zero, List.set_cons_succ]
      refine take_at 37 42 (v := undef) rfl rfl (by kernel_rfl) (by kernel_rfl) (by kernel_rfl) (fun _ _ _ h => h) hHeld (Or.inr ⟨by kernel_rfl, rfl⟩) ?_
      simp only [Act.put, List.setIfInBounds_toArray, List.set_cons_zero, List.set_cons_succ]
      refine take_at 38 43 (v := undef) rfl rfl (by kernel_rfl) (by kernel_rfl) (by kernel_rfl) (fun _ _ _ h => h) hHeld (Or.inr ⟨by kernel_rfl, rfl⟩) ?_
      simp only [Act.put, List.setIfInBounds_toArray, List.set_cons_zero, List.set_cons_succ]
      refine take_at 39 44 (v := undef) rfl rfl (by kernel_rfl) (by kernel_rfl) (by kernel_rfl) (fun _ _ _ h => h) hHeld (Or.inr ⟨by kernel_rfl, rfl⟩) ?_
      simp only [Act.put, List.setIfInBounds_toArray, List.set_cons_zero, List.set_cons_succ]
      refine take_at 40 45 (v := undef) rfl rfl (by kernel_rfl) (by kernel_rfl) (by kernel_rfl) (fun _ _ _ h => h) hHeld (Or.inr ⟨by kernel_rfl, rfl⟩) ?_
      simp only [Act.put, List.setIfInBounds_toArray, List.set_cons_zero, List.set_cons_succ]
      refine take_at 41 46 (v := undef) rfl rfl (by kernel_rfl) (by kernel_rfl) (by kernel_rfl) (fun _ _ _ h => h) hHeld (Or.inr ⟨by kernel_rfl, rfl⟩) ?_
      simp only [Act.put, List.setIfInBounds_toArray, List.set_cons_zero, List.set_cons_succ]
      refine take_at 42 47 (v := undef) rfl rfl (by kernel_rfl) (by kernel_rfl) (by kernel_rfl) (fun _ _ _ h => h) hHeld (Or.inr ⟨by kernel_rfl, rfl⟩) ?_
      simp only [Act.put, List.setIfInBounds_toArray, List.set_cons_zero, List.set_cons_succ]
      refine take_at 43 48 (v := ?_) rfl rfl (by kernel_rfl) (by kernel_rfl) (by kernel_rfl) (fun _ _ _ h => h) hHeld (Or.inl ⟨by kernel_rfl, ?_⟩) ?_
      rotate_left
      · intro w hSw; (try dsimp only at hSw); go_simp; try with_reducible rfl
      simp only [Act.put, List.setIfInBounds_toArray, List.set_cons_zero, List.set_cons_succ]
      refine take_at 44 49 (v := ?_) rfl rfl (by kernel_rfl) (by kernel_rfl) (by kernel_rfl) (fun _ _ _ h => h) hHeld (Or.inl ⟨by kernel_rfl, ?_⟩) ?_
      rotate_left
      · intro w hSw; (try dsimp only at hSw); go_simp; try with_reducible rfl
      simp only [Act.put, List.setIfInBounds_toArray, List.set_cons_zero, List.set_cons_succ]
      refine take_at 45 50 (v := undef) rfl rfl (by kernel_rfl) (by kernel_rfl) (by kernel_rfl) (fun _ _ _ h => h) hHeld (Or.inr ⟨by kernel_rfl, rfl⟩) ?_
      simp only [Act.put, List.setIfInBounds_toArray, List.set_cons_zero, List.set_cons_succ]
      refine take_at 46 51 (v := undef) rfl rfl (by kernel_rfl) (by kernel_rfl) (by kernel_rfl) (fun _ _ _ h => h) hHeld (Or.inr ⟨by kernel_rfl, rfl⟩) ?_
      simp only [Act.put, List.setIfInBounds_toArray, List.set_cons_zero, List.set_cons_succ]
      refine take_at 47 52 (v := undef) rfl rfl (by kernel_rfl) (by kernel_rfl) (by kernel_rfl) (fun _ _ _ h => h) hHeld (Or.inr ⟨by kernel_rfl, rfl⟩) ?_
      simp only [Act.put, List.setIfInBounds_toArray, List.set_cons_zero, List.set_cons_succ]
      refine take_at 48 53 (v := undef) rfl rfl (by kernel_rfl) (by kernel_rfl) (by kernel_rfl) (fun _ _ _ h => h) hHeld (Or.inr ⟨by kernel_rfl, rfl⟩) ?_
      simp only [Act.put, List.setIfInBounds_toArray, List.set_cons_zero, List.set_cons_succ]
      refine take_at 49 54 (v := undef) rfl rfl (by kernel_rfl) (by kernel_rfl) (by kernel_rfl) (fun _ _ _ h => h) hHeld (Or.inr ⟨by kernel_rfl, rfl⟩) ?_
      simp only [Act.put, List.setIfInBounds_toArray, List.set_cons_zero, List.set_cons_succ]
      refine take_at 50 55 (v := undef) rfl rfl (by kernel_rfl) (by kernel_rfl) (by kernel_rfl) (fun _ _ _ h => h) hHeld (Or.inr ⟨by kernel_rfl, rfl⟩) ?_
      simp only [Act.put, List.setIfInBounds_toArray, List.set_cons_zero, List.set_cons_succ]
      refine take_at 51 56 (v := undef) rfl rfl (by kernel_rfl) (by kernel_rfl) (by kernel_rfl) (fun _ _ _ h => h) hHeld (Or.inr ⟨by kernel_rfl, rfl⟩) ?_
      simp only [Act.put, List.setIfInBounds_toArray, List.set_cons_zero, List.set_cons_succ]
      refine take_at 52 57 (v := ?_) rfl rfl (by kernel_rfl) (by kernel_rfl) (by kernel_rfl) (fun _ _ _ h => h) hHeld (Or.inl ⟨by kernel_rfl, ?_⟩) ?_
      rotate_left
      · intro w hSw; (try dsimp only at hSw); go_simp; try with_reducible rfl
      simp only [Act.put, List.setIfInBounds_toArray, List.set_cons_zero, List.set_cons_succ]
      refine wpAnyH_ready (rs := [53]) (by kernel_rfl) (by simp) ?_
      refine AllReadyH.cons (o := _) rfl (fun K hK => ?_) AllReadyH.nil
      go_simp
      refine hK.out _ _ hHeld (fun hHeld2 => ?_)
      clear hK K hHeld
      have hHeld := hHeld2
      clear hHeld2
      refine wpAnyH_done (by kernel_rfl) ?_ _
      have k9 := k2.trans hHeld.2.2
      go_wp2
      go_ret
      exact ⟨by rw [hv0.out]; rfl, k9⟩
    · skip
      refine take_at 36 41 (v := ?_) rfl rfl (by kernel_rfl) (by kernel_rfl) (by kernel_rfl) (fun _ _ _ h => h) hHeld (Or.inl ⟨by kernel_rfl, ?_⟩) ?_
      rotate_left
      · intro w hSw; (try dsimp only at hSw); go_simp; try with_reducible rfl
      simp only [Act.put, List.setIfInBounds_toArray, List.set_cons_zero, List.set_cons_succ]
      refine take_at 37 42 (v := _) rfl rfl (by kernel_rfl) (by kernel_rfl) (by kernel_rfl) (fun _ _ _ h => h) hHeld (yieldsIf_load_mid (by kernel_rfl) 42 _ rfl _ 14 rfl aB _ (fun _ h => h.1.2.2.2.2.2.1) Try.underlying42 rfl (by assumption)) ?_
      simp only [Act.put, List.setIfInBounds_toArray, List.set_cons_zero, List.set_cons_succ]
      refine take_at 39 44 (v := ?_) rfl rfl (by kernel_rfl) (by kernel_rfl) (by kernel_rfl) (fun _ _ _ h => h) hHeld (Or.inl ⟨by kernel_rfl, ?_⟩) ?_
      rotate_left
      · intro w hSw; (try dsimp only at hSw); go_simp; try with_reducible rfl
      simp only [Act.put, List.setIfInBounds_toArray, List.set_cons_zero, List.set_cons_succ]
      refine take_at 40 45 (v := _) rfl rfl (by kernel_rfl) (by kernel_rfl) (by kernel_rfl) (fun _ _ _ h => h) hHeld (yieldsIf_load_mid (by kernel_rfl) 42 _ rfl _ 14 rfl bB _ (fun _ h => h.2.1.2.2.2.2.2.1) Try.underlying42 rfl (by assumption)) ?_
      simp only [Act.put, List.setIfInBounds_toArray, List.set_cons_zero, List.set_cons_succ]
      refine wpAnyH_ready (rs := [38]) (by kernel_rfl) (by simp) ?_
      refine AllReadyH.cons (o := _) rfl (fun K hK => ?_) AllReadyH.nil
      go_simp
      refine (nBase_any _ xb _ (xa2.kp hHeld.2.2) sx2).mono ?_
      rintro e w1 ⟨v1, rfl, own1, h1⟩
      obtain ⟨D1, z1, rfl, zz1, zf1⟩ := own1.form
      refine hK.out _ _ (hS _ (hHeld.2.2.trans h1)) (fun hHeld2 => ?_)
      clear hK K hHeld
      have hHeld := hHeld2
      clear hHeld2
      refine wpAnyH_ready (rs := [41]) (by kernel_rfl) (by simp) ?_
      refine AllReadyH.cons (o := _) rfl (fun K hK => ?_) AllReadyH.nil
      go_simp
      refine (nBase_any _ yb _ (xb2.kp hHeld.2.2) sy2).mono ?_
      rintro e w2 ⟨v2, rfl, own2, h2⟩
      obtain ⟨D2, z2, rfl, zz2, zf2⟩ := own2.form
      refine hK.out _ _ (hS _ (hHeld.2.2.trans h2)) (fun hHeld2 => ?_)
      clear hK K hHeld
      have hHeld := hHeld2
      clear hHeld2
      refine wpAnyH_ready (rs := [42]) (by kernel_rfl) (by simp) ?_
      refine AllReadyH.cons (o := _) rfl (fun K hK => ?_) AllReadyH.nil
      go_simp
      refine (Same_any _ _ (numBase xb) (numBase yb) _ ((own1.sl encInt_len).keep (pl_stable _) h2) (own2.sl encInt_len)).mono ?_
      rintro e w3 ⟨rfl, h3⟩
      refine hK.out _ _ (hS _ (hHeld.2.2.trans h3)) (fun hHeld2 => ?_)
      clear hK K hHeld
      have hHeld := hHeld2
      clear hHeld2
      clear own1 own2 h1 h2 h3
      generalize HGB : decide (numBase xb = numBase yb) = g1 at *
      replace HGB := hid HGB
      refine take_at 43 48 (v := ?_) rfl rfl (by kernel_rfl) (by kernel_rfl) (by kernel_rfl) (fun _ _ _ h => h) hHeld (Or.inl ⟨by kernel_rfl, ?_⟩) ?_
      rotate_left
      · intro w hSw; (try dsimp only at hSw); go_simp; try with_reducible rfl
      simp only [Act.put, List.setIfInBounds_toArray, List.set_cons_zero, List.set_cons_succ]
      refine take_at 44 49 (v := ?_) rfl rfl (by kernel_rfl) (by kernel_rfl) (by kernel_rfl) (fun _ _ _ h => h) hHeld (Or.inl ⟨by kernel_rfl, ?_⟩) ?_
      rotate_left
      · intro w hSw; (try dsimp only at hSw); go_simp; try with_reducible rfl
      simp only [Act.put, List.setIfInBounds_toArray, List.set_cons_zero, List.set_cons_succ]
      cases g1
      · have hv0 := hid (show sameR ⟨xk, xe, xb, xt, xv, xi, xn⟩ ⟨yk, ye, yb, yt, yv, yi, yn⟩ = false by rw [HV.out]; rfl)
        refine take_at 45 50 (v := undef) rfl rfl (by kernel_rfl) (by kernel_rfl) (by kernel_rfl) (fun _ _ _ h => h) hHeld (Or.inr ⟨by kernel_rfl, rfl⟩) ?_
        simp only [Act.put, List.setIfInBounds_toArray, List.set_cons_zero, List.set_cons_succ]
        refine take_at 46 51 (v := undef) rfl rfl (by kernel_rfl) (by kernel_rfl) (by kernel_rfl) (fun _ _ _ h => h) hHeld (Or.inr ⟨by kernel_rfl, rfl⟩) ?_
        simp only [Act.put, List.setIfInBounds_toArray, List.set_cons_zero, List.set_cons_succ]
        refine take_at 47 52 (v := undef) rfl rfl (by kernel_rfl) (by kernel_rfl) (by kernel_rfl) (fun _ _ _ h => h) hHeld (Or.inr ⟨by kernel_rfl, rfl⟩) ?_
        simp only [Act.put, List.setIfInBounds_toArray, List.set_cons_zero, List.set_cons_succ]
        refine take_at 48 53 (v := undef) rfl rfl (by kernel_rfl) (by kernel_rfl) (by kernel_rfl) (fun _ _ _ h => h) hHeld (Or.inr ⟨by kernel_rfl, rfl⟩) ?_
        simp only [Act.put, List.setIfInBounds_toArray, List.set_cons_zero, List.set_cons_succ]
        refine take_at 49 54 (v := undef) rfl rfl (by kernel_rfl) (by kernel_rfl) (by kernel_rfl) (fun _ _ _ h => h) hHeld (Or.inr ⟨by kernel_rfl, rfl⟩) ?_
        simp only [Act.put, List.setIfInBounds_toArray, List.set_cons_zero, List.set_cons_succ]
        refine take_at 50 55 (v := undef) rfl rfl (by kernel_rfl) (by kernel_rfl) (by kernel_rfl) (fun _ _ _ h => h) hHeld (Or.inr ⟨by kernel_rfl, rfl⟩) ?_
        simp only [Act.put, List.setIfInBounds_toArray, List.set_cons_zero, List.set_cons_succ]
        refine take_at 51 56 (v := undef) rfl rfl (by kernel_rfl) (by kernel_rfl) (by kernel_rfl) (fun _ _ _ h => h) hHeld (Or.inr ⟨by kernel_rfl, rfl⟩) ?_
        simp only [Act.put, List.setIfInBounds_toArray, List.set_cons_zero, List.set_cons_succ]
        refine take_at 52 57 (v := ?_) rfl rfl (by kernel_rfl) (by kernel_rfl) (by kernel_rfl) (fun _ _ _ h => h) hHeld (Or.inl ⟨by kernel_rfl, ?_⟩) ?_
        rotate_left
        · intro w hSw; (try dsimp only at hSw); go_simp; try with_reducible rfl
        simp only [Act.put, List.setIfInBounds_toArray, List.set_cons_zero, List.set_cons_succ]
        refine wpAnyH_ready (rs := [53]) (by kernel_rfl) (by simp) ?_
        refine AllReadyH.cons (o := _) rfl (fun K hK => ?_) AllReadyH.nil
        go_simp
        refine hK.out _ _ hHeld (fun hHeld2 => ?_)
        clear hK K hHeld
        have hHeld := hHeld2
        clear hHeld2
        refine wpAnyH_done (by kernel_rfl) ?_ _
        have k9 := k2.trans hHeld.2.2
        go_wp2
        go_ret
        exact ⟨by rw [hv0.out]; rfl, k9⟩
      · skip
        refine take_at 45 50 (v := ?_) rfl rfl (by kernel_rfl) (by kernel_rfl) (by kernel_rfl) (fun _ _ _ h => h) hHeld (Or.inl ⟨by kernel_rfl, ?_⟩) ?_
        rotate_left
        · intro w hSw; (try dsimp only at hSw); go_simp; try with_reducible rfl
        simp only [Act.put, List.setIfInBounds_toArray, List.set_cons_zero, List.set_cons_succ]
        refine take_at 46 51 (v := _) rfl rfl (by kernel_rfl) (by kernel_rfl) (by kernel_rfl) (fun _ _ _ h => h) hHeld (yieldsIf_load_mid (by kernel_rfl) 44 _ rfl _ 24 rfl aN _ (fun _ h => h.1.2.2.2.2.2.2) Try.underlying44 rfl (by assumption)) ?_
        simp only [Act.put, List.setIfInBounds_toArray, List.set_cons_zero, List.set_cons_succ]
        refine take_at 48 53 (v := ?_) rfl rfl (by kernel_rfl) (by kernel_rfl) (by kernel_rfl) (fun _ _ _ h => h) hHeld (Or.inl ⟨by kernel_rfl, ?_⟩) ?_
        rotate_left
        · intro w hSw; (try dsimp only at hSw); go_simp; try with_reducible rfl
        simp only [Act.put, List.setIfInBounds_toArray, List.set_cons_zero, List.set_cons_succ]
        refine take_at 49 54 (v := _) rfl rfl (by kernel_rfl) (by kernel_rfl) (by kernel_rfl) (fun _ _ _ h => h) hHeld (yieldsIf_load_mid (by kernel_rfl) 44 _ rfl _ 24 rfl bN _ (fun _ h => h.2.1.2.2.2.2.2.2) Try.underlying44 rfl (by assumption)) ?_
        simp only [Act.put, List.setIfInBounds_toArray, List.set_cons_zero, List.set_cons_succ]
        refine wpAnyH_ready (rs := [47]) (by kernel_rfl) (by simp) ?_
        refine AllReadyH.cons (o := _) rfl (fun K hK => ?_) AllReadyH.nil
        go_simp
        refine (nEntry_any _ xn _ (xa3.kp hHeld.2.2) qx).mono ?_
        rintro e w1 ⟨v1, rfl, own1, h1⟩
        obtain ⟨D1, z1, rfl, zz1, zf1⟩ := own1.form
        refine hK.out _ _ (hS _ (hHeld.2.2.trans h1)) (fun hHeld2 => ?_)
        clear hK K hHeld
        have hHeld := hHeld2
        clear hHeld2
        refine wpAnyH_ready (rs := [50]) (by kernel_rfl) (by simp) ?_
        refine AllReadyH.cons (o := _) rfl (fun K hK => ?_) AllReadyH.nil
        go_simp
        refine (nEntry_any _ yn _ (xb3.kp hHeld.2.2) qy).mono ?_
        rintro e w2 ⟨v2, rfl, own2, h2⟩
        obtain ⟨D2, z2, rfl, zz2, zf2⟩ := own2.form
        refine hK.out _ _ (hS _ (hHeld.2.2.trans h2)) (fun hHeld2 => ?_)
        clear hK K hHeld
        have hHeld := hHeld2
        clear hHeld2
        refine wpAnyH_ready (rs := [51]) (by kernel_rfl) (by simp) ?_
        refine AllReadyH.cons (o := _) rfl (fun K hK => ?_) AllReadyH.nil
        go_simp
        refine (Same_any _ _ (numEntry xn) (numEntry yn) _ ((own1.sl encInt_len).keep (pl_stable _) h2) (own2.sl encInt_len)).mono ?_
        rintro e w3 ⟨rfl, h3⟩
        refine hK.out _ _ (hS _ (hHeld.2.2.trans h3)) (fun hHeld2 => ?_)
        clear hK K hHeld
        have hHeld := hHeld2
        clear hHeld2
        clear own1 own2 h1 h2 h3
        generalize HGN : decide (numEntry xn = numEntry yn) = g2 at *
        replace HGN := hid HGN
        refine take_at 52 57 (v := ?_) rfl rfl (by kernel_rfl) (by kernel_rfl) (by kernel_rfl) (fun _ _ _ h => h) hHeld (Or.inl ⟨by kernel_rfl, ?_⟩) ?_
        rotate_left
        · intro w hSw; (try dsimp only at hSw); go_simp; try with_reducible rfl
        simp only [Act.put, List.setIfInBounds_toArray, List.set_cons_zero, List.set_cons_succ]
        have hv0 := hid (show sameR ⟨xk, xe, xb, xt, xv, xi, xn⟩ ⟨yk, ye, yb, yt, yv, yi, yn⟩ = g2 by rw [HV.out]; rfl)
        refine wpAnyH_ready (rs := [53]) (by kernel_rfl) (by simp) ?_
        refine AllReadyH.cons (o := _) rfl (fun K hK => ?_) AllReadyH.nil
        go_simp
        refine hK.out _ _ hHeld (fun hHeld2 => ?_)
        clear hK K hHeld
        have hHeld := hHeld2
        clear hHeld2
        refine wpAnyH_done (by kernel_rfl) ?_ _
        have k9 := k2.trans hHeld.2.2
        go_wp2
        go_ret
        exact ⟨by rw [hv0.out]; rfl, k9⟩
end Go.Proofs.Ytmeafoakbkjifaa
namespace Go.Proofs.Ytmeafoakbkjifaa
set_option linter.unusedSimpArgs false
set_option linter.unusedVariables false
open Go.RowKit

theorem Small_any (v : Value) (l : List Int) (w : World) (hl : Ints w v l) : Calls Try.prog 17 #[v] w fun e w' => e = .returned (.bool (decide (l.length ≤ 600))) ∧ Kp w w' := by
  obtain ⟨A, c, rfl, hc, hm⟩ := hl.form
  by_cases h : l.length ≤ 600
  · have e1 : decide ((l.length : Int) ≤ 600) = true := decide_eq_true (by omega)
    have e2 : decide (l.length ≤ 600) = true := decide_eq_true h
    go_enter Try.func17, Try.ntmps17
    go_wp2
    go_ret
    exact ⟨by rw [e2]; rfl, Kp.refl _⟩
  · have e1 : decide ((l.length : Int) ≤ 600) = false := decide_eq_false (by omega)
    have e2 : decide (l.length ≤ 600) = false := decide_eq_false h
    go_enter Try.func17, Try.ntmps17
    go_wp2
    go_ret
    exact ⟨by rw [e2]; rfl, Kp.refl _⟩
theorem numRec_formed {x : Record} (h : formedB x = true) : numRec x = numRecord x := by
  unfold numRec
  rw [formed_iff] at h
  rw [if_pos ⟨h.1, h.2.1⟩]
set_option maxHeartbeats 1000000 in
theorem nEncodeRecord_any (val : Value) (x : Record) (w : World) (hv : RecordV w val x) (sx : ShortR x) (hlen : (numRec x).length ≤ 100000) :
    Calls Try.prog 22 #[val] w fun e w' => e = retE (encR x) ∧ Kp w w' := by
  have HF : Hid (encR x = if formedB x then encE (numRecord x) else ([], 1)) := hid rfl
  generalize encR x = r at *
  obtain ⟨cs, rfl, hcs⟩ := hv.cells
  have k0 := (Kp.refl w).alloc (.cells cs.toArray 46)
  have r0 := range_box w cs 46
  have hi : (Try.prog.info? 46).map (·.size) = some cs.length := by rw [hcs]; kernel_rfl
  have hv0 := hv.kp k0
  go_enter Try.func22, Try.ntmps22
  go_wp2_with (refine wpList_load_mid rfl 46 (.tmp 1) rfl w.heap.size 0 rfl cs _ r0 Try.underlying46 rfl hi ?_)
  refine (nRecord_any _ x _ hv0 sx.1 sx.2.1 sx.2.2).mono ?_
  rintro e w1 ⟨v1, rfl, own1, hk1⟩
  have k1 := k0.trans hk1
  obtain ⟨A, c, rfl, hc, hm⟩ := own1.form
  have s1 := own1.sl encInt_len
  clear k0 r0 hv0 own1
  by_cases hb : formedB x = true
  · have HG : Hid (r = encE (numRec x)) := hid (by rw [HF.out, if_pos hb, numRec_formed hb])
    rw [hb]
    go_wp2_with fail
    refine (rEncode_any _ (numRec x) w1 s1 hlen).mono ?_
    rintro e w2 ⟨rfl, hk2⟩
    have k2 := k1.trans hk2
    rw [← HG.out]
    obtain ⟨rb, re⟩ := r
    go_wp2
    go_ret2
    exact ⟨rfl, k2⟩
  · have HG : Hid (r = ([], 1)) := hid (by rw [HF.out, if_neg hb])
    have hb' : formedB x = false := by simpa using hb
    rw [hb']
    go_wp2
    go_ret2
    exact ⟨by rw [HG.out]; rfl, k1⟩
end Go.Proofs.Ytmeafoakbkjifaa
namespace Go.Proofs.Ytmeafoakbkjifaa
set_option linter.unusedSimpArgs false
set_option linter.unusedVariables false
open Go.RowKit

theorem encE_ne {l : List Int} {bs : List UInt8} {er : Int} (h : encE l = (bs, er)) (he : er ≠ 0) : bs = [] := by
  unfold encE at h
  split at h
  · simp only [Prod.mk.injEq] at h
    exact h.1.symm
  · split at h
    · simp only [Prod.mk.injEq] at h
      exact h.1.symm
    · simp only [Prod.mk.injEq] at h
      exact absurd h.2.symm he
theorem encR_ne {x : Record} {bs : List UInt8} {er : Int} (h : encR x = (bs, er)) (he : er ≠ 0) : bs = [] := by
  unfold encR at h
  split at h
  · exact encE_ne h he
  · simp only [Prod.mk.injEq] at h
    exact h.1.symm
theorem read_enc {α : Type} {P : Ps α} {f : α → List Int} (hg : Good P f) {x : α} {bs : List UInt8} (h : encE (f x) = (bs, 0)) : readE P bs = (some x, 0) := by
  obtain ⟨h1, h2, h3⟩ := encE_zero h
  have hd := decE_of h1 h2 h3
  unfold readE
  rw [hd, if_pos rfl]
  have h4 := (hg (f x) x []).2 (by simp)
  dsimp only
  rw [h4]
theorem read_encR {x : Record} {bs : List UInt8} (h : encR x = (bs, 0)) : readE recordP bs = (some x, 0) := by
  unfold encR at h
  split at h
  · rename_i hf
    obtain ⟨h1, h2, h3⟩ := encE_zero h
    have hd := decE_of h1 h2 h3
    unfold readE
    rw [hd, if_pos rfl]
    have h4 := (recordP_some (numRecord x) x []).2 ⟨hf, by simp⟩
    dsimp only
    rw [h4]
  · simp at h
section
variable {P : Program}
theorem wpList_load_mid_g {ops : Array Oper} {rest : List Oper} {op : Oper} {a : Act} {w : World} {Q : Exit → Act → World → Prop} (hw : Region.wanted op (yielded ops a.tmps) = true) (ty : TypeId) (x : Operand) (ho : op.op = .load ty x)
    (b o : Nat) (hx : a.eval x = .pointer (some ⟨b, o, none⟩)) (cs : List Value) (d : TypeDesc) (hc : w.rangeAt b o cs)
    (hu : P.underlying ty = some d) (hd : d.isRow = true) (hi : (P.info? ty).map (·.size) = some cs.length)
    (h : wpList P ops Q rest (a.put op.dst (.agg cs.toArray)) w) : wpList P ops Q (op :: rest) a w :=
  wpList_step fun K hK => by
    rw [if_pos hw]
    exact wp_load_mid ty x ho b o hx cs d hc hu hd hi (hK _ _ h)
end
end Go.Proofs.Ytmeafoakbkjifaa
