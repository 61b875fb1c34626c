
/-
The reference: the numbers of a record, and whether it is well-formed.
-/
import Derived.Test.YtmeafoakbkjifaaRefN4
import Derived.Test.YtmeafoakbkjifaaNB
namespace Go.Proofs.Ytmeafoakbkjifaa
set_option linter.unusedSimpArgs false
set_option linter.unusedVariables false
open Go.RowKit

theorem range_part {w : World} {b : Nat} (o : Nat) (A B C : List Value) (h : w.rangeAt b 0 (A ++ (B ++ C))) (ho : A.length = o) : w.rangeAt b o B := fun j u hu => by
  have h1 := h (o + j) u (by
    rw [List.getElem?_append_right (by omega), ho, Nat.add_sub_cancel_left, List.getElem?_append_left (List.getElem?_eq_some_iff.1 hu).1]
    exact hu)
  simpa using h1
theorem zE_lies (w : World) : EventV w (.agg #[.int .i64 0, .int .i64 0, .int .i64 0, .slice none 0 0, .int .i64 0, .int .i64 0, .int .i64 0, .int .i64 0, .int .i64 0, .int .i64 0, .int .i64 0, .int .i64 0, .int .i64 0]) zE := ⟨_, rfl, Sl.nil _ _ _⟩
theorem zB_lies (w : World) : BaseV w (.agg #[.slice none 0 0, .int .i64 0, .slice none 0 0, .slice none 0 0, .slice none 0 0, .slice none 0 0, .slice none 0 0]) zB := ⟨_, _, _, _, _, _, rfl, Sl.nil _ _ _, Sl.nil _ _ _, Sl.nil _ _ _, Sl.nil _ _ _, Sl.nil _ _ _, Sl.nil _ _ _⟩
theorem zN_lies (w : World) : EntryV w (.agg #[.int .i64 0, .int .i64 0, .int .i64 0, .int .i64 0, .int .i64 0, .slice none 0 0]) zN := ⟨_, rfl, Sl.nil _ _ _⟩
/-- the two values that Record returns -/
abbrev retN (v : Value) (b : Bool) : Ending := .returned (.tuple #[v, .bool b])
/-- the numbers of a record, if its kind is one -/
def numRec (x : Record) : List Int := if 0 ≤ x.kind ∧ x.kind ≤ 4 then numRecord x else []
theorem same_event (e : Event) : numEvent e = numEvent zE ↔ e = zE := ⟨fun h => zero_event fun n hn => zE_zero n (h ▸ hn), fun h => by rw [h]⟩
theorem same_base (e : Base) : numBase e = numBase zB ↔ e = zB := ⟨fun h => zero_base fun n hn => zB_zero n (h ▸ hn), fun h => by rw [h]⟩
theorem same_entry (e : Entry) : numEntry e = numEntry zN ↔ e = zN := ⟨fun h => zero_entry fun n hn => zN_zero n (h ▸ hn), fun h => by rw [h]⟩
section
variable (e : Event) (b : Base) (t v i : Int) (n : Entry)
theorem formed_0 : formedB ⟨0, e, b, t, v, i, n⟩ = (((decide (numBase b = numBase zB) && decide (numEntry n = numEntry zN)) && (decide (t = 0) && decide (v = 0))) && decide (i = 0)) := by
  rw [Bool.eq_iff_iff, formed_kinds]
  simp [same_base, same_entry]
  grind
theorem formed_1 : formedB ⟨1, e, b, t, v, i, n⟩ = (((decide (numEvent e = numEvent zE) && decide (numEntry n = numEntry zN)) && (decide (t = 0) && decide (v = 0))) && decide (i = 0)) := by
  rw [Bool.eq_iff_iff, formed_kinds]
  simp [same_event, same_entry]
  grind
theorem formed_2 : formedB ⟨2, e, b, t, v, i, n⟩ = (((decide (numEvent e = numEvent zE) && decide (numBase b = numBase zB)) && decide (numEntry n = numEntry zN)) && decide (i = 0)) := by
  rw [Bool.eq_iff_iff, formed_kinds]
  simp [same_event, same_base, same_entry]
  grind
theorem formed_3 : formedB ⟨3, e, b, t, v, i, n⟩ = ((decide (numEvent e = numEvent zE) && decide (numBase b = numBase zB)) && (decide (t = 0) && decide (v = 0))) := by
  rw [Bool.eq_iff_iff, formed_kinds]
  simp [same_event, same_base]
  grind
theorem formed_4 : formedB ⟨4, e, b, t, v, i, n⟩ = (((decide (numEvent e = numEvent zE) && decide (numBase b = numBase zB)) && decide (numEntry n = numEntry zN)) && (decide (t = 0) && decide (v = 0))) := by
  rw [Bool.eq_iff_iff, formed_kinds]
  simp [same_event, same_base, same_entry]
  grind
theorem formed_o (k : Int) (h : ¬ (0 ≤ k ∧ k ≤ 4)) : formedB ⟨k, e, b, t, v, i, n⟩ = false := by
  cases hf : formedB ⟨k, e, b, t, v, i, n⟩ with
  | false => rfl
  | true =>
    rw [formed_kinds] at hf
    dsimp only at hf
    omega
theorem num_0 : numRec ⟨0, e, b, t, v, i, n⟩ = [0] ++ numEvent e := by simp [numRec, numRecord, numPart]
theorem num_1 : numRec ⟨1, e, b, t, v, i, n⟩ = [1] ++ numBase b := by simp [numRec, numRecord, numPart]
theorem num_2 : numRec ⟨2, e, b, t, v, i, n⟩ = [2, t, v] := by simp [numRec, numRecord, numPart]
theorem num_3 : numRec ⟨3, e, b, t, v, i, n⟩ = [3, i] ++ numEntry n := by simp [numRec, numRecord, numPart]
theorem num_4 : numRec ⟨4, e, b, t, v, i, n⟩ = [4, i] := by simp [numRec, numRecord, numPart]
theorem num_o (k : Int) (h : ¬ (0 ≤ k ∧ k ≤ 4)) : numRec ⟨k, e, b, t, v, i, n⟩ = [] := by simp [numRec, h]
end
set_option maxRecDepth 100000 in
set_option maxHeartbeats 8000000 in
theorem nRecord_any (val : Value) (x : Record) (w : World) (hv : RecordV w val x) (hlE : (numEvent x.event).length ≤ 1000000000) (hlB : (numBase x.base).length ≤ 1000000000) (hlN : (numEntry x.entry).length ≤ 1000000000) :
    Calls Try.prog 52 #[val] w fun e w' => ∃ v, e = retN v (formedB x) ∧ Own encInt 3 1 w.heap.size w' v (numRec x) ∧ Kp w w' := by
  obtain ⟨w0, w1, w2, w3, w4, w5, w6, w7, rfl, p0, p1, p2, p3, p4, p5, p6, p7⟩ := hv
  obtain ⟨k, ⟨e0, e1, e2, e3, e4, e5, ⟨g0, g1, g2, g3⟩, e7, e8, e9⟩, ⟨c0, b1, c2, c3, c4, c5, c6⟩, t, v, i, ⟨n0, n1, n2, n3, n4, n5⟩⟩ := x
  dsimp only at *
  have kB := (Kp.refl w).alloc (.cells #[.int .i64 k, .int .i64 e0, .int .i64 e1, .int .i64 e2, w0, .int .i64 e4, .int .i64 e5, .int .i64 g0, .int .i64 g1, .int .i64 g2, .int .i64 g3, .int .i64 e7, .int .i64 e8, .int .i64 e9, w1, .int .i64 b1, w2, w3, w4, w5, w6, .int .i64 t, .int .i64 v, .int .i64 i, .int .i64 n0, .int .i64 n1, .int .i64 n2, .int .i64 n3, .int .i64 n4, w7] 46)
  have hB := range_box w [.int .i64 k, .int .i64 e0, .int .i64 e1, .int .i64 e2, w0, .int .i64 e4, .int .i64 e5, .int .i64 g0, .int .i64 g1, .int .i64 g2, .int .i64 g3, .int .i64 e7, .int .i64 e8, .int .i64 e9, w1, .int .i64 b1, w2, w3, w4, w5, w6, .int .i64 t, .int .i64 v, .int .i64 i, .int .i64 n0, .int .i64 n1, .int .i64 n2, .int .i64 n3, .int .i64 n4, w7] 46
  have vE : EventV (w.alloc (.cells #[.int .i64 k, .int .i64 e0, .int .i64 e1, .int .i64 e2, w0, .int .i64 e4, .int .i64 e5, .int .i64 g0, .int .i64 g1, .int .i64 g2, .int .i64 g3, .int .i64 e7, .int .i64 e8, .int .i64 e9, w1, .int .i64 b1, w2, w3, w4, w5, w6, .int .i64 t, .int .i64 v, .int .i64 i, .int .i64 n0, .int .i64 n1, .int .i64 n2, .int .i64 n3, .int .i64 n4, w7] 46)) (.agg ([.int .i64 e0, .int .i64 e1, .int .i64 e2, w0, .int .i64 e4, .int .i64 e5, .int .i64 g0, .int .i64 g1, .int .i64 g2, .int .i64 g3, .int .i64 e7, .int .i64 e8, .int .i64 e9] : List Value).toArray) (⟨e0, e1, e2, e3, e4, e5, ⟨g0, g1, g2, g3⟩, e7, e8, e9⟩ : Event) := ⟨_, rfl, p0.keep (pl_stable _) kB⟩
  have vB : BaseV (w.alloc (.cells #[.int .i64 k, .int .i64 e0, .int .i64 e1, .int .i64 e2, w0, .int .i64 e4, .int .i64 e5, .int .i64 g0, .int .i64 g1, .int .i64 g2, .int .i64 g3, .int .i64 e7, .int .i64 e8, .int .i64 e9, w1, .int .i64 b1, w2, w3, w4, w5, w6, .int .i64 t, .int .i64 v, .int .i64 i, .int .i64 n0, .int .i64 n1, .int .i64 n2, .int .i64 n3, .int .i64 n4, w7] 46)) (.agg ([w1, .int .i64 b1, w2, w3, w4, w5, w6] : List Value).toArray) (⟨c0, b1, c2, c3, c4, c5, c6⟩ : Base) := BaseV.kp (w := w) ⟨_, _, _, _, _, _, rfl, p1, p2, p3, p4, p5, p6⟩ kB
  have vN : EntryV (w.alloc (.cells #[.int .i64 k, .int .i64 e0, .int .i64 e1, .int .i64 e2, w0, .int .i64 e4, .int .i64 e5, .int .i64 g0, .int .i64 g1, .int .i64 g2, .int .i64 g3, .int .i64 e7, .int .i64 e8, .int .i64 e9, w1, .int .i64 b1, w2, w3, w4, w5, w6, .int .i64 t, .int .i64 v, .int .i64 i, .int .i64 n0, .int .i64 n1, .int .i64 n2, .int .i64 n3, .int .i64 n4, w7] 46)) (.agg ([.int .i64 n0, .int .i64 n1, .int .i64 n2, .int .i64 n3, .int .i64 n4, w7] : List Value).toArray) (⟨n0, n1, n2, n3, n4, n5⟩ : Entry) := ⟨_, rfl, p7.keep (pl_stable _) kB⟩
  have rE := range_part 1 [.int .i64 k] [.int .i64 e0, .int .i64 e1, .int .i64 e2, w0, .int .i64 e4, .int .i64 e5, .int .i64 g0, .int .i64 g1, .int .i64 g2, .int .i64 g3, .int .i64 e7, .int .i64 e8, .int .i64 e9] ([w1, .int .i64 b1, w2, w3, w4, w5, w6] ++ ([.int .i64 t, .int .i64 v, .int .i64 i] ++ [.int .i64 n0, .int .i64 n1, .int .i64 n2, .int .i64 n3, .int .i64 n4, w7])) hB rfl
  have rB := range_part 14 ([.int .i64 k] ++ [.int .i64 e0, .int .i64 e1, .int .i64 e2, w0, .int .i64 e4, .int .i64 e5, .int .i64 g0, .int .i64 g1, .int .i64 g2, .int .i64 g3, .int .i64 e7, .int .i64 e8, .int .i64 e9]) [w1, .int .i64 b1, w2, w3, w4, w5, w6] ([.int .i64 t, .int .i64 v, .int .i64 i] ++ [.int .i64 n0, .int .i64 n1, .int .i64 n2, .int .i64 n3, .int .i64 n4, w7]) hB rfl
  have rN := range_part 24 ([.int .i64 k] ++ ([.int .i64 e0, .int .i64 e1, .int .i64 e2, w0, .int .i64 e4, .int .i64 e5, .int .i64 g0, .int .i64 g1, .int .i64 g2, .int .i64 g3, .int .i64 e7, .int .i64 e8, .int .i64 e9] ++ ([w1, .int .i64 b1, w2, w3, w4, w5, w6] ++ [.int .i64 t, .int .i64 v, .int .i64 i]))) [.int .i64 n0, .int .i64 n1, .int .i64 n2, .int .i64 n3, .int .i64 n4, w7] [] hB rfl
  have d0 := hB 0 _ rfl
  have d21 := hB 21 _ rfl
  have d22 := hB 22 _ rfl
  have d23 := hB 23 _ rfl
  simp only [Nat.zero_add] at d0 d21 d22 d23
  have hl0 := alloc_lt w (.cells #[.int .i64 k, .int .i64 e0, .int .i64 e1, .int .i64 e2, w0, .int .i64 e4, .int .i64 e5, .int .i64 g0, .int .i64 g1, .int .i64 g2, .int .i64 g3, .int .i64 e7, .int .i64 e8, .int .i64 e9, w1, .int .i64 b1, w2, w3, w4, w5, w6, .int .i64 t, .int .i64 v, .int .i64 i, .int .i64 n0, .int .i64 n1, .int .i64 n2, .int .i64 n3, .int .i64 n4, w7] 46)
  have hcE : ([.int .i64 e0, .int .i64 e1, .int .i64 e2, w0, .int .i64 e4, .int .i64 e5, .int .i64 g0, .int .i64 g1, .int .i64 g2, .int .i64 g3, .int .i64 e7, .int .i64 e8, .int .i64 e9] : List Value).length = 13 := rfl
  have hcB : ([w1, .int .i64 b1, w2, w3, w4, w5, w6] : List Value).length = 7 := rfl
  have hcN : ([.int .i64 n0, .int .i64 n1, .int .i64 n2, .int .i64 n3, .int .i64 n4, w7] : List Value).length = 6 := rfl
  clear hB p0 p1 p2 p3 p4 p5 p6 p7
  go_enter Try.func52, Try.ntmps52
  go_wp2_with fail
  generalize w.alloc (.cells #[.int .i64 k, .int .i64 e0, .int .i64 e1, .int .i64 e2, w0, .int .i64 e4, .int .i64 e5, .int .i64 g0, .int .i64 g1, .int .i64 g2, .int .i64 g3, .int .i64 e7, .int .i64 e8, .int .i64 e9, w1, .int .i64 b1, w2, w3, w4, w5, w6, .int .i64 t, .int .i64 v, .int .i64 i, .int .i64 n0, .int .i64 n1, .int .i64 n2, .int .i64 n3, .int .i64 n4, w7] 46) = wB at *
  generalize ([.int .i64 e0, .int .i64 e1, .int .i64 e2, w0, .int .i64 e4, .int .i64 e5, .int .i64 g0, .int .i64 g1, .int .i64 g2, .int .i64 g3, .int .i64 e7, .int .i64 e8, .int .i64 e9] : List Value) = csE at *
  generalize ([w1, .int .i64 b1, w2, w3, w4, w5, w6] : List Value) = csB at *
  generalize ([.int .i64 n0, .int .i64 n1, .int .i64 n2, .int .i64 n3, .int .i64 n4, w7] : List Value) = csN at *
  generalize w.heap.size = b at *
  have hsB := kB.size
  have hiE : (Try.prog.info? 37).map (·.size) = some csE.length := by rw [hcE]; kernel_rfl
  have hiB : (Try.prog.info? 42).map (·.size) = some csB.length := by rw [hcB]; kernel_rfl
  have hiN : (Try.prog.info? 44).map (·.size) = some csN.length := by rw [hcN]; kernel_rfl
  have hlpE : e3.length ≤ 1000000000 := by
    have h1 := numIs_len e3
    simp only [numEvent, List.length_append, List.length_cons, List.length_nil] at hlE
    omega
  have hlpN : n5.length ≤ 1000000000 := by
    have h1 := numIs_len n5
    simp only [numEntry, List.length_append, List.length_cons, List.length_nil] at hlN
    omega
  go_cut [4, 5, 6] from 26 (fun s4 s5 s6 wx => s4 = .bool (decide (numEvent (⟨e0, e1, e2, e3, e4, e5, ⟨g0, g1, g2, g3⟩, e7, e8, e9⟩ : Event) = numEvent zE)) ∧ s5 = .bool (decide (numBase (⟨c0, b1, c2, c3, c4, c5, c6⟩ : Base) = numBase zB)) ∧ s6 = .bool (decide (numEntry (⟨n0, n1, n2, n3, n4, n5⟩ : Entry) = numEntry zN)) ∧ Kp wB wx)
  case first =>
   have hS : ∀ W, Kp wB W → (W.rangeAt b 1 csE ∧ W.rangeAt b 14 csB ∧ W.rangeAt b 24 csN ∧ Kp wB W) := fun W hk => ⟨hk.range rE, hk.range rB, hk.range rN, hk⟩
   refine wp_region_held_drew (S := fun W => W.rangeAt b 1 csE ∧ W.rangeAt b 14 csB ∧ W.rangeAt b 24 csN ∧ Kp wB W) (by kernel_rfl) (hS _ (Kp.refl _).drew) (fun hHeld => ?_)
   refine take_at 0 8 (v := ?_) rfl rfl (by kernel_rfl) (by kernel_rfl) (by kernel_rfl) (fun _ _ _ h => h) hHeld (Or.inl ⟨by kernel_rfl, ?_⟩) ?_
   rotate_left
   · intro w hSw; (try dsimp only at hSw); go_simp; try with_reducible rfl
   simp only [Act.put, List.setIfInBounds_toArray, List.set_cons_zero, List.set_cons_succ]
   refine take_at 1 9 (v := _) rfl rfl (by kernel_rfl) (by kernel_rfl) (by kernel_rfl) (fun _ _ _ h => h) hHeld (yieldsIf_load_mid (by kernel_rfl) 37 _ rfl _ 1 rfl csE _ (fun _ h => h.1) Try.underlying37 rfl (by assumption)) ?_
   simp only [Act.put, List.setIfInBounds_toArray, List.set_cons_zero, List.set_cons_succ]
   refine take_at 3 11 (v := ?_) rfl rfl (by kernel_rfl) (by kernel_rfl) (by kernel_rfl) (fun _ _ _ h => h) hHeld (Or.inl ⟨by kernel_rfl, ?_⟩) ?_
   rotate_left
   · intro w hSw; (try dsimp only at hSw); go_simp; try with_reducible rfl
   simp only [Act.put, List.setIfInBounds_toArray, List.set_cons_zero, List.set_cons_succ]
   refine take_at 6 14 (v := ?_) rfl rfl (by kernel_rfl) (by kernel_rfl) (by kernel_rfl) (fun _ _ _ h => h) hHeld (Or.inl ⟨by kernel_rfl, ?_⟩) ?_
   rotate_left
   · intro w hSw; (try dsimp only at hSw); go_simp; try with_reducible rfl
   simp only [Act.put, List.setIfInBounds_toArray, List.set_cons_zero, List.set_cons_succ]
   refine take_at 7 15 (v := _) rfl rfl (by kernel_rfl) (by kernel_rfl) (by kernel_rfl) (fun _ _ _ h => h) hHeld (yieldsIf_load_mid (by kernel_rfl) 42 _ rfl _ 14 rfl csB _ (fun _ h => h.2.1) Try.underlying42 rfl (by assumption)) ?_
   simp only [Act.put, List.setIfInBounds_toArray, List.set_cons_zero, List.set_cons_succ]
   refine take_at 9 17 (v := ?_) rfl rfl (by kernel_rfl) (by kernel_rfl) (by kernel_rfl) (fun _ _ _ h => h) hHeld (Or.inl ⟨by kernel_rfl, ?_⟩) ?_
   rotate_left
   · intro w hSw; (try dsimp only at hSw); go_simp; try with_reducible rfl
   simp only [Act.put, List.setIfInBounds_toArray, List.set_cons_zero, List.set_cons_succ]
   refine take_at 12 20 (v := ?_) rfl rfl (by kernel_rfl) (by kernel_rfl) (by kernel_rfl) (fun _ _ _ h => h) hHeld (Or.inl ⟨by kernel_rfl, ?_⟩) ?_
   rotate_left
   · intro w hSw; (try dsimp only at hSw); go_simp; try with_reducible rfl
   simp only [Act.put, List.setIfInBounds_toArray, List.set_cons_zero, List.set_cons_succ]
   refine take_at 13 21 (v := _) rfl rfl (by kernel_rfl) (by kernel_rfl) (by kernel_rfl) (fun _ _ _ h => h) hHeld (yieldsIf_load_mid (by kernel_rfl) 44 _ rfl _ 24 rfl csN _ (fun _ h => h.2.2.1) Try.underlying44 rfl (by assumption)) ?_
   simp only [Act.put, List.setIfInBounds_toArray, List.set_cons_zero, List.set_cons_succ]
   refine take_at 15 23 (v := ?_) rfl rfl (by kernel_rfl) (by kernel_rfl) (by kernel_rfl) (fun _ _ _ h => h) hHeld (Or.inl ⟨by kernel_rfl, ?_⟩) ?_
   rotate_left
   · intro w hSw; (try dsimp only at hSw); go_simp; try with_reducible rfl
   simp only [Act.put, List.setIfInBounds_toArray, List.set_cons_zero, List.set_cons_succ]
   refine wpAnyH_ready (rs := [2]) (by kernel_rfl) (by simp) ?_
   refine AllReadyH.cons (o := _) rfl (fun K hK => ?_) AllReadyH.nil
   go_simp
   refine (nEvent_any _ (⟨e0, e1, e2, e3, e4, e5, ⟨g0, g1, g2, g3⟩, e7, e8, e9⟩ : Event) _ (vE.kp hHeld.2.2.2) hlpE).mono ?_
   rintro e w1 ⟨v1, rfl, own1, h1⟩
   obtain ⟨D1, z1, rfl, zz1, zf1⟩ := own1.form
   refine hK.out _ _ (hS _ (hHeld.2.2.2.trans h1)) (fun hHeld2 => ?_)
   clear hK K hHeld
   have hHeld := hHeld2
   clear hHeld2
   refine wpAnyH_ready (rs := [4]) (by kernel_rfl) (by simp) ?_
   refine AllReadyH.cons (o := _) rfl (fun K hK => ?_) AllReadyH.nil
   go_simp
   refine (nEvent_any _ zE _ (zE_lies _) (by simp)).mono ?_
   rintro e w2 ⟨v2, rfl, own2, h2⟩
   obtain ⟨D2, z2, rfl, zz2, zf2⟩ := own2.form
   refine hK.out _ _ (hS _ (hHeld.2.2.2.trans h2)) (fun hHeld2 => ?_)
   clear hK K hHeld
   have hHeld := hHeld2
   clear hHeld2
   refine wpAnyH_ready (rs := [5]) (by kernel_rfl) (by simp) ?_
   refine AllReadyH.cons (o := _) rfl (fun K hK => ?_) AllReadyH.nil
   go_simp
   refine (Same_any _ _ (numEvent (⟨e0, e1, e2, e3, e4, e5, ⟨g0, g1, g2, g3⟩, e7, e8, e9⟩ : Event)) (numEvent zE) _ ((own1.sl encInt_len).keep (pl_stable _) h2) (own2.sl encInt_len)).mono ?_
   rintro e w3 ⟨rfl, h3⟩
   refine hK.out _ _ (hS _ (hHeld.2.2.2.trans h3)) (fun hHeld2 => ?_)
   clear hK K hHeld
   have hHeld := hHeld2
   clear hHeld2
   clear own1 own2 h1 h2 h3
   refine wpAnyH_ready (rs := [8]) (by kernel_rfl) (by simp) ?_
   refine AllReadyH.cons (o := _) rfl (fun K hK => ?_) AllReadyH.nil
   go_simp
   refine (nBase_any _ (⟨c0, b1, c2, c3, c4, c5, c6⟩ : Base) _ (vB.kp hHeld.2.2.2) hlB).mono ?_
   rintro e w1 ⟨v1, rfl, own1, h1⟩
   obtain ⟨D1, z1, rfl, zz1, zf1⟩ := own1.form
   refine hK.out _ _ (hS _ (hHeld.2.2.2.trans h1)) (fun hHeld2 => ?_)
   clear hK K hHeld
   have hHeld := hHeld2
   clear hHeld2
   refine wpAnyH_ready (rs := [10]) (by kernel_rfl) (by simp) ?_
   refine AllReadyH.cons (o := _) rfl (fun K hK => ?_) AllReadyH.nil
   go_simp
   refine (nBase_any _ zB _ (zB_lies _) (by decide)).mono ?_
   rintro e w2 ⟨v2, rfl, own2, h2⟩
   obtain ⟨D2, z2, rfl, zz2, zf2⟩ := own2.form
   refine hK.out _ _ (hS _ (hHeld.2.2.2.trans h2)) (fun hHeld2 => ?_)
   clear hK K hHeld
   have hHeld := hHeld2
   clear hHeld2
   refine wpAnyH_ready (rs := [11]) (by kernel_rfl) (by simp) ?_
   refine AllReadyH.cons (o := _) rfl (fun K hK => ?_) AllReadyH.nil
   go_simp
   refine (Same_any _ _ (numBase (⟨c0, b1, c2, c3, c4, c5, c6⟩ : Base)) (numBase zB) _ ((own1.sl encInt_len).keep (pl_stable _) h2) (own2.sl encInt_len)).mono ?_
   rintro e w3 ⟨rfl, h3⟩
   refine hK.out _ _ (hS _ (hHeld.2.2.2.trans h3)) (fun hHeld2 => ?_)
   clear hK K hHeld
   have hHeld := hHeld2
   clear hHeld2
   clear own1 own2 h1 h2 h3
   refine wpAnyH_ready (rs := [14]) (by kernel_rfl) (by simp) ?_
   refine AllReadyH.cons (o := _) rfl (fun K hK => ?_) AllReadyH.nil
   go_simp
   refine (nEntry_any _ (⟨n0, n1, n2, n3, n4, n5⟩ : Entry) _ (vN.kp hHeld.2.2.2) hlpN).mono ?_
   rintro e w1 ⟨v1, rfl, own1, h1⟩
   obtain ⟨D1, z1, rfl, zz1, zf1⟩ := own1.form
   refine hK.out _ _ (hS _ (hHeld.2.2.2.trans h1)) (fun hHeld2 => ?_)
   clear hK K hHeld
   have hHeld := hHeld2
   clear hHeld2
   refine wpAnyH_ready (rs := [16]) (by kernel_rfl) (by simp) ?_
   refine AllReadyH.cons (o := _) rfl (fun K hK => ?_) AllReadyH.nil
   go_simp
   refine (nEntry_any _ zN _ (zN_lies _) (by simp)).mono ?_
   rintro e w2 ⟨v2, rfl, own2, h2⟩
   obtain ⟨D2, z2, rfl, zz2, zf2⟩ := own2.form
   refine hK.out _ _ (hS _ (hHeld.2.2.2.trans h2)) (fun hHeld2 => ?_)
   clear hK K hHeld
   have hHeld := hHeld2
   clear hHeld2
   refine wpAnyH_ready (rs := [17]) (by kernel_rfl) (by simp) ?_
   refine AllReadyH.cons (o := _) rfl (fun K hK => ?_) AllReadyH.nil
   go_simp
   refine (Same_any _ _ (numEntry (⟨n0, n1, n2, n3, n4, n5⟩ : Entry)) (numEntry zN) _ ((own1.sl encInt_len).keep (pl_stable _) h2) (own2.sl encInt_len)).mono ?_
   rintro e w3 ⟨rfl, h3⟩
   refine hK.out _ _ (hS _ (hHeld.2.2.2.trans h3)) (fun hHeld2 => ?_)
   clear hK K hHeld
   have hHeld := hHeld2
   clear hHeld2
   clear own1 own2 h1 h2 h3
   refine wpAnyH_ready (rs := [18]) (by kernel_rfl) (by simp) ?_
   refine AllReadyH.cons (o := _) rfl (fun K hK => ?_) AllReadyH.nil
   go_simp
   refine hK.out _ _ hHeld (fun hHeld2 => ?_)
   clear hK K hHeld
   have hHeld := hHeld2
   clear hHeld2
   refine wpAnyH_ready (rs := [19]) (by kernel_rfl) (by simp) ?_
   refine AllReadyH.cons (o := _) rfl (fun K hK => ?_) AllReadyH.nil
   go_simp
   refine hK.out _ _ hHeld (fun hHeld2 => ?_)
   clear hK K hHeld
   have hHeld := hHeld2
   clear hHeld2
   refine wpAnyH_ready (rs := [20]) (by kernel_rfl) (by simp) ?_
   refine AllReadyH.cons (o := _) rfl (fun K hK => ?_) AllReadyH.nil
   go_simp
   refine hK.out _ _ hHeld (fun hHeld2 => ?_)
   clear hK K hHeld
   have hHeld := hHeld2
   clear hHeld2
   refine wpAnyH_done (by kernel_rfl) ?_ _
   have k9 := hHeld.2.2.2
   go_wp2
   go_meet
   case rel => exact ⟨rfl, rfl, rfl, k9⟩
  case rest =>
   obtain ⟨rfl, rfl, rfl, k1⟩ := hcut
   have d0' := k1.cellS d0
   have d21' := k1.cellS d21
   have d22' := k1.cellS d22
   have d23' := k1.cellS d23
   have hl1 := block_lt_of_cell d0'
   generalize HbE : decide (numEvent (⟨e0, e1, e2, e3, e4, e5, ⟨g0, g1, g2, g3⟩, e7, e8, e9⟩ : Event) = numEvent zE) = bE at *
   generalize HbB : decide (numBase (⟨c0, b1, c2, c3, c4, c5, c6⟩ : Base) = numBase zB) = bB at *
   generalize HbN : decide (numEntry (⟨n0, n1, n2, n3, n4, n5⟩ : Entry) = numEntry zN) = bN at *
   replace HbE := hid HbE
   replace HbB := hid HbB
   replace HbN := hid HbN
   go_upto_region 2 with (fail)
   go_cut [7] from 34 (fun s7 wx => s7 = .bool (decide (t = 0) && decide (v = 0)) ∧ wx = wc)
   case first =>
    by_cases ht : t = 0
    · subst ht
      go_wp2
      go_meet
      case rel => exact ⟨by first | rfl | (simp; rfl), rfl⟩
    · have q1 : decide (t = 0) = false := decide_eq_false ht
      have q2 : (t == 0) = false := by simpa using ht
      go_wp2
      go_meet
      case rel => exact ⟨by rw [q1]; rfl, rfl⟩
   case rest =>
    obtain ⟨rfl, rfl⟩ := hcut
    generalize HbV : (decide (t = 0) && decide (v = 0)) = bV at *
    replace HbV := hid HbV
    have HLE := hid hlE
    have HLB := hid hlB
    have HLN := hid hlN
    by_cases hk0 : k = 0
    · subst hk0
      go_wp2_with fail
      have hS : ∀ W, Kp wc W → (W.rangeAt b 1 csE ∧ W.cell? ⟨b, 0, none⟩ = some (.int .i64 0) ∧ W.cell? ⟨b, 23, none⟩ = some (.int .i64 i) ∧ Kp wc W) := fun W hk => ⟨(k1.trans hk).range rE, hk.cellS d0', hk.cellS d23', hk⟩
      refine wp_region_held_drew (S := fun W => W.rangeAt b 1 csE ∧ W.cell? ⟨b, 0, none⟩ = some (.int .i64 0) ∧ W.cell? ⟨b, 23, none⟩ = some (.int .i64 i) ∧ Kp wc W) (by kernel_rfl) (hS _ (Kp.refl _).drew) (fun hHeld => ?_)
      refine take_at 0 38 (v := ?_) rfl rfl (by kernel_rfl) (by kernel_rfl) (by kernel_rfl) (fun _ _ _ h => h) hHeld (Or.inl ⟨by kernel_rfl, ?_⟩) ?_
      rotate_left
      · intro w hSw; (try dsimp only at hSw); go_simp; try with_reducible rfl
      simp only [Act.put, List.setIfInBounds_toArray, List.set_cons_zero, List.set_cons_succ]
      refine take_at 1 39 (v := ?_) rfl rfl (by kernel_rfl) (by kernel_rfl) (by kernel_rfl) (fun _ _ _ h => h) hHeld (Or.inl ⟨by kernel_rfl, ?_⟩) ?_
      rotate_left
      · intro w hSw; (try dsimp only at hSw); go_simp; try with_reducible rfl
      simp only [Act.put, List.setIfInBounds_toArray, List.set_cons_zero, List.set_cons_succ]
      refine take_at 3 41 (v := ?_) rfl rfl (by kernel_rfl) (by kernel_rfl) (by kernel_rfl) (fun _ _ _ h => h) hHeld (Or.inl ⟨by kernel_rfl, ?_⟩) ?_
      rotate_left
      · intro w hSw; (try dsimp only at hSw); go_simp; try with_reducible rfl
      simp only [Act.put, List.setIfInBounds_toArray, List.set_cons_zero, List.set_cons_succ]
      refine take_at 4 42 (v := _) rfl rfl (by kernel_rfl) (by kernel_rfl) (by kernel_rfl) (fun _ _ _ h => h) hHeld (yieldsIf_load_mid (by kernel_rfl) 37 _ rfl _ 1 rfl csE _ (fun _ h => h.1) Try.underlying37 rfl (by assumption)) ?_
      simp only [Act.put, List.setIfInBounds_toArray, List.set_cons_zero, List.set_cons_succ]
      refine take_at 7 45 (v := ?_) rfl rfl (by kernel_rfl) (by kernel_rfl) (by kernel_rfl) (fun _ _ _ h => h) hHeld (Or.inl ⟨by kernel_rfl, ?_⟩) ?_
      rotate_left
      · intro w hSw; (try dsimp only at hSw); go_simp; try with_reducible rfl
      simp only [Act.put, List.setIfInBounds_toArray, List.set_cons_zero, List.set_cons_succ]
      refine wpAnyH_ready (rs := [2, 5]) (by kernel_rfl) (by simp) ?_
      refine AllReadyH.cons (o := _) rfl (fun K hK => ?_) (AllReadyH.cons (o := _) rfl (fun K hK => ?_) AllReadyH.nil)
      · go_simp
        refine hK.out _ _ (hS _ (hHeld.2.2.2.alloc _)) (fun hHeld2 => ?_)
        clear hK K hHeld
        have hHeld := hHeld2
        clear hHeld2
        refine wpAnyH_ready (rs := [5]) (by kernel_rfl) (by simp) ?_
        refine AllReadyH.cons (o := _) rfl (fun K hK => ?_) AllReadyH.nil
        go_simp
        refine (nEvent_any _ (⟨e0, e1, e2, e3, e4, e5, ⟨g0, g1, g2, g3⟩, e7, e8, e9⟩ : Event) _ (vE.kp (k1.trans hHeld.2.2.2)) hlpE).mono ?_
        rintro e w2 ⟨v2, rfl, own2, h2⟩
        obtain ⟨D2, z2, rfl, zz2, zf2⟩ := own2.form
        have own1 := (litOwn (w := wc) (base := wc.heap.size) [0] #[.int .i64 0] rfl (by simp) 1 rfl (Nat.le_refl _)).drew.kp h2
        have hk2 := hHeld.2.2.2.trans h2
        refine hK.out _ _ (hS _ hk2) (fun hHeld2 => ?_)
        clear hK K hHeld
        have hHeld := hHeld2
        clear hHeld2
        have s2 := own2.sl encInt_len
        refine wpAnyH_ready (rs := [6]) (by kernel_rfl) (by simp) ?_
        refine AllReadyH.cons (o := _) rfl (fun K hK => ?_) AllReadyH.nil
        refine step_append_flat rfl (.tmp 40) (.tmp 43) rfl stInt' encInt_len encInt_one rfl own1 rfl s2 (by have := HLE.out; simp; omega) (by have := HLE.out; simp; omega) hk2.size ?_
        intro v3 w3 own3 hg3
        have hk3 : Kp wc w3 := Kp.grown hk2 hg3 own1.ge
        refine hK.out _ _ (hS _ hk3) (fun hHeld2 => ?_)
        clear hK K hHeld
        have hHeld := hHeld2
        clear hHeld2
        clear own1 own2 h2 hk2 s2 hg3
        refine take_at 8 46 (v := ?_) rfl rfl (by kernel_rfl) (by kernel_rfl) (by kernel_rfl) (fun _ _ _ h => h) hHeld (Or.inl ⟨by kernel_rfl, ?_⟩) ?_
        rotate_left
        · intro w hSw; (try dsimp only at hSw); go_simp; try with_reducible rfl
        simp only [Act.put, List.setIfInBounds_toArray, List.set_cons_zero, List.set_cons_succ]
        refine take_at 9 47 (v := cond bB (.bool bN) undef) rfl rfl (by kernel_rfl) (by kernel_rfl) (by kernel_rfl) (fun _ _ _ h => h) hHeld ?_ ?_
        · cases bB
          · exact Or.inr ⟨by kernel_rfl, by kernel_rfl⟩
          · refine Or.inl ⟨by kernel_rfl, ?_⟩
            intro w hSw; (try dsimp only at hSw); go_simp; try rfl
        simp only [Act.put, List.setIfInBounds_toArray, List.set_cons_zero, List.set_cons_succ]
        refine take_at 10 48 (v := .bool (bB && bN)) rfl rfl (by kernel_rfl) (by kernel_rfl) (by kernel_rfl) (fun _ _ _ h => h) hHeld ?_ ?_
        · cases bB
          all_goals
            refine Or.inl ⟨by kernel_rfl, ?_⟩
            intro w hSw; (try dsimp only at hSw); go_simp; try rfl
        simp only [Act.put, List.setIfInBounds_toArray, List.set_cons_zero, List.set_cons_succ]
        generalize HbX : (bB && bN) = bX at *
        replace HbX := hid HbX
        refine take_at 11 49 (v := ?_) rfl rfl (by kernel_rfl) (by kernel_rfl) (by kernel_rfl) (fun _ _ _ h => h) hHeld (Or.inl ⟨by kernel_rfl, ?_⟩) ?_
        rotate_left
        · intro w hSw; (try dsimp only at hSw); go_simp; try with_reducible rfl
        simp only [Act.put, List.setIfInBounds_toArray, List.set_cons_zero, List.set_cons_succ]
        refine take_at 12 50 (v := cond bX (.bool bV) undef) rfl rfl (by kernel_rfl) (by kernel_rfl) (by kernel_rfl) (fun _ _ _ h => h) hHeld ?_ ?_
        · cases bX
          · exact Or.inr ⟨by kernel_rfl, by kernel_rfl⟩
          · refine Or.inl ⟨by kernel_rfl, ?_⟩
            intro w hSw; (try dsimp only at hSw); go_simp; try rfl
        simp only [Act.put, List.setIfInBounds_toArray, List.set_cons_zero, List.set_cons_succ]
        refine take_at 13 51 (v := .bool (bX && bV)) rfl rfl (by kernel_rfl) (by kernel_rfl) (by kernel_rfl) (fun _ _ _ h => h) hHeld ?_ ?_
        · cases bX
          all_goals
            refine Or.inl ⟨by kernel_rfl, ?_⟩
            intro w hSw; (try dsimp only at hSw); go_simp; try rfl
        simp only [Act.put, List.setIfInBounds_toArray, List.set_cons_zero, List.set_cons_succ]
        generalize HbY : (bX && bV) = bY at *
        replace HbY := hid HbY
        refine take_at 14 52 (v := ?_) rfl rfl (by kernel_rfl) (by kernel_rfl) (by kernel_rfl) (fun _ _ _ h => h) hHeld (Or.inl ⟨by kernel_rfl, ?_⟩) ?_
        rotate_left
        · intro w hSw; (try dsimp only at hSw); go_simp; try with_reducible rfl
        simp only [Act.put, List.setIfInBounds_toArray, List.set_cons_zero, List.set_cons_succ]
        refine take_at 15 53 (v := cond bY (.pointer (some ⟨b, 23, none⟩)) undef) rfl rfl (by kernel_rfl) (by kernel_rfl) (by kernel_rfl) (fun _ _ _ h => h) hHeld ?_ ?_
        · cases bY
          · exact Or.inr ⟨by kernel_rfl, by kernel_rfl⟩
          · refine Or.inl ⟨by kernel_rfl, ?_⟩
            intro w hSw; (try dsimp only at hSw); go_simp; try rfl
        simp only [Act.put, List.setIfInBounds_toArray, List.set_cons_zero, List.set_cons_succ]
        refine take_at 16 54 (v := cond bY (.int .i64 i) undef) rfl rfl (by kernel_rfl) (by kernel_rfl) (by kernel_rfl) (fun _ _ _ h => h) hHeld ?_ ?_
        · cases bY
          · exact Or.inr ⟨by kernel_rfl, by kernel_rfl⟩
          · refine Or.inl ⟨by kernel_rfl, ?_⟩
            intro w hSw; (try dsimp only at hSw); go_simp; try rfl
        simp only [Act.put, List.setIfInBounds_toArray, List.set_cons_zero, List.set_cons_succ]
        refine take_at 17 55 (v := cond bY (.bool (decide (i = 0))) undef) rfl rfl (by kernel_rfl) (by kernel_rfl) (by kernel_rfl) (fun _ _ _ h => h) hHeld ?_ ?_
        · cases bY
          · exact Or.inr ⟨by kernel_rfl, by kernel_rfl⟩
          · refine Or.inl ⟨by kernel_rfl, ?_⟩
            intro w hSw; (try dsimp only at hSw); go_simp; try rfl
        simp only [Act.put, List.setIfInBounds_toArray, List.set_cons_zero, List.set_cons_succ]
        refine take_at 18 56 (v := .bool (bY && decide (i = 0))) rfl rfl (by kernel_rfl) (by kernel_rfl) (by kernel_rfl) (fun _ _ _ h => h) hHeld ?_ ?_
        · cases bY
          all_goals
            refine Or.inl ⟨by kernel_rfl, ?_⟩
            intro w hSw; (try dsimp only at hSw); go_simp; try rfl
        simp only [Act.put, List.setIfInBounds_toArray, List.set_cons_zero, List.set_cons_succ]
        refine wpAnyH_ready (rs := [19]) (by kernel_rfl) (by simp) ?_
        refine AllReadyH.cons (o := _) rfl (fun K hK => ?_) AllReadyH.nil
        go_simp
        refine hK.out _ _ hHeld (fun hHeld2 => ?_)
        clear hK K hHeld
        have hHeld := hHeld2
        clear hHeld2
        refine wpAnyH_ready (rs := [20]) (by kernel_rfl) (by simp) ?_
        refine AllReadyH.cons (o := _) rfl (fun K hK => ?_) AllReadyH.nil
        go_simp
        refine hK.out _ _ hHeld (fun hHeld2 => ?_)
        clear hK K hHeld
        have hHeld := hHeld2
        clear hHeld2
        refine wpAnyH_done (by kernel_rfl) ?_ _
        go_wp2
        go_ret2
        exact ⟨_, by rw [formed_0, HbB.out, HbN.out, HbV.out, ← HbY.out, ← HbX.out]; rfl, by rw [show numRec _ = _ from num_0 _ _ _ _ _ _]; exact own3.less (kB.trans k1).size, (kB.trans k1).trans hk3⟩
      · go_simp
        refine (nEvent_any _ (⟨e0, e1, e2, e3, e4, e5, ⟨g0, g1, g2, g3⟩, e7, e8, e9⟩ : Event) _ (vE.kp (k1.trans hHeld.2.2.2)) hlpE).mono ?_
        rintro e w2 ⟨v2, rfl, own2, h2⟩
        obtain ⟨D2, z2, rfl, zz2, zf2⟩ := own2.form
        have hk2 := hHeld.2.2.2.trans h2
        refine hK.out _ _ (hS _ hk2) (fun hHeld2 => ?_)
        clear hK K hHeld
        have hHeld := hHeld2
        clear hHeld2
        refine wpAnyH_ready (rs := [2]) (by kernel_rfl) (by simp) ?_
        refine AllReadyH.cons (o := _) rfl (fun K hK => ?_) AllReadyH.nil
        go_simp
        have own1 := (litOwn (w := w2) (base := wc.heap.size) [0] #[.int .i64 0] rfl (by simp) 1 rfl hk2.size)
        have s2 := (own2.sl encInt_len).keep (pl_stable _) ((Kp.refl w2).alloc (.cells #[.int .i64 0] 3))
        replace hk2 := hk2.alloc (.cells #[.int .i64 0] 3)
        refine hK.out _ _ (hS _ hk2) (fun hHeld2 => ?_)
        clear hK K hHeld
        have hHeld := hHeld2
        clear hHeld2
        refine wpAnyH_ready (rs := [6]) (by kernel_rfl) (by simp) ?_
        refine AllReadyH.cons (o := _) rfl (fun K hK => ?_) AllReadyH.nil
        refine step_append_flat rfl (.tmp 40) (.tmp 43) rfl stInt' encInt_len encInt_one rfl own1 rfl s2 (by have := HLE.out; simp; omega) (by have := HLE.out; simp; omega) hk2.size ?_
        intro v3 w3 own3 hg3
        have hk3 : Kp wc w3 := Kp.grown hk2 hg3 own1.ge
        refine hK.out _ _ (hS _ hk3) (fun hHeld2 => ?_)
        clear hK K hHeld
        have hHeld := hHeld2
        clear hHeld2
        clear own1 own2 h2 hk2 s2 hg3
        refine take_at 8 46 (v := ?_) rfl rfl (by kernel_rfl) (by kernel_rfl) (by kernel_rfl) (fun _ _ _ h => h) hHeld (Or.inl ⟨by kernel_rfl, ?_⟩) ?_
        rotate_left
        · intro w hSw; (try dsimp only at hSw); go_simp; try with_reducible rfl
        simp only [Act.put, List.setIfInBounds_toArray, List.set_cons_zero, List.set_cons_succ]
        refine take_at 9 47 (v := cond bB (.bool bN) undef) rfl rfl (by kernel_rfl) (by kernel_rfl) (by kernel_rfl) (fun _ _ _ h => h) hHeld ?_ ?_
        · cases bB
          · exact Or.inr ⟨by kernel_rfl, by kernel_rfl⟩
          · refine Or.inl ⟨by kernel_rfl, ?_⟩
            intro w hSw; (try dsimp only at hSw); go_simp; try rfl
        simp only [Act.put, List.setIfInBounds_toArray, List.set_cons_zero, List.set_cons_succ]
        refine take_at 10 48 (v := .bool (bB && bN)) rfl rfl (by kernel_rfl) (by kernel_rfl) (by kernel_rfl) (fun _ _ _ h => h) hHeld ?_ ?_
        · cases bB
          all_goals
            refine Or.inl ⟨by kernel_rfl, ?_⟩
            intro w hSw; (try dsimp only at hSw); go_simp; try rfl
        simp only [Act.put, List.setIfInBounds_toArray, List.set_cons_zero, List.set_cons_succ]
        generalize HbX : (bB && bN) = bX at *
        replace HbX := hid HbX
        refine take_at 11 49 (v := ?_) rfl rfl (by kernel_rfl) (by kernel_rfl) (by kernel_rfl) (fun _ _ _ h => h) hHeld (Or.inl ⟨by kernel_rfl, ?_⟩) ?_
        rotate_left
        · intro w hSw; (try dsimp only at hSw); go_simp; try with_reducible rfl
        simp only [Act.put, List.setIfInBounds_toArray, List.set_cons_zero, List.set_cons_succ]
        refine take_at 12 50 (v := cond bX (.bool bV) undef) rfl rfl (by kernel_rfl) (by kernel_rfl) (by kernel_rfl) (fun _ _ _ h => h) hHeld ?_ ?_
        · cases bX
          · exact Or.inr ⟨by kernel_rfl, by kernel_rfl⟩
          · refine Or.inl ⟨by kernel_rfl, ?_⟩
            intro w hSw; (try dsimp only at hSw); go_simp; try rfl
        simp only [Act.put, List.setIfInBounds_toArray, List.set_cons_zero, List.set_cons_succ]
        refine take_at 13 51 (v := .bool (bX && bV)) rfl rfl (by kernel_rfl) (by kernel_rfl) (by kernel_rfl) (fun _ _ _ h => h) hHeld ?_ ?_
        · cases bX
          all_goals
            refine Or.inl ⟨by kernel_rfl, ?_⟩
            intro w hSw; (try dsimp only at hSw); go_simp; try rfl
        simp only [Act.put, List.setIfInBounds_toArray, List.set_cons_zero, List.set_cons_succ]
        generalize HbY : (bX && bV) = bY at *
        replace HbY := hid HbY
        refine take_at 14 52 (v := ?_) rfl rfl (by kernel_rfl) (by kernel_rfl) (by kernel_rfl) (fun _ _ _ h => h) hHeld (Or.inl ⟨by kernel_rfl, ?_⟩) ?_
        rotate_left
        · intro w hSw; (try dsimp only at hSw); go_simp; try with_reducible rfl
        simp only [Act.put, List.setIfInBounds_toArray, List.set_cons_zero, List.set_cons_succ]
        refine take_at 15 53 (v := cond bY (.pointer (some ⟨b, 23, none⟩)) undef) rfl rfl (by kernel_rfl) (by kernel_rfl) (by kernel_rfl) (fun _ _ _ h => h) hHeld ?_ ?_
        · cases bY
          · exact Or.inr ⟨by kernel_rfl, by kernel_rfl⟩
          · refine Or.inl ⟨by kernel_rfl, ?_⟩
            intro w hSw; (try dsimp only at hSw); go_simp; try rfl
        simp only [Act.put, List.setIfInBounds_toArray, List.set_cons_zero, List.set_cons_succ]
        refine take_at 16 54 (v := cond bY (.int .i64 i) undef) rfl rfl (by kernel_rfl) (by kernel_rfl) (by kernel_rfl) (fun _ _ _ h => h) hHeld ?_ ?_
        · cases bY
          · exact Or.inr ⟨by kernel_rfl, by kernel_rfl⟩
          · refine Or.inl ⟨by kernel_rfl, ?_⟩
            intro w hSw; (try dsimp only at hSw); go_simp; try rfl
        simp only [Act.put, List.setIfInBounds_toArray, List.set_cons_zero, List.set_cons_succ]
        refine take_at 17 55 (v := cond bY (.bool (decide (i = 0))) undef) rfl rfl (by kernel_rfl) (by kernel_rfl) (by kernel_rfl) (fun _ _ _ h => h) hHeld ?_ ?_
        · cases bY
          · exact Or.inr ⟨by kernel_rfl, by kernel_rfl⟩
          · refine Or.inl ⟨by kernel_rfl, ?_⟩
            intro w hSw; (try dsimp only at hSw); go_simp; try rfl
        simp only [Act.put, List.setIfInBounds_toArray, List.set_cons_zero, List.set_cons_succ]
        refine take_at 18 56 (v := .bool (bY && decide (i = 0))) rfl rfl (by kernel_rfl) (by kernel_rfl) (by kernel_rfl) (fun _ _ _ h => h) hHeld ?_ ?_
        · cases bY
          all_goals
            refine Or.inl ⟨by kernel_rfl, ?_⟩
            intro w hSw; (try dsimp only at hSw); go_simp; try rfl
        simp only [Act.put, List.setIfInBounds_toArray, List.set_cons_zero, List.set_cons_succ]
        refine wpAnyH_ready (rs := [19]) (by kernel_rfl) (by simp) ?_
        refine AllReadyH.cons (o := _) rfl (fun K hK => ?_) AllReadyH.nil
        go_simp
        refine hK.out _ _ hHeld (fun hHeld2 => ?_)
        clear hK K hHeld
        have hHeld := hHeld2
        clear hHeld2
        refine wpAnyH_ready (rs := [20]) (by kernel_rfl) (by simp) ?_
        refine AllReadyH.cons (o := _) rfl (fun K hK => ?_) AllReadyH.nil
        go_simp
        refine hK.out _ _ hHeld (fun hHeld2 => ?_)
        clear hK K hHeld
        have hHeld := hHeld2
        clear hHeld2
        refine wpAnyH_done (by kernel_rfl) ?_ _
        go_wp2
        go_ret2
        exact ⟨_, by rw [formed_0, HbB.out, HbN.out, HbV.out, ← HbY.out, ← HbX.out]; rfl, by rw [show numRec _ = _ from num_0 _ _ _ _ _ _]; exact own3.less (kB.trans k1).size, (kB.trans k1).trans hk3⟩
    have a0 : decide (k = 0) = false := decide_eq_false hk0
    have a0' : (k == 0) = false := by simpa using hk0
    by_cases hk1 : k = 1
    · subst hk1
      go_wp2_with fail
      have hS : ∀ W, Kp wc W → (W.rangeAt b 14 csB ∧ W.cell? ⟨b, 0, none⟩ = some (.int .i64 1) ∧ W.cell? ⟨b, 23, none⟩ = some (.int .i64 i) ∧ Kp wc W) := fun W hk => ⟨(k1.trans hk).range rB, hk.cellS d0', hk.cellS d23', hk⟩
      refine wp_region_held_drew (S := fun W => W.rangeAt b 14 csB ∧ W.cell? ⟨b, 0, none⟩ = some (.int .i64 1) ∧ W.cell? ⟨b, 23, none⟩ = some (.int .i64 i) ∧ Kp wc W) (by kernel_rfl) (hS _ (Kp.refl _).drew) (fun hHeld => ?_)
      refine take_at 0 59 (v := ?_) rfl rfl (by kernel_rfl) (by kernel_rfl) (by kernel_rfl) (fun _ _ _ h => h) hHeld (Or.inl ⟨by kernel_rfl, ?_⟩) ?_
      rotate_left
      · intro w hSw; (try dsimp only at hSw); go_simp; try with_reducible rfl
      simp only [Act.put, List.setIfInBounds_toArray, List.set_cons_zero, List.set_cons_succ]
      refine take_at 1 60 (v := ?_) rfl rfl (by kernel_rfl) (by kernel_rfl) (by kernel_rfl) (fun _ _ _ h => h) hHeld (Or.inl ⟨by kernel_rfl, ?_⟩) ?_
      rotate_left
      · intro w hSw; (try dsimp only at hSw); go_simp; try with_reducible rfl
      simp only [Act.put, List.setIfInBounds_toArray, List.set_cons_zero, List.set_cons_succ]
      refine take_at 3 62 (v := ?_) rfl rfl (by kernel_rfl) (by kernel_rfl) (by kernel_rfl) (fun _ _ _ h => h) hHeld (Or.inl ⟨by kernel_rfl, ?_⟩) ?_
      rotate_left
      · intro w hSw; (try dsimp only at hSw); go_simp; try with_reducible rfl
      simp only [Act.put, List.setIfInBounds_toArray, List.set_cons_zero, List.set_cons_succ]
      refine take_at 4 63 (v := _) rfl rfl (by kernel_rfl) (by kernel_rfl) (by kernel_rfl) (fun _ _ _ h => h) hHeld (yieldsIf_load_mid (by kernel_rfl) 42 _ rfl _ 14 rfl csB _ (fun _ h => h.1) Try.underlying42 rfl (by assumption)) ?_
      simp only [Act.put, List.setIfInBounds_toArray, List.set_cons_zero, List.set_cons_succ]
      refine take_at 7 66 (v := ?_) rfl rfl (by kernel_rfl) (by kernel_rfl) (by kernel_rfl) (fun _ _ _ h => h) hHeld (Or.inl ⟨by kernel_rfl, ?_⟩) ?_
      rotate_left
      · intro w hSw; (try dsimp only at hSw); go_simp; try with_reducible rfl
      simp only [Act.put, List.setIfInBounds_toArray, List.set_cons_zero, List.set_cons_succ]
      refine wpAnyH_ready (rs := [2, 5]) (by kernel_rfl) (by simp) ?_
      refine AllReadyH.cons (o := _) rfl (fun K hK => ?_) (AllReadyH.cons (o := _) rfl (fun K hK => ?_) AllReadyH.nil)
      · go_simp
        refine hK.out _ _ (hS _ (hHeld.2.2.2.alloc _)) (fun hHeld2 => ?_)
        clear hK K hHeld
        have hHeld := hHeld2
        clear hHeld2
        refine wpAnyH_ready (rs := [5]) (by kernel_rfl) (by simp) ?_
        refine AllReadyH.cons (o := _) rfl (fun K hK => ?_) AllReadyH.nil
        go_simp
        refine (nBase_any _ (⟨c0, b1, c2, c3, c4, c5, c6⟩ : Base) _ (vB.kp (k1.trans hHeld.2.2.2)) hlB).mono ?_
        rintro e w2 ⟨v2, rfl, own2, h2⟩
        obtain ⟨D2, z2, rfl, zz2, zf2⟩ := own2.form
        have own1 := (litOwn (w := wc) (base := wc.heap.size) [1] #[.int .i64 1] rfl (by simp) 1 rfl (Nat.le_refl _)).drew.kp h2
        have hk2 := hHeld.2.2.2.trans h2
        refine hK.out _ _ (hS _ hk2) (fun hHeld2 => ?_)
        clear hK K hHeld
        have hHeld := hHeld2
        clear hHeld2
        have s2 := own2.sl encInt_len
        refine wpAnyH_ready (rs := [6]) (by kernel_rfl) (by simp) ?_
        refine AllReadyH.cons (o := _) rfl (fun K hK => ?_) AllReadyH.nil
        refine step_append_flat rfl (.tmp 61) (.tmp 64) rfl stInt' encInt_len encInt_one rfl own1 rfl s2 (by have := HLB.out; simp; omega) (by have := HLB.out; simp; omega) hk2.size ?_
        intro v3 w3 own3 hg3
        have hk3 : Kp wc w3 := Kp.grown hk2 hg3 own1.ge
        refine hK.out _ _ (hS _ hk3) (fun hHeld2 => ?_)
        clear hK K hHeld
        have hHeld := hHeld2
        clear hHeld2
        clear own1 own2 h2 hk2 s2 hg3
        refine take_at 8 67 (v := ?_) rfl rfl (by kernel_rfl) (by kernel_rfl) (by kernel_rfl) (fun _ _ _ h => h) hHeld (Or.inl ⟨by kernel_rfl, ?_⟩) ?_
        rotate_left
        · intro w hSw; (try dsimp only at hSw); go_simp; try with_reducible rfl
        simp only [Act.put, List.setIfInBounds_toArray, List.set_cons_zero, List.set_cons_succ]
        refine take_at 9 68 (v := cond bE (.bool bN) undef) rfl rfl (by kernel_rfl) (by kernel_rfl) (by kernel_rfl) (fun _ _ _ h => h) hHeld ?_ ?_
        · cases bE
          · exact Or.inr ⟨by kernel_rfl, by kernel_rfl⟩
          · refine Or.inl ⟨by kernel_rfl, ?_⟩
            intro w hSw; (try dsimp only at hSw); go_simp; try rfl
        simp only [Act.put, List.setIfInBounds_toArray, List.set_cons_zero, List.set_cons_succ]
        refine take_at 10 69 (v := .bool (bE && bN)) rfl rfl (by kernel_rfl) (by kernel_rfl) (by kernel_rfl) (fun _ _ _ h => h) hHeld ?_ ?_
        · cases bE
          all_goals
            refine Or.inl ⟨by kernel_rfl, ?_⟩
            intro w hSw; (try dsimp only at hSw); go_simp; try rfl
        simp only [Act.put, List.setIfInBounds_toArray, List.set_cons_zero, List.set_cons_succ]
        generalize HbX : (bE && bN) = bX at *
        replace HbX := hid HbX
        refine take_at 11 70 (v := ?_) rfl rfl (by kernel_rfl) (by kernel_rfl) (by kernel_rfl) (fun _ _ _ h => h) hHeld (Or.inl ⟨by kernel_rfl, ?_⟩) ?_
        rotate_left
        · intro w hSw; (try dsimp only at hSw); go_simp; try with_reducible rfl
        simp only [Act.put, List.setIfInBounds_toArray, List.set_cons_zero, List.set_cons_succ]
        refine take_at 12 71 (v := cond bX (.bool bV) undef) rfl rfl (by kernel_rfl) (by kernel_rfl) (by kernel_rfl) (fun _ _ _ h => h) hHeld ?_ ?_
        · cases bX
          · exact Or.inr ⟨by kernel_rfl, by kernel_rfl⟩
          · refine Or.inl ⟨by kernel_rfl, ?_⟩
            intro w hSw; (try dsimp only at hSw); go_simp; try rfl
        simp only [Act.put, List.setIfInBounds_toArray, List.set_cons_zero, List.set_cons_succ]
        refine take_at 13 72 (v := .bool (bX && bV)) rfl rfl (by kernel_rfl) (by kernel_rfl) (by kernel_rfl) (fun _ _ _ h => h) hHeld ?_ ?_
        · cases bX
          all_goals
            refine Or.inl ⟨by kernel_rfl, ?_⟩
            intro w hSw; (try dsimp only at hSw); go_simp; try rfl
        simp only [Act.put, List.setIfInBounds_toArray, List.set_cons_zero, List.set_cons_succ]
        generalize HbY : (bX && bV) = bY at *
        replace HbY := hid HbY
        refine take_at 14 73 (v := ?_) rfl rfl (by kernel_rfl) (by kernel_rfl) (by kernel_rfl) (fun _ _ _ h => h) hHeld (Or.inl ⟨by kernel_rfl, ?_⟩) ?_
        rotate_left
        · intro w hSw; (try dsimp only at hSw); go_simp; try with_reducible rfl
        simp only [Act.put, List.setIfInBounds_toArray, List.set_cons_zero, List.set_cons_succ]
        refine take_at 15 74 (v := cond bY (.pointer (some ⟨b, 23, none⟩)) undef) rfl rfl (by kernel_rfl) (by kernel_rfl) (by kernel_rfl) (fun _ _ _ h => h) hHeld ?_ ?_
        · cases bY
          · exact Or.inr ⟨by kernel_rfl, by kernel_rfl⟩
          · refine Or.inl ⟨by kernel_rfl, ?_⟩
            intro w hSw; (try dsimp only at hSw); go_simp; try rfl
        simp only [Act.put, List.setIfInBounds_toArray, List.set_cons_zero, List.set_cons_succ]
        refine take_at 16 75 (v := cond bY (.int .i64 i) undef) rfl rfl (by kernel_rfl) (by kernel_rfl) (by kernel_rfl) (fun _ _ _ h => h) hHeld ?_ ?_
        · cases bY
          · exact Or.inr ⟨by kernel_rfl, by kernel_rfl⟩
          · refine Or.inl ⟨by kernel_rfl, ?_⟩
            intro w hSw; (try dsimp only at hSw); go_simp; try rfl
        simp only [Act.put, List.setIfInBounds_toArray, List.set_cons_zero, List.set_cons_succ]
        refine take_at 17 76 (v := cond bY (.bool (decide (i = 0))) undef) rfl rfl (by kernel_rfl) (by kernel_rfl) (by kernel_rfl) (fun _ _ _ h => h) hHeld ?_ ?_
        · cases bY
          · exact Or.inr ⟨by kernel_rfl, by kernel_rfl⟩
          · refine Or.inl ⟨by kernel_rfl, ?_⟩
            intro w hSw; (try dsimp only at hSw); go_simp; try rfl
        simp only [Act.put, List.setIfInBounds_toArray, List.set_cons_zero, List.set_cons_succ]
        refine take_at 18 77 (v := .bool (bY && decide (i = 0))) rfl rfl (by kernel_rfl) (by kernel_rfl) (by kernel_rfl) (fun _ _ _ h => h) hHeld ?_ ?_
        · cases bY
          all_goals
            refine Or.inl ⟨by kernel_rfl, ?_⟩
            intro w hSw; (try dsimp only at hSw); go_simp; try rfl
        simp only [Act.put, List.setIfInBounds_toArray, List.set_cons_zero, List.set_cons_succ]
        refine wpAnyH_ready (rs := [19]) (by kernel_rfl) (by simp) ?_
        refine AllReadyH.cons (o := _) rfl (fun K hK => ?_) AllReadyH.nil
        go_simp
        refine hK.out _ _ hHeld (fun hHeld2 => ?_)
        clear hK K hHeld
        have hHeld := hHeld2
        clear hHeld2
        refine wpAnyH_ready (rs := [20]) (by kernel_rfl) (by simp) ?_
        refine AllReadyH.cons (o := _) rfl (fun K hK => ?_) AllReadyH.nil
        go_simp
        refine hK.out _ _ hHeld (fun hHeld2 => ?_)
        clear hK K hHeld
        have hHeld := hHeld2
        clear hHeld2
        refine wpAnyH_done (by kernel_rfl) ?_ _
        go_wp2
        go_ret2
        exact ⟨_, by rw [formed_1, HbE.out, HbN.out, HbV.out, ← HbY.out, ← HbX.out]; rfl, by rw [show numRec _ = _ from num_1 _ _ _ _ _ _]; exact own3.less (kB.trans k1).size, (kB.trans k1).trans hk3⟩
      · go_simp
        refine (nBase_any _ (⟨c0, b1, c2, c3, c4, c5, c6⟩ : Base) _ (vB.kp (k1.trans hHeld.2.2.2)) hlB).mono ?_
        rintro e w2 ⟨v2, rfl, own2, h2⟩
        obtain ⟨D2, z2, rfl, zz2, zf2⟩ := own2.form
        have hk2 := hHeld.2.2.2.trans h2
        refine hK.out _ _ (hS _ hk2) (fun hHeld2 => ?_)
        clear hK K hHeld
        have hHeld := hHeld2
        clear hHeld2
        refine wpAnyH_ready (rs := [2]) (by kernel_rfl) (by simp) ?_
        refine AllReadyH.cons (o := _) rfl (fun K hK => ?_) AllReadyH.nil
        go_simp
        have own1 := (litOwn (w := w2) (base := wc.heap.size) [1] #[.int .i64 1] rfl (by simp) 1 rfl hk2.size)
        have s2 := (own2.sl encInt_len).keep (pl_stable _) ((Kp.refl w2).alloc (.cells #[.int .i64 1] 3))
        replace hk2 := hk2.alloc (.cells #[.int .i64 1] 3)
        refine hK.out _ _ (hS _ hk2) (fun hHeld2 => ?_)
        clear hK K hHeld
        have hHeld := hHeld2
        clear hHeld2
        refine wpAnyH_ready (rs := [6]) (by kernel_rfl) (by simp) ?_
        refine AllReadyH.cons (o := _) rfl (fun K hK => ?_) AllReadyH.nil
        refine step_append_flat rfl (.tmp 61) (.tmp 64) rfl stInt' encInt_len encInt_one rfl own1 rfl s2 (by have := HLB.out; simp; omega) (by have := HLB.out; simp; omega) hk2.size ?_
        intro v3 w3 own3 hg3
        have hk3 : Kp wc w3 := Kp.grown hk2 hg3 own1.ge
        refine hK.out _ _ (hS _ hk3) (fun hHeld2 => ?_)
        clear hK K hHeld
        have hHeld := hHeld2
        clear hHeld2
        clear own1 own2 h2 hk2 s2 hg3
        refine take_at 8 67 (v := ?_) rfl rfl (by kernel_rfl) (by kernel_rfl) (by kernel_rfl) (fun _ _ _ h => h) hHeld (Or.inl ⟨by kernel_rfl, ?_⟩) ?_
        rotate_left
        · intro w hSw; (try dsimp only at hSw); go_simp; try with_reducible rfl
        simp only [Act.put, List.setIfInBounds_toArray, List.set_cons_zero, List.set_cons_succ]
        refine take_at 9 68 (v := cond bE (.bool bN) undef) rfl rfl (by kernel_rfl) (by kernel_rfl) (by kernel_rfl) (fun _ _ _ h => h) hHeld ?_ ?_
        · cases bE
          · exact Or.inr ⟨by kernel_rfl, by kernel_rfl⟩
          · refine Or.inl ⟨by kernel_rfl, ?_⟩
            intro w hSw; (try dsimp only at hSw); go_simp; try rfl
        simp only [Act.put, List.setIfInBounds_toArray, List.set_cons_zero, List.set_cons_succ]
        refine take_at 10 69 (v := .bool (bE && bN)) rfl rfl (by kernel_rfl) (by kernel_rfl) (by kernel_rfl) (fun _ _ _ h => h) hHeld ?_ ?_
        · cases bE
          all_goals
            refine Or.inl ⟨by kernel_rfl, ?_⟩
            intro w hSw; (try dsimp only at hSw); go_simp; try rfl
        simp only [Act.put, List.setIfInBounds_toArray, List.set_cons_zero, List.set_cons_succ]
        generalize HbX : (bE && bN) = bX at *
        replace HbX := hid HbX
        refine take_at 11 70 (v := ?_) rfl rfl (by kernel_rfl) (by kernel_rfl) (by kernel_rfl) (fun _ _ _ h => h) hHeld (Or.inl ⟨by kernel_rfl, ?_⟩) ?_
        rotate_left
        · intro w hSw; (try dsimp only at hSw); go_simp; try with_reducible rfl
        simp only [Act.put, List.setIfInBounds_toArray, List.set_cons_zero, List.set_cons_succ]
        refine take_at 12 71 (v := cond bX (.bool bV) undef) rfl rfl (by kernel_rfl) (by kernel_rfl) (by kernel_rfl) (fun _ _ _ h => h) hHeld ?_ ?_
        · cases bX
          · exact Or.inr ⟨by kernel_rfl, by kernel_rfl⟩
          · refine Or.inl ⟨by kernel_rfl, ?_⟩
            intro w hSw; (try dsimp only at hSw); go_simp; try rfl
        simp only [Act.put, List.setIfInBounds_toArray, List.set_cons_zero, List.set_cons_succ]
        refine take_at 13 72 (v := .bool (bX && bV)) rfl rfl (by kernel_rfl) (by kernel_rfl) (by kernel_rfl) (fun _ _ _ h => h) hHeld ?_ ?_
        · cases bX
          all_goals
            refine Or.inl ⟨by kernel_rfl, ?_⟩
            intro w hSw; (try dsimp only at hSw); go_simp; try rfl
        simp only [Act.put, List.setIfInBounds_toArray, List.set_cons_zero, List.set_cons_succ]
        generalize HbY : (bX && bV) = bY at *
        replace HbY := hid HbY
        refine take_at 14 73 (v := ?_) rfl rfl (by kernel_rfl) (by kernel_rfl) (by kernel_rfl) (fun _ _ _ h => h) hHeld (Or.inl ⟨by kernel_rfl, ?_⟩) ?_
        rotate_left
        · intro w hSw; (try dsimp only at hSw); go_simp; try with_reducible rfl
        simp only [Act.put, List.setIfInBounds_toArray, List.set_cons_zero, List.set_cons_succ]
        refine take_at 15 74 (v := cond bY (.pointer (some ⟨b, 23, none⟩)) undef) rfl rfl (by kernel_rfl) (by kernel_rfl) (by kernel_rfl) (fun _ _ _ h => h) hHeld ?_ ?_
        · cases bY
          · exact Or.inr ⟨by kernel_rfl, by kernel_rfl⟩
          · refine Or.inl ⟨by kernel_rfl, ?_⟩
            intro w hSw; (try dsimp only at hSw); go_simp; try rfl
        simp only [Act.put, List.setIfInBounds_toArray, List.set_cons_zero, List.set_cons_succ]
        refine take_at 16 75 (v := cond bY (.int .i64 i) undef) rfl rfl (by kernel_rfl) (by kernel_rfl) (by kernel_rfl) (fun _ _ _ h => h) hHeld ?_ ?_
        · cases bY
          · exact Or.inr ⟨by kernel_rfl, by kernel_rfl⟩
          · refine Or.inl ⟨by kernel_rfl, ?_⟩
            intro w hSw; (try dsimp only at hSw); go_simp; try rfl
        simp only [Act.put, List.setIfInBounds_toArray, List.set_cons_zero, List.set_cons_succ]
        refine take_at 17 76 (v := cond bY (.bool (decide (i = 0))) undef) rfl rfl (by kernel_rfl) (by kernel_rfl) (by kernel_rfl) (fun _ _ _ h => h) hHeld ?_ ?_
        · cases bY
          · exact Or.inr ⟨by kernel_rfl, by kernel_rfl⟩
          · refine Or.inl ⟨by kernel_rfl, ?_⟩
            intro w hSw; (try dsimp only at hSw); go_simp; try rfl
        simp only [Act.put, List.setIfInBounds_toArray, List.set_cons_zero, List.set_cons_succ]
        refine take_at 18 77 (v := .bool (bY && decide (i = 0))) rfl rfl (by kernel_rfl) (by kernel_rfl) (by kernel_rfl) (fun _ _ _ h => h) hHeld ?_ ?_
        · cases bY
          all_goals
            refine Or.inl ⟨by kernel_rfl, ?_⟩
            intro w hSw; (try dsimp only at hSw); go_simp; try rfl
        simp only [Act.put, List.setIfInBounds_toArray, List.set_cons_zero, List.set_cons_succ]
        refine wpAnyH_ready (rs := [19]) (by kernel_rfl) (by simp) ?_
        refine AllReadyH.cons (o := _) rfl (fun K hK => ?_) AllReadyH.nil
        go_simp
        refine hK.out _ _ hHeld (fun hHeld2 => ?_)
        clear hK K hHeld
        have hHeld := hHeld2
        clear hHeld2
        refine wpAnyH_ready (rs := [20]) (by kernel_rfl) (by simp) ?_
        refine AllReadyH.cons (o := _) rfl (fun K hK => ?_) AllReadyH.nil
        go_simp
        refine hK.out _ _ hHeld (fun hHeld2 => ?_)
        clear hK K hHeld
        have hHeld := hHeld2
        clear hHeld2
        refine wpAnyH_done (by kernel_rfl) ?_ _
        go_wp2
        go_ret2
        exact ⟨_, by rw [formed_1, HbE.out, HbN.out, HbV.out, ← HbY.out, ← HbX.out]; rfl, by rw [show numRec _ = _ from num_1 _ _ _ _ _ _]; exact own3.less (kB.trans k1).size, (kB.trans k1).trans hk3⟩
    have a1 : decide (k = 1) = false := decide_eq_false hk1
    have a1' : (k == 1) = false := by simpa using hk1
    by_cases hk2 : k = 2
    · subst hk2
      go_wp2_with fail
      have hS : ∀ W, Kp wc W → (W.cell? ⟨b, 21, none⟩ = some (.int .i64 t) ∧ W.cell? ⟨b, 22, none⟩ = some (.int .i64 v) ∧ W.cell? ⟨b, 0, none⟩ = some (.int .i64 2) ∧ W.cell? ⟨b, 23, none⟩ = some (.int .i64 i) ∧ Kp wc W) := fun W hk => ⟨hk.cellS d21', hk.cellS d22', hk.cellS d0', hk.cellS d23', hk⟩
      refine wp_region_held_drew (S := fun W => W.cell? ⟨b, 21, none⟩ = some (.int .i64 t) ∧ W.cell? ⟨b, 22, none⟩ = some (.int .i64 v) ∧ W.cell? ⟨b, 0, none⟩ = some (.int .i64 2) ∧ W.cell? ⟨b, 23, none⟩ = some (.int .i64 i) ∧ Kp wc W) (by kernel_rfl) (hS _ (Kp.refl _).drew) (fun hHeld => ?_)
      refine take_at 0 80 (v := ?_) rfl rfl (by kernel_rfl) (by kernel_rfl) (by kernel_rfl) (fun _ _ _ h => h) hHeld (Or.inl ⟨by kernel_rfl, ?_⟩) ?_
      rotate_left
      · intro w hSw; (try dsimp only at hSw); go_simp; try with_reducible rfl
      simp only [Act.put, List.setIfInBounds_toArray, List.set_cons_zero, List.set_cons_succ]
      refine take_at 1 81 (v := ?_) rfl rfl (by kernel_rfl) (by kernel_rfl) (by kernel_rfl) (fun _ _ _ h => h) hHeld (Or.inl ⟨by kernel_rfl, ?_⟩) ?_
      rotate_left
      · intro w hSw; (try dsimp only at hSw); go_simp; try with_reducible rfl
      simp only [Act.put, List.setIfInBounds_toArray, List.set_cons_zero, List.set_cons_succ]
      refine take_at 2 82 (v := ?_) rfl rfl (by kernel_rfl) (by kernel_rfl) (by kernel_rfl) (fun _ _ _ h => h) hHeld (Or.inl ⟨by kernel_rfl, ?_⟩) ?_
      rotate_left
      · intro w hSw; (try dsimp only at hSw); go_simp; try with_reducible rfl
      simp only [Act.put, List.setIfInBounds_toArray, List.set_cons_zero, List.set_cons_succ]
      refine take_at 3 83 (v := ?_) rfl rfl (by kernel_rfl) (by kernel_rfl) (by kernel_rfl) (fun _ _ _ h => h) hHeld (Or.inl ⟨by kernel_rfl, ?_⟩) ?_
      rotate_left
      · intro w hSw; (try dsimp only at hSw); go_simp; try with_reducible rfl
      simp only [Act.put, List.setIfInBounds_toArray, List.set_cons_zero, List.set_cons_succ]
      refine take_at 4 84 (v := ?_) rfl rfl (by kernel_rfl) (by kernel_rfl) (by kernel_rfl) (fun _ _ _ h => h) hHeld (Or.inl ⟨by kernel_rfl, ?_⟩) ?_
      rotate_left
      · intro w hSw; (try dsimp only at hSw); go_simp; try with_reducible rfl
      simp only [Act.put, List.setIfInBounds_toArray, List.set_cons_zero, List.set_cons_succ]
      refine take_at 5 85 (v := ?_) rfl rfl (by kernel_rfl) (by kernel_rfl) (by kernel_rfl) (fun _ _ _ h => h) hHeld (Or.inl ⟨by kernel_rfl, ?_⟩) ?_
      rotate_left
      · intro w hSw; (try dsimp only at hSw); go_simp; try with_reducible rfl
      simp only [Act.put, List.setIfInBounds_toArray, List.set_cons_zero, List.set_cons_succ]
      refine take_at 7 87 (v := ?_) rfl rfl (by kernel_rfl) (by kernel_rfl) (by kernel_rfl) (fun _ _ _ h => h) hHeld (Or.inl ⟨by kernel_rfl, ?_⟩) ?_
      rotate_left
      · intro w hSw; (try dsimp only at hSw); go_simp; try with_reducible rfl
      simp only [Act.put, List.setIfInBounds_toArray, List.set_cons_zero, List.set_cons_succ]
      refine take_at 8 88 (v := ?_) rfl rfl (by kernel_rfl) (by kernel_rfl) (by kernel_rfl) (fun _ _ _ h => h) hHeld (Or.inl ⟨by kernel_rfl, ?_⟩) ?_
      rotate_left
      · intro w hSw; (try dsimp only at hSw); go_simp; try with_reducible rfl
      simp only [Act.put, List.setIfInBounds_toArray, List.set_cons_zero, List.set_cons_succ]
      refine take_at 9 89 (v := cond bE (.bool bB) undef) rfl rfl (by kernel_rfl) (by kernel_rfl) (by kernel_rfl) (fun _ _ _ h => h) hHeld ?_ ?_
      · cases bE
        · exact Or.inr ⟨by kernel_rfl, by kernel_rfl⟩
        · refine Or.inl ⟨by kernel_rfl, ?_⟩
          intro w hSw; (try dsimp only at hSw); go_simp; try rfl
      simp only [Act.put, List.setIfInBounds_toArray, List.set_cons_zero, List.set_cons_succ]
      refine take_at 10 90 (v := .bool (bE && bB)) rfl rfl (by kernel_rfl) (by kernel_rfl) (by kernel_rfl) (fun _ _ _ h => h) hHeld ?_ ?_
      · cases bE
        all_goals
          refine Or.inl ⟨by kernel_rfl, ?_⟩
          intro w hSw; (try dsimp only at hSw); go_simp; try rfl
      simp only [Act.put, List.setIfInBounds_toArray, List.set_cons_zero, List.set_cons_succ]
      generalize HbX : (bE && bB) = bX at *
      replace HbX := hid HbX
      refine take_at 11 91 (v := ?_) rfl rfl (by kernel_rfl) (by kernel_rfl) (by kernel_rfl) (fun _ _ _ h => h) hHeld (Or.inl ⟨by kernel_rfl, ?_⟩) ?_
      rotate_left
      · intro w hSw; (try dsimp only at hSw); go_simp; try with_reducible rfl
      simp only [Act.put, List.setIfInBounds_toArray, List.set_cons_zero, List.set_cons_succ]
      refine take_at 12 92 (v := cond bX (.bool bN) undef) rfl rfl (by kernel_rfl) (by kernel_rfl) (by kernel_rfl) (fun _ _ _ h => h) hHeld ?_ ?_
      · cases bX
        · exact Or.inr ⟨by kernel_rfl, by kernel_rfl⟩
        · refine Or.inl ⟨by kernel_rfl, ?_⟩
          intro w hSw; (try dsimp only at hSw); go_simp; try rfl
      simp only [Act.put, List.setIfInBounds_toArray, List.set_cons_zero, List.set_cons_succ]
      refine take_at 13 93 (v := .bool (bX && bN)) rfl rfl (by kernel_rfl) (by kernel_rfl) (by kernel_rfl) (fun _ _ _ h => h) hHeld ?_ ?_
      · cases bX
        all_goals
          refine Or.inl ⟨by kernel_rfl, ?_⟩
          intro w hSw; (try dsimp only at hSw); go_simp; try rfl
      simp only [Act.put, List.setIfInBounds_toArray, List.set_cons_zero, List.set_cons_succ]
      generalize HbY : (bX && bN) = bY at *
      replace HbY := hid HbY
      refine take_at 14 94 (v := ?_) rfl rfl (by kernel_rfl) (by kernel_rfl) (by kernel_rfl) (fun _ _ _ h => h) hHeld (Or.inl ⟨by kernel_rfl, ?_⟩) ?_
      rotate_left
      · intro w hSw; (try dsimp only at hSw); go_simp; try with_reducible rfl
      simp only [Act.put, List.setIfInBounds_toArray, List.set_cons_zero, List.set_cons_succ]
      refine take_at 15 95 (v := cond bY (.pointer (some ⟨b, 23, none⟩)) undef) rfl rfl (by kernel_rfl) (by kernel_rfl) (by kernel_rfl) (fun _ _ _ h => h) hHeld ?_ ?_
      · cases bY
        · exact Or.inr ⟨by kernel_rfl, by kernel_rfl⟩
        · refine Or.inl ⟨by kernel_rfl, ?_⟩
          intro w hSw; (try dsimp only at hSw); go_simp; try rfl
      simp only [Act.put, List.setIfInBounds_toArray, List.set_cons_zero, List.set_cons_succ]
      refine take_at 16 96 (v := cond bY (.int .i64 i) undef) rfl rfl (by kernel_rfl) (by kernel_rfl) (by kernel_rfl) (fun _ _ _ h => h) hHeld ?_ ?_
      · cases bY
        · exact Or.inr ⟨by kernel_rfl, by kernel_rfl⟩
        · refine Or.inl ⟨by kernel_rfl, ?_⟩
          intro w hSw; (try dsimp only at hSw); go_simp; try rfl
      simp only [Act.put, List.setIfInBounds_toArray, List.set_cons_zero, List.set_cons_succ]
      refine take_at 17 97 (v := cond bY (.bool (decide (i = 0))) undef) rfl rfl (by kernel_rfl) (by kernel_rfl) (by kernel_rfl) (fun _ _ _ h => h) hHeld ?_ ?_
      · cases bY
        · exact Or.inr ⟨by kernel_rfl, by kernel_rfl⟩
        · refine Or.inl ⟨by kernel_rfl, ?_⟩
          intro w hSw; (try dsimp only at hSw); go_simp; try rfl
      simp only [Act.put, List.setIfInBounds_toArray, List.set_cons_zero, List.set_cons_succ]
      refine take_at 18 98 (v := .bool (bY && decide (i = 0))) rfl rfl (by kernel_rfl) (by kernel_rfl) (by kernel_rfl) (fun _ _ _ h => h) hHeld ?_ ?_
      · cases bY
        all_goals
          refine Or.inl ⟨by kernel_rfl, ?_⟩
          intro w hSw; (try dsimp only at hSw); go_simp; try rfl
      simp only [Act.put, List.setIfInBounds_toArray, List.set_cons_zero, List.set_cons_succ]
      refine wpAnyH_ready (rs := [6]) (by kernel_rfl) (by simp) ?_
      refine AllReadyH.cons (o := _) rfl (fun K hK => ?_) AllReadyH.nil
      go_simp
      have own3 := litOwn (w := wc.drew) (base := wc.heap.size) [2, t, v] #[.int .i64 2, .int .i64 t, .int .i64 v] rfl (by simp) 3 rfl (Nat.le_refl _)
      have hk3 := ((Kp.refl wc).drew).alloc (.cells #[.int .i64 2, .int .i64 t, .int .i64 v] 3)
      refine hK.out _ _ (hS _ hk3) (fun hHeld2 => ?_)
      clear hK K hHeld
      have hHeld := hHeld2
      clear hHeld2
      refine wpAnyH_ready (rs := [19]) (by kernel_rfl) (by simp) ?_
      refine AllReadyH.cons (o := _) rfl (fun K hK => ?_) AllReadyH.nil
      go_simp
      refine hK.out _ _ hHeld (fun hHeld2 => ?_)
      clear hK K hHeld
      have hHeld := hHeld2
      clear hHeld2
      refine wpAnyH_ready (rs := [20]) (by kernel_rfl) (by simp) ?_
      refine AllReadyH.cons (o := _) rfl (fun K hK => ?_) AllReadyH.nil
      go_simp
      refine hK.out _ _ hHeld (fun hHeld2 => ?_)
      clear hK K hHeld
      have hHeld := hHeld2
      clear hHeld2
      refine wpAnyH_done (by kernel_rfl) ?_ _
      go_wp2
      go_ret2
      exact ⟨_, by rw [formed_2, HbE.out, HbB.out, HbN.out, ← HbY.out, ← HbX.out]; rfl, by rw [show numRec _ = _ from num_2 _ _ _ _ _ _]; exact own3.less (kB.trans k1).size, (kB.trans k1).trans hk3⟩
    have a2 : decide (k = 2) = false := decide_eq_false hk2
    have a2' : (k == 2) = false := by simpa using hk2
    by_cases hk3 : k = 3
    · subst hk3
      go_wp2_with fail
      have hS : ∀ W, Kp wc W → (W.rangeAt b 24 csN ∧ W.cell? ⟨b, 0, none⟩ = some (.int .i64 3) ∧ W.cell? ⟨b, 23, none⟩ = some (.int .i64 i) ∧ Kp wc W) := fun W hk => ⟨(k1.trans hk).range rN, hk.cellS d0', hk.cellS d23', hk⟩
      refine wp_region_held_drew (S := fun W => W.rangeAt b 24 csN ∧ W.cell? ⟨b, 0, none⟩ = some (.int .i64 3) ∧ W.cell? ⟨b, 23, none⟩ = some (.int .i64 i) ∧ Kp wc W) (by kernel_rfl) (hS _ (Kp.refl _).drew) (fun hHeld => ?_)
      refine take_at 0 101 (v := ?_) rfl rfl (by kernel_rfl) (by kernel_rfl) (by kernel_rfl) (fun _ _ _ h => h) hHeld (Or.inl ⟨by kernel_rfl, ?_⟩) ?_
      rotate_left
      · intro w hSw; (try dsimp only at hSw); go_simp; try with_reducible rfl
      simp only [Act.put, List.setIfInBounds_toArray, List.set_cons_zero, List.set_cons_succ]
      refine take_at 1 102 (v := ?_) rfl rfl (by kernel_rfl) (by kernel_rfl) (by kernel_rfl) (fun _ _ _ h => h) hHeld (Or.inl ⟨by kernel_rfl, ?_⟩) ?_
      rotate_left
      · intro w hSw; (try dsimp only at hSw); go_simp; try with_reducible rfl
      simp only [Act.put, List.setIfInBounds_toArray, List.set_cons_zero, List.set_cons_succ]
      refine take_at 2 103 (v := ?_) rfl rfl (by kernel_rfl) (by kernel_rfl) (by kernel_rfl) (fun _ _ _ h => h) hHeld (Or.inl ⟨by kernel_rfl, ?_⟩) ?_
      rotate_left
      · intro w hSw; (try dsimp only at hSw); go_simp; try with_reducible rfl
      simp only [Act.put, List.setIfInBounds_toArray, List.set_cons_zero, List.set_cons_succ]
      refine take_at 3 104 (v := ?_) rfl rfl (by kernel_rfl) (by kernel_rfl) (by kernel_rfl) (fun _ _ _ h => h) hHeld (Or.inl ⟨by kernel_rfl, ?_⟩) ?_
      rotate_left
      · intro w hSw; (try dsimp only at hSw); go_simp; try with_reducible rfl
      simp only [Act.put, List.setIfInBounds_toArray, List.set_cons_zero, List.set_cons_succ]
      refine take_at 5 106 (v := ?_) rfl rfl (by kernel_rfl) (by kernel_rfl) (by kernel_rfl) (fun _ _ _ h => h) hHeld (Or.inl ⟨by kernel_rfl, ?_⟩) ?_
      rotate_left
      · intro w hSw; (try dsimp only at hSw); go_simp; try with_reducible rfl
      simp only [Act.put, List.setIfInBounds_toArray, List.set_cons_zero, List.set_cons_succ]
      refine take_at 6 107 (v := _) rfl rfl (by kernel_rfl) (by kernel_rfl) (by kernel_rfl) (fun _ _ _ h => h) hHeld (yieldsIf_load_mid (by kernel_rfl) 44 _ rfl _ 24 rfl csN _ (fun _ h => h.1) Try.underlying44 rfl (by assumption)) ?_
      simp only [Act.put, List.setIfInBounds_toArray, List.set_cons_zero, List.set_cons_succ]
      refine take_at 9 110 (v := ?_) rfl rfl (by kernel_rfl) (by kernel_rfl) (by kernel_rfl) (fun _ _ _ h => h) hHeld (Or.inl ⟨by kernel_rfl, ?_⟩) ?_
      rotate_left
      · intro w hSw; (try dsimp only at hSw); go_simp; try with_reducible rfl
      simp only [Act.put, List.setIfInBounds_toArray, List.set_cons_zero, List.set_cons_succ]
      refine wpAnyH_ready (rs := [4, 7]) (by kernel_rfl) (by simp) ?_
      refine AllReadyH.cons (o := _) rfl (fun K hK => ?_) (AllReadyH.cons (o := _) rfl (fun K hK => ?_) AllReadyH.nil)
      · go_simp
        refine hK.out _ _ (hS _ (hHeld.2.2.2.alloc _)) (fun hHeld2 => ?_)
        clear hK K hHeld
        have hHeld := hHeld2
        clear hHeld2
        refine wpAnyH_ready (rs := [7]) (by kernel_rfl) (by simp) ?_
        refine AllReadyH.cons (o := _) rfl (fun K hK => ?_) AllReadyH.nil
        go_simp
        refine (nEntry_any _ (⟨n0, n1, n2, n3, n4, n5⟩ : Entry) _ (vN.kp (k1.trans hHeld.2.2.2)) hlpN).mono ?_
        rintro e w2 ⟨v2, rfl, own2, h2⟩
        obtain ⟨D2, z2, rfl, zz2, zf2⟩ := own2.form
        have own1 := (litOwn (w := wc) (base := wc.heap.size) [3, i] #[.int .i64 3, .int .i64 i] rfl (by simp) 2 rfl (Nat.le_refl _)).drew.kp h2
        have hk2 := hHeld.2.2.2.trans h2
        refine hK.out _ _ (hS _ hk2) (fun hHeld2 => ?_)
        clear hK K hHeld
        have hHeld := hHeld2
        clear hHeld2
        have s2 := own2.sl encInt_len
        refine wpAnyH_ready (rs := [8]) (by kernel_rfl) (by simp) ?_
        refine AllReadyH.cons (o := _) rfl (fun K hK => ?_) AllReadyH.nil
        refine step_append_flat rfl (.tmp 105) (.tmp 108) rfl stInt' encInt_len encInt_one rfl own1 rfl s2 (by have := HLN.out; simp; omega) (by have := HLN.out; simp; omega) hk2.size ?_
        intro v3 w3 own3 hg3
        have hk3 : Kp wc w3 := Kp.grown hk2 hg3 own1.ge
        refine hK.out _ _ (hS _ hk3) (fun hHeld2 => ?_)
        clear hK K hHeld
        have hHeld := hHeld2
        clear hHeld2
        clear own1 own2 h2 hk2 s2 hg3
        refine take_at 10 111 (v := ?_) rfl rfl (by kernel_rfl) (by kernel_rfl) (by kernel_rfl) (fun _ _ _ h => h) hHeld (Or.inl ⟨by kernel_rfl, ?_⟩) ?_
        rotate_left
        · intro w hSw; (try dsimp only at hSw); go_simp; try with_reducible rfl
        simp only [Act.put, List.setIfInBounds_toArray, List.set_cons_zero, List.set_cons_succ]
        refine take_at 11 112 (v := cond bE (.bool bB) undef) rfl rfl (by kernel_rfl) (by kernel_rfl) (by kernel_rfl) (fun _ _ _ h => h) hHeld ?_ ?_
        · cases bE
          · exact Or.inr ⟨by kernel_rfl, by kernel_rfl⟩
          · refine Or.inl ⟨by kernel_rfl, ?_⟩
            intro w hSw; (try dsimp only at hSw); go_simp; try rfl
        simp only [Act.put, List.setIfInBounds_toArray, List.set_cons_zero, List.set_cons_succ]
        refine take_at 12 113 (v := .bool (bE && bB)) rfl rfl (by kernel_rfl) (by kernel_rfl) (by kernel_rfl) (fun _ _ _ h => h) hHeld ?_ ?_
        · cases bE
          all_goals
            refine Or.inl ⟨by kernel_rfl, ?_⟩
            intro w hSw; (try dsimp only at hSw); go_simp; try rfl
        simp only [Act.put, List.setIfInBounds_toArray, List.set_cons_zero, List.set_cons_succ]
        generalize HbX : (bE && bB) = bX at *
        replace HbX := hid HbX
        refine take_at 13 114 (v := ?_) rfl rfl (by kernel_rfl) (by kernel_rfl) (by kernel_rfl) (fun _ _ _ h => h) hHeld (Or.inl ⟨by kernel_rfl, ?_⟩) ?_
        rotate_left
        · intro w hSw; (try dsimp only at hSw); go_simp; try with_reducible rfl
        simp only [Act.put, List.setIfInBounds_toArray, List.set_cons_zero, List.set_cons_succ]
        refine take_at 14 115 (v := cond bX (.bool bV) undef) rfl rfl (by kernel_rfl) (by kernel_rfl) (by kernel_rfl) (fun _ _ _ h => h) hHeld ?_ ?_
        · cases bX
          · exact Or.inr ⟨by kernel_rfl, by kernel_rfl⟩
          · refine Or.inl ⟨by kernel_rfl, ?_⟩
            intro w hSw; (try dsimp only at hSw); go_simp; try rfl
        simp only [Act.put, List.setIfInBounds_toArray, List.set_cons_zero, List.set_cons_succ]
        refine take_at 15 116 (v := .bool (bX && bV)) rfl rfl (by kernel_rfl) (by kernel_rfl) (by kernel_rfl) (fun _ _ _ h => h) hHeld ?_ ?_
        · cases bX
          all_goals
            refine Or.inl ⟨by kernel_rfl, ?_⟩
            intro w hSw; (try dsimp only at hSw); go_simp; try rfl
        simp only [Act.put, List.setIfInBounds_toArray, List.set_cons_zero, List.set_cons_succ]
        refine wpAnyH_ready (rs := [16]) (by kernel_rfl) (by simp) ?_
        refine AllReadyH.cons (o := _) rfl (fun K hK => ?_) AllReadyH.nil
        go_simp
        refine hK.out _ _ hHeld (fun hHeld2 => ?_)
        clear hK K hHeld
        have hHeld := hHeld2
        clear hHeld2
        refine wpAnyH_ready (rs := [17]) (by kernel_rfl) (by simp) ?_
        refine AllReadyH.cons (o := _) rfl (fun K hK => ?_) AllReadyH.nil
        go_simp
        refine hK.out _ _ hHeld (fun hHeld2 => ?_)
        clear hK K hHeld
        have hHeld := hHeld2
        clear hHeld2
        refine wpAnyH_done (by kernel_rfl) ?_ _
        go_wp2
        go_ret2
        exact ⟨_, by rw [formed_3, HbE.out, HbB.out, HbV.out, ← HbX.out]; rfl, by rw [show numRec _ = _ from num_3 _ _ _ _ _ _]; exact own3.less (kB.trans k1).size, (kB.trans k1).trans hk3⟩
      · go_simp
        refine (nEntry_any _ (⟨n0, n1, n2, n3, n4, n5⟩ : Entry) _ (vN.kp (k1.trans hHeld.2.2.2)) hlpN).mono ?_
        rintro e w2 ⟨v2, rfl, own2, h2⟩
        obtain ⟨D2, z2, rfl, zz2, zf2⟩ := own2.form
        have hk2 := hHeld.2.2.2.trans h2
        refine hK.out _ _ (hS _ hk2) (fun hHeld2 => ?_)
        clear hK K hHeld
        have hHeld := hHeld2
        clear hHeld2
        refine wpAnyH_ready (rs := [4]) (by kernel_rfl) (by simp) ?_
        refine AllReadyH.cons (o := _) rfl (fun K hK => ?_) AllReadyH.nil
        go_simp
        have own1 := (litOwn (w := w2) (base := wc.heap.size) [3, i] #[.int .i64 3, .int .i64 i] rfl (by simp) 2 rfl hk2.size)
        have s2 := (own2.sl encInt_len).keep (pl_stable _) ((Kp.refl w2).alloc (.cells #[.int .i64 3, .int .i64 i] 3))
        replace hk2 := hk2.alloc (.cells #[.int .i64 3, .int .i64 i] 3)
        refine hK.out _ _ (hS _ hk2) (fun hHeld2 => ?_)
        clear hK K hHeld
        have hHeld := hHeld2
        clear hHeld2
        refine wpAnyH_ready (rs := [8]) (by kernel_rfl) (by simp) ?_
        refine AllReadyH.cons (o := _) rfl (fun K hK => ?_) AllReadyH.nil
        refine step_append_flat rfl (.tmp 105) (.tmp 108) rfl stInt' encInt_len encInt_one rfl own1 rfl s2 (by have := HLN.out; simp; omega) (by have := HLN.out; simp; omega) hk2.size ?_
        intro v3 w3 own3 hg3
        have hk3 : Kp wc w3 := Kp.grown hk2 hg3 own1.ge
        refine hK.out _ _ (hS _ hk3) (fun hHeld2 => ?_)
        clear hK K hHeld
        have hHeld := hHeld2
        clear hHeld2
        clear own1 own2 h2 hk2 s2 hg3
        refine take_at 10 111 (v := ?_) rfl rfl (by kernel_rfl) (by kernel_rfl) (by kernel_rfl) (fun _ _ _ h => h) hHeld (Or.inl ⟨by kernel_rfl, ?_⟩) ?_
        rotate_left
        · intro w hSw; (try dsimp only at hSw); go_simp; try with_reducible rfl
        simp only [Act.put, List.setIfInBounds_toArray, List.set_cons_zero, List.set_cons_succ]
        refine take_at 11 112 (v := cond bE (.bool bB) undef) rfl rfl (by kernel_rfl) (by kernel_rfl) (by kernel_rfl) (fun _ _ _ h => h) hHeld ?_ ?_
        · cases bE
          · exact Or.inr ⟨by kernel_rfl, by kernel_rfl⟩
          · refine Or.inl ⟨by kernel_rfl, ?_⟩
            intro w hSw; (try dsimp only at hSw); go_simp; try rfl
        simp only [Act.put, List.setIfInBounds_toArray, List.set_cons_zero, List.set_cons_succ]
        refine take_at 12 113 (v := .bool (bE && bB)) rfl rfl (by kernel_rfl) (by kernel_rfl) (by kernel_rfl) (fun _ _ _ h => h) hHeld ?_ ?_
        · cases bE
          all_goals
            refine Or.inl ⟨by kernel_rfl, ?_⟩
            intro w hSw; (try dsimp only at hSw); go_simp; try rfl
        simp only [Act.put, List.setIfInBounds_toArray, List.set_cons_zero, List.set_cons_succ]
        generalize HbX : (bE && bB) = bX at *
        replace HbX := hid HbX
        refine take_at 13 114 (v := ?_) rfl rfl (by kernel_rfl) (by kernel_rfl) (by kernel_rfl) (fun _ _ _ h => h) hHeld (Or.inl ⟨by kernel_rfl, ?_⟩) ?_
        rotate_left
        · intro w hSw; (try dsimp only at hSw); go_simp; try with_reducible rfl
        simp only [Act.put, List.setIfInBounds_toArray, List.set_cons_zero, List.set_cons_succ]
        refine take_at 14 115 (v := cond bX (.bool bV) undef) rfl rfl (by kernel_rfl) (by kernel_rfl) (by kernel_rfl) (fun _ _ _ h => h) hHeld ?_ ?_
        · cases bX
          · exact Or.inr ⟨by kernel_rfl, by kernel_rfl⟩
          · refine Or.inl ⟨by kernel_rfl, ?_⟩
            intro w hSw; (try dsimp only at hSw); go_simp; try rfl
        simp only [Act.put, List.setIfInBounds_toArray, List.set_cons_zero, List.set_cons_succ]
        refine take_at 15 116 (v := .bool (bX && bV)) rfl rfl (by kernel_rfl) (by kernel_rfl) (by kernel_rfl) (fun _ _ _ h => h) hHeld ?_ ?_
        · cases bX
          all_goals
            refine Or.inl ⟨by kernel_rfl, ?_⟩
            intro w hSw; (try dsimp only at hSw); go_simp; try rfl
        simp only [Act.put, List.setIfInBounds_toArray, List.set_cons_zero, List.set_cons_succ]
        refine wpAnyH_ready (rs := [16]) (by kernel_rfl) (by simp) ?_
        refine AllReadyH.cons (o := _) rfl (fun K hK => ?_) AllReadyH.nil
        go_simp
        refine hK.out _ _ hHeld (fun hHeld2 => ?_)
        clear hK K hHeld
        have hHeld := hHeld2
        clear hHeld2
        refine wpAnyH_ready (rs := [17]) (by kernel_rfl) (by simp) ?_
        refine AllReadyH.cons (o := _) rfl (fun K hK => ?_) AllReadyH.nil
        go_simp
        refine hK.out _ _ hHeld (fun hHeld2 => ?_)
        clear hK K hHeld
        have hHeld := hHeld2
        clear hHeld2
        refine wpAnyH_done (by kernel_rfl) ?_ _
        go_wp2
        go_ret2
        exact ⟨_, by rw [formed_3, HbE.out, HbB.out, HbV.out, ← HbX.out]; rfl, by rw [show numRec _ = _ from num_3 _ _ _ _ _ _]; exact own3.less (kB.trans k1).size, (kB.trans k1).trans hk3⟩
    have a3 : decide (k = 3) = false := decide_eq_false hk3
    have a3' : (k == 3) = false := by simpa using hk3
    by_cases hk4 : k = 4
    · subst hk4
      have own3 := litOwn (w := wc) (base := wc.heap.size) [4, i] #[.int .i64 4, .int .i64 i] rfl (by simp) 2 rfl (Nat.le_refl _)
      have hk3 := (Kp.refl wc).alloc (.cells #[.int .i64 4, .int .i64 i] 3)
      cases bE <;> cases bB <;> cases bN
      all_goals
        go_wp2
        go_ret2
        exact ⟨_, by rw [formed_4, HbE.out, HbB.out, HbN.out, HbV.out]; rfl, by rw [show numRec _ = _ from num_4 _ _ _ _ _ _]; exact own3.less (kB.trans k1).size, (kB.trans k1).trans hk3⟩
    have a4 : decide (k = 4) = false := decide_eq_false hk4
    have a4' : (k == 4) = false := by simpa using hk4
    have hko : ¬ (0 ≤ k ∧ k ≤ 4) := by omega
    have HKO := hid hko
    clear hko
    go_wp2
    go_ret2
    exact ⟨_, by rw [formed_o _ _ _ _ _ _ _ HKO.out]; rfl, by rw [show numRec _ = _ from num_o _ _ _ _ _ _ _ HKO.out]; exact Own.nil _ _ _ _ _, kB.trans k1⟩
end Go.Proofs.Ytmeafoakbkjifaa
