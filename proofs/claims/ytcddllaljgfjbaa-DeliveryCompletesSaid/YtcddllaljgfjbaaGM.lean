/-
Further words for the walks: making a slice of plain elements. Nothing here speaks of the program.
Lists under way whose elements lead to further memory of the call's own: what is stored where, and what may change without harm. Nothing here speaks of the program.
Blocks of the call's own whose cells are known; regions that draw their order, taken by hand. Nothing here speaks of the program.
Regions that draw their order: each operation is looked at once (as Grow2 and Grow3, for seats that have the codec's texts). Nothing here speaks of the program.
Regions that draw their order: each operation is looked at once, the list of the operations taken apart from its head on (a long region costs no search for its operations). Nothing here speaks of the program.
-/
import Derived.Test.YtcddllaljgfjbaaLib
import Derived.Deep.MidRow
import Derived.Deep.RegionHeld3
namespace Go.Proofs.Ytcddllaljgfjbaa
set_option linter.unusedSimpArgs false
set_option linter.unusedVariables false
open Go.RowKit

theorem madeCells_flat {α : Type} (enc : α → List Value) (z0 : α) (z : Array Value) (size : Nat) (hz : z.toList = enc z0) (hs : z.size = size) (hp : 0 < size) (n : Nat) : (madeCells z (n * size)).toList = flat enc (List.replicate n z0) := by
  apply List.ext_getElem?
  intro j
  by_cases hj : j < n * size
  · have hk : j / size < (List.replicate n z0).length := by rw [List.length_replicate]; exact (Nat.div_lt_iff_lt_mul hp).2 hj
    have hm : j % size < size := Nat.mod_lt _ hp
    have hl : ∀ x ∈ List.replicate n z0, (enc x).length = size := fun x hx => by
      rw [List.eq_of_mem_replicate hx, ← hz, Array.length_toList, hs]
    have key : ∀ (l : List α), (∀ x ∈ l, (enc x).length = size) → ∀ (k : Nat) (hk : k < l.length) (i : Nat), i < size → (flat enc l)[k * size + i]? = (enc l[k])[i]? := by
      intro l
      induction l with
      | nil => intro _ k hk; exact absurd hk (by simp)
      | cons x l ih =>
        intro h k hk i hi
        have hx := h x (by simp)
        cases k with
        | zero =>
          rw [flat_cons, Nat.zero_mul, Nat.zero_add, List.getElem?_append_left (by rw [hx]; exact hi)]
          rfl
        | succ k =>
          have h2 : (k + 1) * size + i = (enc x).length + (k * size + i) := by rw [hx, Nat.add_mul, Nat.one_mul]; omega
          rw [flat_cons, h2, List.getElem?_append_right (by omega), Nat.add_sub_cancel_left, ih (fun y hy => h y (by simp [hy])) k (by simpa using hk) i hi]
          rfl
    have h1 := key _ hl (j / size) hk (j % size) hm
    have hdm : j / size * size + j % size = j := by rw [Nat.mul_comm]; exact Nat.div_add_mod j size
    rw [hdm] at h1
    rw [h1, List.getElem_replicate, ← hz]
    subst hs
    simp only [madeCells, Array.toList_map, Array.toList_range, List.getElem?_map, List.getElem?_range hj, Option.map_some, Array.getElem?_toList]
    rw [Array.getElem?_eq_getElem hm, getElem!_pos z _ hm]
  · rw [List.getElem?_eq_none (by simp [madeCells]; omega), List.getElem?_eq_none]
    have : (flat enc (List.replicate n z0)).length = n * size := by
      induction n with
      | zero => simp [flat]
      | succ n ih =>
        rw [List.replicate_succ, flat_cons, List.length_append, ← hz, Array.length_toList, hs]
        by_cases h0 : j < n * size
        · exact absurd (Nat.lt_of_lt_of_le h0 (Nat.mul_le_mul_right _ (Nat.le_succ n))) hj
        · rw [ih h0, Nat.add_mul, Nat.one_mul, Nat.add_comm]
    omega
section
variable {P : Program} {α : Type} {enc : α → List Value} {e size bytes base t : Nat} {w : World}
theorem run_make_flat (hT : SliceT P t e size bytes) (z0 : α) (hz0 : ∀ i z, P.info? e = some i → i.zero = some z → z.cells.toList = enc z0) (n : Nat) (hn : n ≤ 4611686018427387904) (hby : bytes * n ≤ 140737488355328) (hbase : base ≤ w.heap.size) :
    ∃ w', (Instr.makeSlice t (.int .i64 (n : Int)) (.int .i64 (n : Int))).run P w = .ok (.slice (some ⟨w.heap.size, 0, none⟩) n n) w' ∧ Own enc e size base w' (.slice (some ⟨w.heap.size, 0, none⟩) n n) (List.replicate n z0) ∧ Kp w w' ∧ w'.heap.size = w.heap.size + 1 := by
  obtain ⟨i, z, hi, hz, hs, hb, hzs⟩ := hT.info
  have h63 : (n : Int) ≤ 9223372036854775807 := by omega
  have hbb : (i.bytes : Int) * (n : Int) ≤ 281474976710656 := by
    rw [hb]
    have : ((bytes * n : Nat) : Int) ≤ 281474976710656 := by omega
    rwa [Int.natCast_mul] at this
  have hr := run_make (P := P) w t e i z hT.ht hi hz .i64 .i64 (n : Int) (n : Int) (by omega) (Int.le_refl _) hbb h63
  simp only [Int.toNat_natCast] at hr
  refine ⟨_, hr, ?_, (Kp.refl w).alloc _, by simp⟩
  have hfl := madeCells_flat enc z0 z.cells size (hz0 i z hi hz) hzs hT.pos n
  unfold Own
  rw [List.length_replicate, ← hfl, hs]
  exact World.ownsRow_lit w _ n hbase (by unfold maxLen; omega) (size_madeCells _ _)
/-- .. at the operation -/
theorem wpl_make_flat {ops : Array Oper} {rest : List Oper} {o : Oper} {a : Act} {Q : Exit → Act → World → Prop} (hgd : o.guard = none) (x y : Operand) (ho : o.op = .makeSlice t x y) (hT : SliceT P t e size bytes)
    (z0 : α) (hz0 : ∀ i z, P.info? e = some i → i.zero = some z → z.cells.toList = enc z0) (n : Nat) (hx : a.eval x = .int .i64 (n : Int)) (hy : a.eval y = .int .i64 (n : Int)) (hn : n ≤ 4611686018427387904) (hby : bytes * n ≤ 140737488355328) (hbase : base ≤ w.heap.size)
    (h : ∀ w', Own enc e size base w' (.slice (some ⟨w.heap.size, 0, none⟩) n n) (List.replicate n z0) → Kp w w' → w'.heap.size = w.heap.size + 1 → wpList P ops Q rest (a.put o.dst (.slice (some ⟨w.heap.size, 0, none⟩) n n)) w') : wpList P ops Q (o :: rest) a w := by
  refine wpList_plain hgd fun K hK => ?_
  obtain ⟨w', hr, h1, h2, h3⟩ := run_make_flat (enc := enc) (base := base) (w := w) hT z0 hz0 n hn hby hbase
  unfold Oper.wp execOp
  simp only [ho, hx, hy, Sem.run_bind, hr, Sem.run_pure, Result.andThen_ok]
  exact hK _ _ (h w' h1 h2 h3)
end
theorem litI {w : World} (t : TypeId) (l : List Int) (cs : Array Value) (h : cs.toList = flat encInt l) (hl : l.length ≤ 1000) (n : Nat) (hn : n = l.length) : Ints (w.alloc (.cells cs t)) (.slice (some ⟨w.heap.size, 0, none⟩) n n) l := by
  subst hn
  have h1 := Own.lit encInt (e := t) (size := 1) w cs l (Nat.le_refl _) (by omega) (by have h2 := congrArg List.length h; rw [flat_length encInt_len] at h2; simpa using h2) h
  exact h1.sl encInt_len
theorem zero_of {P : Program} {e : Nat} {u : Value} {l : List Value} (h : (P.info? e).map (fun i => i.zero) = some (some u)) (hu : u.cells.toList = l) : ∀ i z, P.info? e = some i → i.zero = some z → z.cells.toList = l := fun i z hi hz => by
  rw [hi] at h
  simp only [Option.map_some, Option.some.injEq] at h
  rw [hz] at h
  injection h with h
  rw [h]
  exact hu
end Go.Proofs.Ytcddllaljgfjbaa
namespace Go.Proofs.Ytcddllaljgfjbaa
set_option linter.unusedSimpArgs false
set_option linter.unusedVariables false
open Go.RowKit

/-- the cells of an element -/
abbrev Elm (size : Nat) : Type := { cs : List Value // cs.length = size ∧ ∀ u ∈ cs, u.oneCell' = true }
def encC {size : Nat} (c : Elm size) : List Value := c.val
theorem encC_len {size : Nat} (c : Elm size) : (encC c).length = size := c.property.1
theorem encC_one {size : Nat} (c : Elm size) : ∀ u ∈ encC c, u.oneCell' = true := c.property.2
section
variable {α : Type} {size : Nat} {R : Rd α} {w : World} {css : List (Elm size)} {xs : List α}
theorem sl_of {v : Value} (h : Sl (Pl encC) size w v css) (hl : css.length = xs.length) (hr : ∀ k (h1 : k < css.length) (h2 : k < xs.length), R w css[k].val xs[k]) : Sl R size w v xs := by
  obtain ⟨A, c, rfl, h1, h2, h3⟩ := h
  refine ⟨A, c, by rw [hl], by omega, h2, fun k hk => ?_⟩
  obtain ⟨b, o, cs, hA, hb, hcs, hc, hp⟩ := h3 k (by omega)
  unfold Pl encC at hp
  subst hp
  exact ⟨b, o, _, hA, hb, hcs, hc, hr k (by omega) hk⟩
end
theorem fold_fill_go : ∀ (cs : List Value) (Z : Array Value) (k : Nat), k + cs.length = Z.size → (cs.zipIdx k).foldl (fun (a : Array Value) (x : Value × Nat) => a.setIfInBounds x.snd x.fst) Z = (Z.toList.take k ++ cs).toArray
  | [], Z, k, h => by
    simp only [List.zipIdx_nil, List.foldl_nil, List.append_nil]
    rw [List.take_of_length_le (by simpa using Nat.le_of_eq h.symm)]
  | c :: cs, Z, k, h => by
    rw [List.length_cons] at h
    rw [List.zipIdx_cons, List.foldl_cons, fold_fill_go cs _ (k + 1) (by simp; omega)]
    congr 1
    have hk : k < Z.toList.length := by simp; omega
    have e : (Z.setIfInBounds k c).toList = Z.toList.set k c := by simp
    rw [e, List.take_succ_eq_append_getElem (by rw [List.length_set]; exact hk), List.take_set_of_le (Nat.le_refl _), List.getElem_set_self]
    simp
theorem fold_fill (Z : Array Value) (cs : List Value) (h : cs.length = Z.size) : cs.zipIdx.foldl (fun (a : Array Value) (x : Value × Nat) => a.setIfInBounds x.snd x.fst) Z = cs.toArray := by
  rw [fold_fill_go cs Z 0 (by omega)]
  simp

/-! what a set of blocks tells -/
/-- R holds in every later world in which the blocks of S are as they were -/
def OwS (S : Nat → Prop) (w : World) (R : World → Prop) : Prop := ∀ w' : World, w.heap.size ≤ w'.heap.size → (∀ k, S k → k < w.heap.size → w'.heap[k]? = w.heap[k]?) → R w'
section
variable {S T : Nat → Prop} {w w' : World} {R Q : World → Prop} {g : Nat}
theorem OwS.here (h : OwS S w R) : R w := h w (Nat.le_refl _) fun _ _ _ => rfl
theorem OwS.step (h : OwS S w R) (h1 : w.heap.size ≤ w'.heap.size) (h2 : ∀ k, S k → k < w.heap.size → w'.heap[k]? = w.heap[k]?) : OwS S w' R :=
  fun w2 h3 h4 => h w2 (Nat.le_trans h1 h3) fun k hk hlt => (h4 k hk (Nat.lt_of_lt_of_le hlt h1)).trans (h2 k hk hlt)
theorem OwS.mono (h : OwS S w R) (hs : ∀ k, S k → T k) : OwS T w R := fun w' h1 h2 => h w' h1 fun k hk hlt => h2 k (hs k hk) hlt
theorem OwS.imp (h : OwS S w R) (hi : ∀ w', R w' → Q w') : OwS S w Q := fun w' h1 h2 => hi w' (h w' h1 h2)
theorem OwS.and (h : OwS S w R) (h' : OwS S w Q) : OwS S w fun w' => R w' ∧ Q w' := fun w' h1 h2 => ⟨h w' h1 h2, h' w' h1 h2⟩
theorem OwS.kp (h : OwS S w R) (hk : Kp w w') : OwS S w' R := h.step hk.size fun _ _ hlt => hk.block hlt
theorem OwS.kg (h : OwS S w R) (hk : Kg w w' g) (hg : ¬ S g) : OwS S w' R := h.step hk.size fun k hs hlt => hk.block k hlt (fun e => hg (by injection e with e; exact e ▸ hs))
theorem OwS.pure {p : Prop} (h : p) : OwS S w fun _ => p := fun _ _ _ => h
end
theorem Own.owS {α : Type} {enc : α → List Value} {e size base : Nat} {w : World} {v : Value} {l : List α} (h : Own enc e size base w v l) : OwS (fun q => v.ownBlock = some q) w fun w' => Own enc e size base w' v l := by
  intro w' h1 h2
  unfold Own World.ownsRow at *
  refine ⟨h.1, ?_⟩
  rcases h.2 with hn | ⟨g, cap, cur, rfl, hb, hg, rest⟩
  · exact .inl hn
  · have hlt := (Array.getElem?_eq_some_iff.1 hg).1
    exact .inr ⟨g, cap, cur, rfl, hb, (h2 g (by simp [Value.ownBlock]) hlt).trans hg, rest⟩
theorem Own.kg {α : Type} {enc : α → List Value} {e size base g : Nat} {w w' : World} {v : Value} {l : List α} (h : Own enc e size base w v l) (hk : Kg w w' g) (hg : g < base) : Own enc e size base w' v l := by
  refine World.ownsRow.kept h hk ?_
  cases hv : v.ownBlock with
  | none => exact .inl rfl
  | some k =>
    refine .inr ?_
    have := h.ge k hv
    intro e1
    injection e1
    omega
theorem Own.blk_lt {α : Type} {enc : α → List Value} {e size base : Nat} {w : World} {v : Value} {l : List α} (h : Own enc e size base w v l) : ∀ q, v.ownBlock = some q → q < w.heap.size := fun q hq => (World.ownsRow.lt h q hq).2
/-- a row of the call's own whose elements lead to blocks of S, others than the row's -/
structure NL {α : Type} (R : Rd α) (e size : Nat) (S : Nat → Prop) (w : World) (v : Value) (css : List (Elm size)) (xs : List α) : Prop where
  own : Own encC e size 0 w v css
  len : css.length = xs.length
  blk : ∀ q, v.ownBlock = some q → S q
  els : ∀ k (h1 : k < css.length) (h2 : k < xs.length), ∃ T : Nat → Prop, (∀ i, T i → S i ∧ v.ownBlock ≠ some i ∧ i < w.heap.size) ∧ OwS T w fun w' => R w' css[k].val xs[k]
section
variable {α : Type} {R : Rd α} {e size : Nat} {S S' : Nat → Prop} {w w' : World} {v v' : Value} {css : List (Elm size)} {xs : List α}
theorem NL.nil (R : Rd α) (e size : Nat) (S : Nat → Prop) (w : World) : NL R e size S w (.slice none 0 0) [] [] :=
  ⟨Own.nil _ _ _ _ _, rfl, fun q hq => by simp [Value.ownBlock] at hq, fun k h1 _ => absurd h1 (by simp)⟩
theorem NL.step (h : NL R e size S w v css xs) (h1 : w.heap.size ≤ w'.heap.size) (h2 : ∀ k, S k → k < w.heap.size → w'.heap[k]? = w.heap[k]?) : NL R e size S w' v css xs := by
  refine ⟨h.own.owS w' h1 fun k hk hlt => h2 k (h.blk k hk) hlt, h.len, h.blk, fun k hk1 hk2 => ?_⟩
  obtain ⟨T, hT, ho⟩ := h.els k hk1 hk2
  exact ⟨T, fun i hi => ⟨(hT i hi).1, (hT i hi).2.1, Nat.lt_of_lt_of_le (hT i hi).2.2 h1⟩, ho.step h1 fun i hi hlt => h2 i (hT i hi).1 hlt⟩
theorem NL.kp (h : NL R e size S w v css xs) (hk : Kp w w') : NL R e size S w' v css xs := h.step hk.size fun _ _ hlt => hk.block hlt
theorem NL.kg {g : Nat} (h : NL R e size S w v css xs) (hk : Kg w w' g) (hg : ¬ S g) : NL R e size S w' v css xs :=
  h.step hk.size fun k hs hlt => hk.block k hlt (fun e => hg (by injection e with e; exact e ▸ hs))
theorem NL.mono (h : NL R e size S w v css xs) (hs : ∀ k, S k → S' k) : NL R e size S' w v css xs :=
  ⟨h.own, h.len, fun q hq => hs q (h.blk q hq), fun k h1 h2 => by
    obtain ⟨T, hT, ho⟩ := h.els k h1 h2
    exact ⟨T, fun i hi => ⟨hs i (hT i hi).1, (hT i hi).2⟩, ho⟩⟩
theorem NL.sl (h : NL R e size S w v css xs) : Sl R size w v xs := sl_of (h.own.sl encC_len) h.len fun k h1 h2 => by
  obtain ⟨T, hT, ho⟩ := h.els k h1 h2
  exact ho.here
theorem NL.owS (h : NL R e size S w v css xs) : OwS S w fun w' => NL R e size S w' v css xs := fun _ h1 h2 => h.step h1 h2
theorem NL.form (h : NL R e size S w v css xs) : ∃ A c, v = .slice A xs.length c ∧ xs.length ≤ c ∧ c ≤ 9223372036854775807 := h.sl.form
/-- an append: w is the world in which it runs -/
theorem NL.snoc (h : NL R e size S w v css xs) {c : Elm size} {x : α} (own' : Own encC e size 0 w' v' (css ++ [c])) (hg : w.grownBy w' v.ownBlock) (hat : v'.ownBlock = v.ownBlock ∨ v'.ownBlock = some w.heap.size) (T : Nat → Prop)
    (hT : ∀ i, T i → S' i ∧ v.ownBlock ≠ some i ∧ i < w.heap.size) (ho : OwS T w fun w2 => R w2 c.val x) (hS : ∀ i, S i → S' i) (hn : S' w.heap.size) : NL R e size S' w' v' (css ++ [c]) (xs ++ [x]) := by
  have hlen := h.len
  have hgb : ∀ i, v.ownBlock ≠ some i → i < w.heap.size → w'.heap[i]? = w.heap[i]? := fun i hi hlt => hg.block i hlt (fun e => hi e.symm)
  have hne : ∀ i, v.ownBlock ≠ some i → i < w.heap.size → v'.ownBlock ≠ some i := fun i hi hlt e => by
    rcases hat with h1 | h1
    · exact hi (h1 ▸ e)
    · rw [h1] at e
      injection e with e
      omega
  refine ⟨own', by simp [h.len], fun q hq => ?_, fun k h1 h2 => ?_⟩
  · rcases hat with h1 | h1
    · exact hS q (h.blk q (h1 ▸ hq))
    · rw [h1] at hq
      injection hq with hq
      exact hq ▸ hn
  · by_cases hk : k < css.length
    · rw [List.getElem_append_left hk, List.getElem_append_left (by omega)]
      obtain ⟨T', hT', ho'⟩ := h.els k hk (by omega)
      exact ⟨T', fun i hi => ⟨hS i (hT' i hi).1, hne i (hT' i hi).2.1 (hT' i hi).2.2, Nat.lt_of_lt_of_le (hT' i hi).2.2 hg.size⟩, ho'.step hg.size fun i hi hlt => hgb i (hT' i hi).2.1 hlt⟩
    · have e1 : k = css.length := by simp at h1; omega
      subst e1
      have e2 : (css ++ [c])[css.length] = c := by simp
      have e3 : (xs ++ [x])[css.length]'h2 = x := by simp [hlen]
      rw [e2, e3]
      exact ⟨T, fun i hi => ⟨(hT i hi).1, hne i (hT i hi).2.1 (hT i hi).2.2, Nat.lt_of_lt_of_le (hT i hi).2.2 hg.size⟩, ho.step hg.size fun i hi hlt => hgb i (hT i hi).2.1 hlt⟩
/-- a store of an element: only the row's block has changed -/
theorem NL.put {g k : Nat} {c : Elm size} {x : α} (h : NL R e size S w v css xs) (hv : v.ownBlock = some g) (own' : Own encC e size 0 w' v (css.set k c)) (hk : Kg w w' g) (T : Nat → Prop) (hT : ∀ i, T i → S i ∧ v.ownBlock ≠ some i ∧ i < w'.heap.size)
    (ho : OwS T w' fun w2 => R w2 c.val x) : NL R e size S w' v (css.set k c) (xs.set k x) := by
  refine ⟨own', by simp [h.len], h.blk, fun j h1 h2 => ?_⟩
  rw [List.getElem_set, List.getElem_set]
  by_cases hj : k = j
  · rw [if_pos hj, if_pos hj]
    exact ⟨T, hT, ho⟩
  · rw [if_neg hj, if_neg hj]
    obtain ⟨T', hT', ho'⟩ := h.els j (by simpa using h1) (by simpa using h2)
    refine ⟨T', fun i hi => ⟨(hT' i hi).1, (hT' i hi).2.1, Nat.lt_of_lt_of_le (hT' i hi).2.2 hk.size⟩, ho'.step hk.size fun i hi hlt => hk.block i hlt fun e => ?_⟩
    exact (hT' i hi).2.1 (hv.trans e.symm)
end
/-- one cell of an element's cells -/
def Elm.set {size : Nat} (c : Elm size) (j : Nat) (u : Value) (hu : u.oneCell' = true) : Elm size :=
  ⟨c.val.set j u, by rw [List.length_set]; exact c.property.1, fun y hy => by
    rcases List.mem_or_eq_of_mem_set hy with hy | rfl
    · exact c.property.2 y hy
    · exact hu⟩
theorem Own.setE {e size base g n c k j : Nat} {w : World} {u : Value} {css : List (Elm size)} (h : Own encC e size base w (.slice (some ⟨g, 0, none⟩) n c) css) (hn : n = css.length) (hk : k < css.length) (hj : j < size) (hu : u.oneCell' = true) :
    Own encC e size base (w.setCell ⟨g, k * size + j, none⟩ u) (.slice (some ⟨g, 0, none⟩) n c) (css.set k (css[k].set j u hu)) := by
  subst hn
  exact Own.set (x := css[k].set j u hu) encC_len h hk hj (fun _ => rfl)
/-- what an element's cell holds -/
theorem NL.cells {α : Type} {R : Rd α} {e size : Nat} {S : Nat → Prop} {w : World} {A : Option Addr} {n c : Nat} {css : List (Elm size)} {xs : List α} (h : NL R e size S w (.slice A n c) css xs) {k : Nat} (hk : k < xs.length) :
    ∃ g, A = some ⟨g, 0, none⟩ ∧ S g ∧ g < w.heap.size ∧ (∀ (h1 : k < css.length) j u, css[k].val[j]? = some u → w.cell? ⟨g, k * size + j, none⟩ = some u) ∧ (∀ i, w.frozen? ⟨g, i, none⟩ = false) := by
  have hl := h.len
  obtain ⟨A', c', he, hc1, hc2⟩ := h.own.form
  injection he with e1 e2 e3
  subst e1 e2 e3
  obtain ⟨g, rfl, -, hg⟩ := h.own.at_ (by omega)
  refine ⟨g, rfl, h.blk g rfl, hg, fun h1 j u hu => ?_, fun i => h.own.frozen rfl i⟩
  have hj : j < size := by rw [← css[k].property.1]; exact (List.getElem?_eq_some_iff.1 hu).1
  have h2 := h.own.cellAt encC_len rfl h1 hj
  exact h2.trans hu
/-- the cells of a list's elements -/
theorem sl_raw {α : Type} {R : Rd α} {size : Nat} {w : World} {v : Value} {l : List α} (h : Sl R size w v l) (hone : ∀ cs x, R w cs x → ∀ u ∈ cs, u.oneCell' = true) :
    ∃ css : List (Elm size), Sl (Pl encC) size w v css ∧ css.length = l.length ∧ ∀ k (h1 : k < css.length) (h2 : k < l.length), R w css[k].val l[k] := by
  obtain ⟨A, c, rfl, h1, h2, h3⟩ := h
  rcases Nat.eq_zero_or_pos l.length with h0 | hpos
  · exact ⟨[], ⟨A, c, by rw [h0]; rfl, Nat.zero_le _, h2, fun k hk => absurd hk (by simp)⟩, by rw [h0]; rfl, fun k hk => absurd hk (by simp)⟩
  · obtain ⟨b0, o0, cs0, hA, hb, hcs0, hc0, hr0⟩ := h3 0 hpos
    have h4 : ∀ k, ∃ x : Elm size, ∀ hk : k < l.length, (∀ j u, x.val[j]? = some u → w.cell? ⟨b0, o0 + k * size + j, none⟩ = some u) ∧ R w x.val l[k] := by
      intro k
      by_cases hk : k < l.length
      · obtain ⟨b, o, cs, hA', hb', hcs, hc, hr⟩ := h3 k hk
        rw [hA] at hA'
        injection hA' with hA'
        injection hA' with e1 e2 _
        subst e1 e2
        exact ⟨⟨cs, hcs, hone cs _ hr⟩, fun _ => ⟨hc, hr⟩⟩
      · exact ⟨⟨cs0, hcs0, hone cs0 _ hr0⟩, fun h => absurd h hk⟩
    refine ⟨(List.range l.length).map fun k => Classical.choose (h4 k), ⟨A, c, by simp, by simpa using h1, h2, fun k hk => ?_⟩, by simp, fun k hk1 hk2 => ?_⟩
    · have hk' : k < l.length := by simpa using hk
      obtain ⟨hc, hr⟩ := Classical.choose_spec (h4 k) hk'
      refine ⟨b0, o0, (Classical.choose (h4 k)).val, hA, hb, (Classical.choose (h4 k)).property.1, hc, ?_⟩
      unfold Pl encC
      rw [List.getElem_map, List.getElem_range]
    · have := (Classical.choose_spec (h4 k) hk2).2
      simpa using this
end Go.Proofs.Ytcddllaljgfjbaa
namespace Go.Proofs.Ytcddllaljgfjbaa
set_option linter.unusedSimpArgs false
set_option linter.unusedVariables false
open Go.RowKit

theorem set_block (w : World) (p : Addr) (u : Value) (k : Nat) (h : k ≠ p.block) : (w.setCell p u).heap[k]? = w.heap[k]? := Below.heap_setCell w p u k h
theorem set_size (w : World) (p : Addr) (u : Value) : (w.setCell p u).heap.size = w.heap.size := by simp [World.setCell]
theorem Kp.setCells {a : World} {b : Nat} (hb : a.heap.size ≤ b) : ∀ (vs : List Value) (o : Nat) (w : World), Kp a w → Kp a (w.setCells b o vs)
  | [], _, _, h => h
  | v :: r, o, w, h => by
    rw [World.setCells]
    exact Kp.setCells hb r (o + 1) _ (h.set hb v)
theorem there_new (w : World) (Z : Array Value) (t : TypeId) (n : Nat) (h : Z.size = n) : (w.alloc (.cells Z t)).there w.heap.size 0 n := fun j hj => by
  subst h
  rw [Nat.zero_add]
  exact ⟨by rw [alloc_cell w Z t j (Array.getElem?_eq_getElem hj)]; rfl, alloc_frozen w Z t j⟩
theorem range_box (w : World) (cs : List Value) (t : TypeId) : (w.alloc (.cells cs.toArray t)).rangeAt w.heap.size 0 cs := fun j v hv => by rw [Nat.zero_add]; exact alloc_cell w _ t j (by simpa using hv)
/-- a block whose first cells are these, and may be written -/
structure Bx (w : World) (b : Nat) (cs : List Value) : Prop where
  range : w.rangeAt b 0 cs
  there : w.there b 0 cs.length
theorem Bx.lt {w : World} {b : Nat} {cs : List Value} (h : Bx w b cs) (hc : 0 < cs.length) : b < w.heap.size := by
  have := h.range 0 cs[0] (by simp)
  exact block_lt_of_cell this
theorem Bx.cell {w : World} {b : Nat} {cs : List Value} (h : Bx w b cs) {j : Nat} {u : Value} (hj : cs[j]? = some u) : w.cell? ⟨b, j, none⟩ = some u := by
  have := h.range j u hj
  rwa [Nat.zero_add] at this
theorem Bx.free {w : World} {b : Nat} {cs : List Value} (h : Bx w b cs) {j : Nat} (hj : j < cs.length) : w.frozen? ⟨b, j, none⟩ = false := by
  have := (h.there j hj).2
  rwa [Nat.zero_add] at this
theorem Bx.keep {w w' : World} {b : Nat} {cs : List Value} (h : Bx w b cs) (hb : w'.heap[b]? = w.heap[b]?) : Bx w' b cs :=
  ⟨fun j u hu => (World.cell?_of_block hb).trans (h.range j u hu), fun j hj => ⟨by rw [World.cell?_of_block hb]; exact (h.there j hj).1, by rw [World.frozen?_of_block hb]; exact (h.there j hj).2⟩⟩
theorem Bx.new (w : World) (Z : Array Value) (t : TypeId) : Bx (w.alloc (.cells Z t)) w.heap.size Z.toList :=
  ⟨fun j u hu => by rw [Nat.zero_add]; exact alloc_cell w Z t j (by simpa using hu), there_new w Z t _ (by simp)⟩
theorem Bx.set {w : World} {b : Nat} {cs : List Value} (h : Bx w b cs) {j : Nat} (hj : j < cs.length) (u : Value) : Bx (w.setCell ⟨b, j, none⟩ u) b (cs.set j u) := by
  refine ⟨fun i v hv => ?_, fun i hi => ?_⟩
  · rw [Nat.zero_add]
    by_cases hij : i = j
    · subst hij
      rw [List.getElem?_set_self hj] at hv
      rw [World.cell?_setCell_same _ _ _ (h.cell (List.getElem?_eq_getElem hj)), hv]
    · rw [List.getElem?_set_ne (fun e => hij e.symm)] at hv
      rw [World.cell?_setCell_other _ _ _ _ (by intro e; injection e with e1 e2; exact hij e2.symm)]
      exact h.cell hv
  · rw [List.length_set] at hi
    rw [Nat.zero_add]
    refine ⟨?_, by rw [World.frozen?_setCell]; exact h.free hi⟩
    by_cases hij : i = j
    · subst hij
      rw [World.cell?_setCell_same _ _ _ (h.cell (List.getElem?_eq_getElem hi))]
      rfl
    · rw [World.cell?_setCell_other _ _ _ _ (by intro e; injection e with e1 e2; exact hij e2.symm), h.cell (List.getElem?_eq_getElem hi)]
      rfl
/-- all but two blocks stay -/
structure Kb (g b : Nat) (w w' : World) : Prop where
  os : w'.os = w.os
  tape : w'.tape = w.tape
  output : w'.output = w.output
  size : w.heap.size ≤ w'.heap.size
  block : ∀ k, k < w.heap.size → k ≠ g → k ≠ b → w'.heap[k]? = w.heap[k]?
theorem Kb.refl (g b : Nat) (w : World) : Kb g b w w := ⟨rfl, rfl, rfl, Nat.le_refl _, fun _ _ _ _ => rfl⟩
theorem Kb.trans {g b : Nat} {x y z : World} (h : Kb g b x y) (k : Kb g b y z) : Kb g b x z :=
  ⟨k.os.trans h.os, k.tape.trans h.tape, k.output.trans h.output, Nat.le_trans h.size k.size, fun i hi h1 h2 => (k.block i (Nat.lt_of_lt_of_le hi h.size) h1 h2).trans (h.block i hi h1 h2)⟩
theorem Kg.kb {g : Nat} {w w' : World} (h : Kg w w' g) (b : Nat) : Kb g b w w' :=
  ⟨World.grownBy.os h, World.grownBy.tape h, World.grownBy.output h, h.size, fun k hk h1 _ => World.grownBy.block h k hk (by simpa using h1)⟩
theorem Kp.kb {w w' : World} (h : Kp w w') (g b : Nat) : Kb g b w w' := ⟨h.os, h.tape, h.output, h.size, fun _ hk _ _ => h.block hk⟩
theorem Kb.set {g b : Nat} {w w' : World} (h : Kb g b w w') (j : Nat) (u : Value) : Kb g b w (w'.setCell ⟨b, j, none⟩ u) :=
  ⟨h.os, h.tape, h.output, by rw [set_size]; exact h.size, fun k hk h1 h2 => by rw [set_block _ _ _ _ h2]; exact h.block k hk h1 h2⟩
/-- what the block b is new to -/
theorem Kb.kg {g b : Nat} {w0 w w' : World} (h : Kb g b w w') (h0 : Kg w0 w g) (hb : w0.heap.size ≤ b) : Kg w0 w' g :=
  ⟨h.os.trans (World.grownBy.os h0), h.tape.trans (World.grownBy.tape h0), h.output.trans (World.grownBy.output h0), Nat.le_trans h0.size h.size, fun k hk hne => by
    rw [h.block k (Nat.lt_of_lt_of_le hk h0.size) (fun e => hne (by rw [e])) (by omega)]
    exact World.grownBy.block h0 k hk hne⟩
theorem results_cell_bx {P : Program} {fn : Func} {p : Tmp} {ty : TypeId} (h : fn.results = #[.cell p ty]) (tmps : Array Value) (w : World) (b : Nat) (cs : List Value) (d : TypeDesc)
    (hp : tmps.getD p undef = .pointer (some ⟨b, 0, none⟩)) (hc : w.rangeAt b 0 cs) (hu : P.underlying ty = some d) (hd : d.isRow = true) (hi : (P.info? ty).map (·.size) = some cs.length) :
    (results fn tmps).run P w = .ok (.agg cs.toArray) w := by
  have hp' : tmps[p]?.getD undef = .pointer (some ⟨b, 0, none⟩) := by simpa using hp
  simp [results, h, hp', asAddr, run_loadVar_mid w b 0 ty cs d hc hu hd hi]
/-- cells put in a row from place o on -/
def putV (cs : List Value) (o : Nat) (vs : List Value) : List Value := cs.take o ++ vs ++ cs.drop (o + vs.length)
theorem Bx.setCells {b : Nat} : ∀ (vs : List Value) (o : Nat) (w : World) (cs : List Value), Bx w b cs → o + vs.length ≤ cs.length → Bx (w.setCells b o vs) b (putV cs o vs)
  | [], o, w, cs, h, _ => by simpa [World.setCells, putV] using h
  | v :: vs, o, w, cs, h, hl => by
    rw [List.length_cons] at hl
    have h1 := h.set (j := o) (by omega) v
    have h2 := Bx.setCells vs (o + 1) _ _ h1 (by rw [List.length_set]; omega)
    have e : putV (cs.set o v) (o + 1) vs = putV cs o (v :: vs) := by
      have hset : cs.set o v = cs.take o ++ v :: cs.drop (o + 1) := by rw [List.set_eq_take_append_cons_drop, if_pos (by omega)]
      have ht : (cs.take o).length = o := by simp; omega
      unfold putV
      rw [hset, List.take_append, List.drop_append, ht, List.take_of_length_le (l := cs.take o) (by omega), List.drop_of_length_le (l := cs.take o) (by omega), List.length_cons]
      have e1 : o + 1 - o = 1 := by omega
      have e2 : o + 1 + vs.length - o = vs.length + 1 := by omega
      rw [e1, e2]
      simp [Nat.add_assoc, Nat.add_comm 1]
    rw [World.setCells]
    rw [← e]
    exact h2
theorem Bx.self {w : World} {b : Nat} {cs : List Value} (h : Bx w b cs) : Bx (w.setCells b 0 cs) b cs := by
  have := h.setCells cs 0 w cs (by omega)
  simpa [putV] using this
theorem Kb.setCells {g b : Nat} {w : World} : ∀ (vs : List Value) (o : Nat) (w' : World), Kb g b w w' → Kb g b w (w'.setCells b o vs)
  | [], _, _, h => h
  | v :: r, o, w', h => by
    rw [World.setCells]
    exact Kb.setCells r (o + 1) _ (h.set o v)
theorem setCells_size (b : Nat) : ∀ (vs : List Value) (o : Nat) (w : World), (w.setCells b o vs).heap.size = w.heap.size
  | [], _, _ => rfl
  | v :: r, o, w => by rw [World.setCells, setCells_size b r (o + 1), set_size]
theorem setCells_block (b k : Nat) (hk : k ≠ b) : ∀ (vs : List Value) (o : Nat) (w : World), (w.setCells b o vs).heap[k]? = w.heap[k]?
  | [], _, _ => rfl
  | v :: r, o, w => by rw [World.setCells, setCells_block b k hk r (o + 1), set_block _ _ _ _ hk]
theorem Bx.thereAt {w : World} {b : Nat} {cs : List Value} (h : Bx w b cs) (o n : Nat) (hn : o + n ≤ cs.length) : w.there b o n := fun j hj => by
  have := h.there (o + j) (by omega)
  rwa [Nat.zero_add] at this
theorem results_cell_bx2 {P : Program} {fn : Func} {p u : Tmp} {ty : TypeId} (h : fn.results = #[.cell p ty, .tmp u]) (tmps : Array Value) (w : World) (b : Nat) (cs : List Value) (d : TypeDesc)
    (hp : tmps.getD p undef = .pointer (some ⟨b, 0, none⟩)) (hc : w.rangeAt b 0 cs) (hu : P.underlying ty = some d) (hd : d.isRow = true) (hi : (P.info? ty).map (·.size) = some cs.length) :
    (results fn tmps).run P w = .ok (.tuple #[.agg cs.toArray, tmps.getD u undef]) w := by
  rw [results_cell_tmp h, hp]
  simp [asAddr, run_loadVar_mid w b 0 ty cs d hc hu hd hi]
theorem Bx.all {w : World} {b : Nat} {Z cs : List Value} (h : Bx w b Z) (hl : cs.length = Z.length) : Bx (w.setCells b 0 cs) b cs := by
  have := h.setCells cs 0 w Z (by omega)
  have e : putV Z 0 cs = cs := by unfold putV; rw [Nat.zero_add, List.drop_of_length_le (by omega)]; simp
  rwa [e] at this
section
variable {P : Program} {md : Region.Mode} {ops : Array Oper} {Q : Exit → Act → World → Prop} {S : World → Prop}
theorem take_at (i d : Nat) {oi : Oper} {v : Value} {fuel : Nat} {listed : Array Bool} {a : Act} {w : World} (hi : ops[i]? = some oi) (hd : oi.dst = some d)
    (hs : Region.noSelect ops = true) (hf : Region.free md ops listed i = true) (hr : (Region.ready md ops listed).contains i = true)
    (hQ : ∀ c a w, Q (.panic c) (a.put oi.dst v) w → Q (.panic c) a w) (hS : S w) (hy : YieldsIf P ops S oi v a)
    (h : wpAnyH P md ops Q S fuel (listed.setIfInBounds i true) (a.put (some d) v) w) : wpAnyH P md ops Q S (fuel + 1) listed a w :=
  wpAnyH_take hi hs hf hr hQ hy hS (by rw [hd]; exact h)
end
section
variable {P : Program} {ops : Array Oper} {Q : Exit → Act → World → Prop} {md : Region.Mode} {S : World → Prop} {t : Nat}
/-- whatever order is picked; S holds behind every operation but number t -/
def wpAnyT (P : Program) (md : Region.Mode) (ops : Array Oper) (Q : Exit → Act → World → Prop) (S : World → Prop) (t : Nat) : Nat → Array Bool → Act → World → Prop
  | 0, listed, a, w => Region.ready md ops listed = [] ∧ Q .normal a w
  | fuel + 1, listed, a, w =>
    (Region.ready md ops listed = [] → Q .normal a w) ∧
    ∀ i ∈ Region.ready md ops listed, wpOp P ops Q i (fun a' w' => (i ≠ t → S w') ∧ wpAnyT P md ops Q S t fuel (listed.setIfInBounds i true) a' w') a w
theorem wpAny_of_T : ∀ (fuel : Nat) (listed : Array Bool) (a : Act) (w : World), wpAnyT P md ops Q S t fuel listed a w → wpAny P md ops Q fuel listed a w
  | 0, _, _, _, h => h
  | fuel + 1, _, _, _, h => ⟨h.1, fun i hi => wpOp_mono (fun a' w' h' => wpAny_of_T fuel _ a' w' h'.2) (h.2 i hi)⟩
theorem wpAnyT_first {i : Nat} {oi : Oper} {v : Value} (hi : ops[i]? = some oi) (hit : i ≠ t) (hdep : ∀ o, ops[t]? = some o → ∃ e ∈ o.after, Region.binds md e = true ∧ e.on = i) (hsel : ∀ (j : Nat) (o : Oper) cs b, ops[j]? = some o → o.op ≠ .select cs b)
    (hQ : ∀ c a w, Q (.panic c) (a.put oi.dst v) w → Q (.panic c) a w) :
    ∀ (fuel : Nat) (listed : Array Bool) (a : Act) (w : World),
      (∀ j oj, ops[j]? = some oj → j ≠ i → listed.getD j true = false → (∀ e ∈ oj.after, Region.binds md e = true → e.on ≠ i) → oi.apart ops oj = true) →
      i ∈ Region.ready md ops listed → YieldsIf P ops S oi v a → S w →
      wpAnyT P md ops Q S t fuel (listed.setIfInBounds i true) (a.put oi.dst v) w → wpAnyT P md ops Q S t (fuel + 1) listed a w := by
  intro fuel
  induction fuel with
  | zero =>
    intro listed a w _ hr hy hS H
    refine ⟨fun h => (by rw [h] at hr; cases hr), fun j hj => ?_⟩
    by_cases hji : j = i
    · subst hji; exact hy.wpOp hi hS ⟨fun _ => hS, H⟩
    · have := ready_mono hj hji
      rw [H.1] at this
      cases this
  | succ fuel ih =>
    intro listed a w hfree hr hy hS H
    refine ⟨fun h => (by rw [h] at hr; cases hr), fun j hj => ?_⟩
    by_cases hji : j = i
    · subst hji; exact hy.wpOp hi hS ⟨fun _ => hS, H⟩
    · have h1 := H.2 j (ready_mono hj hji)
      obtain ⟨hjun, oj, hoj, hall⟩ := mem_ready.1 hj
      have hnot : ∀ e ∈ oj.after, Region.binds md e = true → e.on ≠ i := fun e he hb heq => by
        have h1 := hall e he hb
        have h0 := (mem_ready.1 hr).1
        rw [heq, getD_both h0] at h1
        cases h1
      have hjt : j ≠ t := fun e => by
        subst e
        obtain ⟨e, he, hb, ho⟩ := hdep oj hoj
        exact hnot e he hb ho
      have h2 := wpOp_putIf hoj (hfree j oj hoj hji hjun hnot) (fun cs b => hsel i oi cs b hi) (fun cs b => hsel j oj cs b hoj) hQ hy h1
      have hfree' : ∀ k ok, ops[k]? = some ok → k ≠ i → (listed.setIfInBounds j true).getD k true = false →
          (∀ e ∈ ok.after, Region.binds md e = true → e.on ≠ i) → oi.apart ops ok = true := fun k ok hk hki hun hno => by
        refine hfree k ok hk hki ?_ hno
        by_cases hjk : j = k
        · subst hjk; exact hjun
        · rw [getD_set_ne true hjk] at hun; exact hun
      refine wpOp_mono (fun a' w' h3 => ⟨h3.2.1, ih (listed.setIfInBounds j true) a' w' hfree' (ready_mono hr (Ne.symm hji)) h3.1 (h3.2.1 hjt) ?_⟩) h2
      rw [Array.setIfInBounds_comm _ _ hji]
      exact h3.2.2
theorem take_atT (i d : Nat) {oi : Oper} {v : Value} {fuel : Nat} {listed : Array Bool} {a : Act} {w : World} (hi : ops[i]? = some oi) (hd : oi.dst = some d) (hit : (i == t) = false)
    (hdep : ((ops[t]?).map fun o => o.after.any fun e => Region.binds md e && e.on == i) = some true)
    (hs : Region.noSelect ops = true) (hf : Region.free md ops listed i = true) (hr : (Region.ready md ops listed).contains i = true)
    (hQ : ∀ c a w, Q (.panic c) (a.put oi.dst v) w → Q (.panic c) a w) (hS : S w) (hy : YieldsIf P ops S oi v a)
    (h : wpAnyT P md ops Q S t fuel (listed.setIfInBounds i true) (a.put (some d) v) w) : wpAnyT P md ops Q S t (fuel + 1) listed a w := by
  refine wpAnyT_first hi (by simpa using hit) (fun o ho => ?_) (Region.noSelect_spec hs) hQ fuel listed a w (Region.free_spec hi hf) (by simpa using hr) hy hS (by rw [hd]; exact h)
  rw [ho] at hdep
  simp only [Option.map_some, Option.some.injEq, Array.any_eq_true, Bool.and_eq_true, beq_iff_eq] at hdep
  obtain ⟨k, hk, h1, h2⟩ := hdep
  exact ⟨_, Array.getElem_mem hk, h1, h2⟩
/-- one operation may come up: behind it S is shown anew -/
theorem stepT {i : Nat} {o : Oper} {fuel : Nat} {listed : Array Bool} {a : Act} {w : World} (hr : Region.ready md ops listed = [i]) (ho : ops[i]? = some o) 
    (h : ∀ K' : Act → World → Prop, Shut (∀ a w, S w → (S w → wpAnyT P md ops Q S t fuel (listed.setIfInBounds i true) a w) → K' a w) → if Region.wanted o (yielded ops a.tmps) = true then Oper.wp P o a w K' Q else K' (a.put o.dst undef) w) :
    wpAnyT P md ops Q S t (fuel + 1) listed a w := by
  refine ⟨fun h0 => (by rw [h0] at hr; cases hr), fun j hj => ?_⟩
  rw [hr] at hj
  obtain rfl : j = i := by simpa using hj
  exact wpOp_step ho (fun K' hK => h K' (fun a w hS hW => hK a w ⟨fun _ => hS, hW hS⟩))
/-- the last one -/
theorem lastT {o : Oper} {fuel : Nat} {listed : Array Bool} {a : Act} {w : World} (hr : Region.ready md ops listed = [t]) (ho : ops[t]? = some o) 
    (h : ∀ K' : Act → World → Prop, Shut (∀ a w, wpAnyT P md ops Q S t fuel (listed.setIfInBounds t true) a w → K' a w) → if Region.wanted o (yielded ops a.tmps) = true then Oper.wp P o a w K' Q else K' (a.put o.dst undef) w) :
    wpAnyT P md ops Q S t (fuel + 1) listed a w := by
  refine ⟨fun h0 => (by rw [h0] at hr; cases hr), fun j hj => ?_⟩
  rw [hr] at hj
  obtain rfl : j = t := by simpa using hj
  exact wpOp_step ho (fun K' hK => h K' (fun a w hW => hK a w ⟨fun hne => absurd rfl hne, hW⟩))
theorem doneT {listed : Array Bool} {a : Act} {w : World} (hr : Region.ready md ops listed = []) (h : Q .normal a w) : ∀ fuel, wpAnyT P md ops Q S t fuel listed a w
  | 0 => ⟨hr, h⟩
  | _ + 1 => ⟨fun _ => h, by rw [hr]; simp⟩
theorem beginT (t : Nat) {id : Nat} {a : Act} {w : World} (hm : P.follows .mixedOrders = true) (hS : S w.drew)
    (h : S w.drew → wpAnyT P .any ops Q S t ops.size (Array.replicate ops.size false) a w.drew) : (Code.region id ops true).wp P Q a w :=
  wp_region_any hm (wpAny_of_T _ _ _ _ (h hS))
end
section
variable {P : Program} {α : Type} {enc : α → List Value} {e size bytes base t : Nat} {w : World} {v : Value} {l : List α}
theorem step_append4 {ops : Array Oper} {o : Oper} {a : Act} {K : Act → World → Prop} {Q : Exit → Act → World → Prop} {E : Prop} (hgd : o.guard = none) (s x : Operand)
    (ho : o.op = .call { callee := .builtin .append, args := #[s, x], argTypes := #[t, t] }) (hT : SliceT P t e size bytes) (he : ∀ x, (enc x).length = size) (h1 : ∀ x, ∀ u ∈ enc x, u.oneCell' = true)
    (hs : a.eval s = v) (hown : Own enc e size base w v l)
    {v2 : Value} {m : List α} (hx : a.eval x = v2) (hsrc : Sl (Pl enc) size w v2 m) (hlen : l.length + m.length ≤ 4611686018427387904) (hby : (l.length + m.length) * bytes ≤ 140737488355328) (hbase : base ≤ w.heap.size)
    (h : ∀ v' w', Own enc e size base w' v' (l ++ m) → w.grownBy w' v.ownBlock → (v'.ownBlock = v.ownBlock ∨ v'.ownBlock = some w.heap.size) → K (a.put o.dst v') w') : if Region.wanted o (yielded ops a.tmps) = true then Oper.wp P o a w K Q else E := by
  have hw : Region.wanted o (yielded ops a.tmps) = true := by simp [Region.wanted, hgd]
  rw [if_pos hw]
  obtain ⟨v', w', hr, h2, h3, h4, h5⟩ := run_append_flat hT he h1 o.type hown hsrc hlen hby hbase
  unfold Oper.wp execOp
  simp only [ho, resolve, invoke, builtin, Sem.run_bind, Sem.run_pure, Result.andThen_ok, List.map_toArray, List.map_cons, List.map_nil, hs, hx, hr]
  exact h v' w' h2 h3 h4
end
theorem Kg.grown {a w w' : World} {g : Nat} {row : Option Nat} (h : Kg a w g) (hg : w.grownBy w' row) (hr : ∀ k, row = some k → a.heap.size ≤ k) : Kg a w' g :=
  ⟨hg.os.trans h.os, hg.tape.trans h.tape, hg.output.trans h.output, Nat.le_trans h.size hg.size, fun k hk hne => (hg.block k (Nat.lt_of_lt_of_le hk h.size) (fun e => by have := hr k e.symm; omega)).trans (h.block k hk hne)⟩
theorem Bx.grown {w w' : World} {b : Nat} {cs : List Value} {row : Option Nat} (h : Bx w b cs) (hg : w.grownBy w' row) (hr : row ≠ some b) (hb : b < w.heap.size) : Bx w' b cs := h.keep (hg.block b hb (fun e => hr e.symm))
theorem Bx.kp {w w' : World} {b : Nat} {cs : List Value} (h : Bx w b cs) (hk : Kp w w') (hb : b < w.heap.size) : Bx w' b cs := h.keep (hk.block hb)
theorem Bx.kg {w w' : World} {b g : Nat} {cs : List Value} (h : Bx w b cs) (hk : Kg w w' g) (hb : b < w.heap.size) (hg : b ≠ g) : Bx w' b cs := h.keep (hk.block b hb (by simpa using hg))
/-- two cells stored -/
theorem Bx.set2 {w : World} {b : Nat} {x y : Value} (h : Bx w b [x, y]) (u v : Value) : Bx ((w.setCell ⟨b, 0, none⟩ u).setCell ⟨b, 1, none⟩ v) b [u, v] := by
  have h1 := h.set (j := 0) (by simp) u
  exact h1.set (j := 1) (by simp) v
section
variable {P : Program} {α : Type} {enc : α → List Value} {e size bytes base t : Nat} {w : World}
theorem step_make_flat {ops : Array Oper} {o : Oper} {a : Act} {K : Act → World → Prop} {Q : Exit → Act → World → Prop} {E : Prop} (hgd : o.guard = none) (x y : Operand) (ho : o.op = .makeSlice t x y) (hT : SliceT P t e size bytes)
    (z0 : α) (hz0 : ∀ i z, P.info? e = some i → i.zero = some z → z.cells.toList = enc z0) (n : Nat) (hx : a.eval x = .int .i64 (n : Int)) (hy : a.eval y = .int .i64 (n : Int)) (hn : n ≤ 4611686018427387904) (hby : bytes * n ≤ 140737488355328) (hbase : base ≤ w.heap.size)
    (h : ∀ w', Own enc e size base w' (.slice (some ⟨w.heap.size, 0, none⟩) n n) (List.replicate n z0) → Kp w w' → w'.heap.size = w.heap.size + 1 → K (a.put o.dst (.slice (some ⟨w.heap.size, 0, none⟩) n n)) w') : if Region.wanted o (yielded ops a.tmps) = true then Oper.wp P o a w K Q else E := by
  have hw : Region.wanted o (yielded ops a.tmps) = true := by simp [Region.wanted, hgd]
  rw [if_pos hw]
  obtain ⟨w', hr, h1, h2, h3⟩ := run_make_flat (enc := enc) (base := base) (w := w) hT z0 hz0 n hn hby hbase
  unfold Oper.wp execOp
  simp only [ho, hx, hy, Sem.run_bind, hr, Sem.run_pure, Result.andThen_ok]
  exact h w' h1 h2 h3
end
theorem Kp.gb {w w' : World} (h : Kp w w') (row : Option Nat) : w.grownBy w' row := ⟨h.os, h.tape, h.output, h.size, fun _ hk _ => h.block hk⟩
end Go.Proofs.Ytcddllaljgfjbaa
namespace Go.Proofs.Ytcddllaljgfjbaa.G2
set_option linter.unusedSimpArgs false
set_option linter.unusedVariables false
open Go.RowKit

/-- the slot of an operation -/
def gSlot (ops : Array Oper) (i : Nat) : Option Nat := (ops[i]?).bind (·.dst)
/-- what stands in it -/
def gVal (ops : Array Oper) (a : Act) (i : Nat) : Value := match gSlot ops i with | some d => a.tmps[d]?.getD undef | none => undef
def gOut (ops : Array Oper) (i : Nat) (v : Value) : Value := match gSlot ops i with | some _ => v | none => undef
def sinkF (ops : Array Oper) (fl : List Nat) (n : Nat) : Bool := (List.range n).all fun i => fl.contains i || (List.range (n + 1)).any fun j => decide (i < j) && Region.waitsFor .any ops j i && (decide (j = n) || !fl.contains j)
def floatB (ops : Array Oper) (fl : List Nat) : Bool := fl.all fun i => (List.range ops.size).all fun j => decide (j = i) || Region.waitsFor .any ops j i || Region.waitsFor .any ops i j || ((ops[i]?).bind fun oi => (ops[j]?).map fun oj => oi.apart ops oj).getD false
def slotB (ops : Array Oper) (n N i : Nat) : Bool := match gSlot ops i with | some d => decide (d < N) && (List.range n).all fun j => decide (i = j) || decide (gSlot ops j ≠ some d) | none => true
def growB (ops : Array Oper) (fl : List Nat) (n N : Nat) : Bool :=
  ((List.range n).all fun i => ((ops[i]?).map fun o => o.after.all fun e => !Region.binds .any e || decide (e.on < i)).getD false && slotB ops n N i) &&
    decide (n < ops.size) && (sinkF ops fl n && floatB ops fl && Region.noSelect ops) && Region.chainB .any ops n && Region.seqB .any ops (ops.size - n) n (Array.replicate n true ++ Array.replicate (ops.size - n) false)
/-- no operation of the head writes this slot -/
def growFree (ops : Array Oper) (n t : Nat) : Bool := (List.range n).all fun i => decide (gSlot ops i ≠ some t)
/-- how many of the first operations have not come up yet -/
def cntU (listed : Array Bool) : Nat → Nat
  | 0 => 0
  | n + 1 => cntU listed n + if listed.getD n true then 0 else 1
theorem cntU_zero {listed : Array Bool} : ∀ {n : Nat}, cntU listed n = 0 → ∀ i, i < n → listed.getD i true = true
  | n + 1, h, i, hi => by
    unfold cntU at h
    by_cases hin : i = n
    · subst hin
      cases hl : listed.getD i true with
      | true => rfl
      | false => rw [hl] at h; simp at h
    · exact cntU_zero (n := n) (by omega) i (by omega)
theorem cntU_pos {listed : Array Bool} : ∀ {n : Nat}, 0 < cntU listed n → ∃ i, i < n ∧ listed.getD i true = false ∧ ∀ j, j < i → listed.getD j true = true
  | n + 1, h => by
    by_cases h0 : 0 < cntU listed n
    · obtain ⟨i, h1, h2, h3⟩ := cntU_pos h0
      exact ⟨i, by omega, h2, h3⟩
    · unfold cntU at h
      refine ⟨n, by omega, ?_, fun j hj => cntU_zero (n := n) (by omega) j hj⟩
      cases hl : listed.getD n true with
      | true => rw [hl] at h; simp at h; omega
      | false => rfl
theorem getD_set_self {listed : Array Bool} {i : Nat} (h : listed.getD i true = false) : (listed.setIfInBounds i true).getD i true = true := by
  rcases Nat.lt_or_ge i listed.size with h' | h'
  · simp [h']
  · simp [Array.getElem?_eq_none h'] at h
theorem cntU_set {listed : Array Bool} {i : Nat} (h : listed.getD i true = false) : ∀ {n : Nat}, (i < n → cntU listed n = cntU (listed.setIfInBounds i true) n + 1) ∧ (n ≤ i → cntU listed n = cntU (listed.setIfInBounds i true) n)
  | 0 => ⟨fun h => absurd h (by omega), fun _ => rfl⟩
  | n + 1 => by
    obtain ⟨h1, h2⟩ := cntU_set h (n := n)
    unfold cntU
    refine ⟨fun hi => ?_, fun hi => ?_⟩
    · by_cases hin : i = n
      · subst hin
        rw [h2 (Nat.le_refl _), h, getD_set_self h]
        simp
      · rw [h1 (by omega), getD_set_ne true hin]
        omega
    · rw [h2 (by omega), getD_set_ne true (by omega)]
theorem cntU_new (m : Nat) : ∀ n, n ≤ m → cntU (Array.replicate m false) n = n
  | 0, _ => rfl
  | n + 1, h => by
    unfold cntU
    rw [cntU_new m n (by omega)]
    simp [show n < m by omega]
section
variable {P : Program} {ops : Array Oper} {Q : Exit → Act → World → Prop} {fl : List Nat} {n N : Nat} {a0 : Act} {w0 : World} {PV : Nat → Value → World → Prop} {G : World → World → Prop}
theorem growB_dst (h : growB ops fl n N = true) {i : Nat} (hi : i < n) : ∃ o, ops[i]? = some o ∧ o.dst = gSlot ops i ∧ (∀ d, gSlot ops i = some d → d < N ∧ ∀ j, j < n → i ≠ j → gSlot ops j ≠ some d) ∧ (∀ e ∈ o.after, Region.binds .any e = true → e.on < i) := by
  unfold growB at h
  simp only [Bool.and_eq_true, List.all_eq_true, List.mem_range, decide_eq_true_eq, Bool.or_eq_true] at h
  obtain ⟨h1, h2⟩ := h.1.1.1.1 i hi
  cases ho : ops[i]? with
  | none => rw [ho] at h1; simp at h1
  | some o =>
    rw [ho] at h1
    simp only [Option.map_some, Option.getD_some, Array.all_eq_true_iff_forall_mem, Bool.or_eq_true, Bool.not_eq_true', decide_eq_true_eq] at h1
    refine ⟨o, rfl, ?_, fun d hd => ?_, fun e he hb => (h1 e he).resolve_left (by rw [hb]; simp)⟩
    · unfold gSlot
      rw [ho]
      rfl
    · unfold slotB at h2
      rw [hd] at h2
      simp only [Bool.and_eq_true, decide_eq_true_eq, List.all_eq_true, List.mem_range, Bool.or_eq_true] at h2
      exact ⟨h2.1, fun j hj hne => (h2.2 j hj).resolve_left hne⟩
structure GrowI (G : World → World → Prop) (ops : Array Oper) (n N : Nat) (a0 : Act) (w0 : World) (PV : Nat → Value → World → Prop) (listed : Array Bool) (a : Act) (w : World) : Prop where
  kp : G w0 w
  df : a.defers = a0.defers
  sz : a.tmps.size = N
  fr : ∀ t, growFree ops n t = true → a.tmps[t]? = a0.tmps[t]?
  pv : ∀ j, j < n → listed.getD j true = true → PV j (gVal ops a j) w
/-- what one operation owes -/
def GrowStepG (G : World → World → Prop) (P : Program) (ops : Array Oper) (Q : Exit → Act → World → Prop) (n N : Nat) (a0 : Act) (w0 : World) (PV : Nat → Value → World → Prop) (i : Nat) : Prop :=
  ∀ (a : Act) (w : World), G w0 w → (∀ t, growFree ops n t = true → a.tmps[t]?.getD undef = a0.tmps[t]?.getD undef) → (∀ j, Region.waitsFor .any ops i j = true → PV j (gVal ops a j) w) →
    ∀ K : Act → World → Prop, Hid (∀ v w', G w w' → PV i (gOut ops i v) w' → K (a.put (gSlot ops i) v) w') → ((ops[i]?).map fun o => if Region.wanted o (yielded ops a.tmps) = true then Oper.wp P o a w K Q else K (a.put o.dst undef) w).getD False
abbrev GrowStep := GrowStepG Kp
theorem waitsFor_mem {i : Nat} {oi : Oper} (ho : ops[i]? = some oi) {e : Edge} (he : e ∈ oi.after) (hb : Region.binds .any e = true) : Region.waitsFor .any ops i e.on = true := by
  unfold Region.waitsFor
  rw [ho]
  simp only [Option.map_some, Option.getD_some]
  simp only [Array.any_eq_true, Bool.and_eq_true, beq_iff_eq]
  obtain ⟨k, hk, rfl⟩ := Array.getElem_of_mem he
  exact ⟨k, hk, hb, rfl⟩
theorem waits_mem {i j : Nat} (h : Region.waitsFor .any ops j i = true) : ∃ oj, ops[j]? = some oj ∧ ∃ e ∈ oj.after, Region.binds .any e = true ∧ e.on = i := by
  unfold Region.waitsFor at h
  cases ho : ops[j]? with
  | none => rw [ho] at h; simp at h
  | some oj =>
    rw [ho] at h
    simp only [Array.any_eq_true, Bool.and_eq_true, beq_iff_eq] at h
    obtain ⟨k, hk, hb, he⟩ := h
    exact ⟨oj, rfl, _, Array.getElem_mem hk, hb, he⟩
theorem tailWaits {listed : Array Bool} (hs : sinkF ops fl n = true) (hc : Region.chainB .any ops n = true) (inv : HeadInv .any ops n listed) :
    ∀ (d i : Nat), n - i = d → i < n → i ∉ fl → listed.getD i true = false → ∀ t, n ≤ t → t ∉ Region.ready .any ops listed := by
  intro d
  induction d using Nat.strongRecOn with
  | _ d ih =>
    intro i hd hi hfl hun t ht hr
    have h0 := hs
    unfold sinkF at h0
    simp only [List.all_eq_true, List.mem_range, Bool.or_eq_true, List.any_eq_true, Bool.and_eq_true, decide_eq_true_eq, Bool.not_eq_true'] at h0
    rcases h0 i hi with h1 | ⟨j, hj, ⟨hij, hw⟩, hjf⟩
    · exact hfl (by simpa using h1)
    · obtain ⟨oj, hoj, e, he, hb, hon⟩ := waits_mem hw
      by_cases hjn : j = n
      · subst hjn
        obtain ⟨htu, ot, hot, hall⟩ := mem_ready.1 hr
        by_cases htn : t = j
        · subst htn
          rw [hoj] at hot
          injection hot with hot
          subst hot
          have := hall e he hb
          rw [hon, getD_both hun] at this
          cases this
        · have hts : t < ops.size := (Array.getElem?_eq_some_iff.1 hot).1
          unfold Region.chainB at hc
          simp only [List.all_eq_true, List.mem_range, Bool.or_eq_true, decide_eq_true_eq] at hc
          rcases hc t hts with h2 | h2
          · omega
          · obtain ⟨ot', hot', e', he', hb', hon'⟩ := waits_mem h2
            rw [hot] at hot'
            injection hot' with hot'
            subst hot'
            have h3 := hall e' he' hb'
            rw [hon', getD_both (inv.tail (t - 1) (by omega) (by omega))] at h3
            cases h3
      · have hjl : j < n := by have := hj; omega
        have hju : listed.getD j true = false := by
          cases hl : listed.getD j true with
          | false => rfl
          | true =>
            have hjs : j < listed.size := by rw [inv.size]; exact (Array.getElem?_eq_some_iff.1 hoj).1
            have h3 := inv.closed j oj hoj (by simpa [hjs] using hl) e he hb
            rw [hon, getD_both hun] at h3
            cases h3
        exact ih (n - j) (by omega) j rfl hjl (by rcases hjf with h | h; exact absurd h hjn; simpa using h) hju t ht hr
theorem grow_put {i : Nat} {listed : Array Bool} {a : Act} {w w' : World} {v : Value} (hB : growB ops fl n N = true) (htr : ∀ x y z, G x y → G y z → G x z) (hst : ∀ j v w1 w2, PV j v w1 → G w1 w2 → PV j v w2) (I : GrowI G ops n N a0 w0 PV listed a w) (hin : i < n) (hk : G w w') (hv : PV i (gOut ops i v) w') :
    GrowI G ops n N a0 w0 PV (listed.setIfInBounds i true) (a.put (gSlot ops i) v) w' := by
  obtain ⟨o, ho, hd, hdN, hb⟩ := growB_dst hB hin
  cases hsl : gSlot ops i with
  | none =>
    refine ⟨htr _ _ _ I.kp hk, I.df, I.sz, I.fr, fun j hj hl => ?_⟩
    show PV j (gVal ops a j) w'
    by_cases hij : i = j
    · subst hij
      unfold gOut at hv
      unfold gVal
      rw [hsl] at hv ⊢
      exact hv
    · rw [getD_set_ne true hij] at hl
      exact hst j _ _ _ (I.pv j hj hl) hk
  | some d =>
    obtain ⟨hdn, hne⟩ := hdN d hsl
    refine ⟨htr _ _ _ I.kp hk, by simpa [Act.put] using I.df, by simpa [Act.put] using I.sz, fun t ht => ?_, fun j hj hl => ?_⟩
    · have hti : d ≠ t := by
        unfold growFree at ht
        simp only [List.all_eq_true, List.mem_range, decide_eq_true_eq] at ht
        intro e
        exact ht i hin (by rw [hsl, e])
      rw [show (a.put (some d) v).tmps = a.tmps.setIfInBounds d v from rfl, Array.getElem?_setIfInBounds_ne hti]
      exact I.fr t ht
    · by_cases hij : i = j
      · subst hij
        unfold gOut at hv
        unfold gVal
        rw [hsl] at hv ⊢
        dsimp only at hv ⊢
        rw [show (a.put (some d) v).tmps = a.tmps.setIfInBounds d v from rfl, Array.getElem?_setIfInBounds_self_of_lt (by rw [I.sz]; exact hdn)]
        exact hv
      · have h1 : gVal ops (a.put (some d) v) j = gVal ops a j := by
          unfold gVal
          cases hsj : gSlot ops j with
          | none => rfl
          | some d' =>
            dsimp only
            have : d ≠ d' := fun e => hne j hj hij (by rw [hsj, e])
            rw [show (a.put (some d) v).tmps = a.tmps.setIfInBounds d v from rfl, Array.getElem?_setIfInBounds_ne this]
        rw [h1]
        rw [getD_set_ne true hij] at hl
        exact hst j _ _ _ (I.pv j hj hl) hk
theorem grow_main (hB : growB ops fl n N = true) (hrf : ∀ x, G x x) (htr : ∀ x y z, G x y → G y z → G x z) (hQ : ∀ d c a v w, Q (.panic c) (Act.put a (some d) v) w → Q (.panic c) a w) (hst : ∀ j v w1 w2, PV j v w1 → G w1 w2 → PV j v w2) (hstep : ∀ i, i < n → GrowStepG G P ops Q n N a0 w0 PV i)
    (hfl : ∀ i, i ∈ fl → i < n ∧ ∀ (a : Act) (w : World), G w0 w → (∀ t, growFree ops n t = true → a.tmps[t]?.getD undef = a0.tmps[t]?.getD undef) → (∀ j, Region.waitsFor .any ops i j = true → PV j (gVal ops a j) w) → ((ops[i]?).map fun o => ∃ v, PV i (gOut ops i v) w ∧ Yields P ops o v a).getD False)
    (htail : ∀ a w, G w0 w → a.defers = a0.defers → a.tmps.size = N → (∀ t, growFree ops n t = true → a.tmps[t]? = a0.tmps[t]?) → (∀ j, j < n → PV j (gVal ops a j) w) → wpList P ops Q (ops.toList.drop n) a w) :
    ∀ (f : Nat) (listed : Array Bool) (a : Act) (w : World), HeadInv .any ops n listed → cntU listed n = f → GrowI G ops n N a0 w0 PV listed a w → wpAny P .any ops Q (f + (ops.size - n)) listed a w := by
  have hB' := hB
  unfold growB at hB'
  simp only [Bool.and_eq_true, decide_eq_true_eq] at hB'
  obtain ⟨⟨⟨⟨-, hn⟩, ⟨hs, hF⟩, hsel⟩, hc⟩, hq⟩ := hB'
  intro f
  induction f with
  | zero =>
    intro listed a w inv h0 I
    have hall := cntU_zero h0
    have hl : listed = Array.replicate n true ++ Array.replicate (ops.size - n) false := by
      apply Array.ext
      · rw [inv.size]; simp; omega
      · intro i h1 h2
        have hi : i < ops.size := by rw [← inv.size]; exact h1
        by_cases hin : i < n
        · have := hall i hin
          rw [Array.getElem_append_left (by simpa using hin), Array.getElem_replicate]
          simpa [h1] using this
        · have := inv.tail i (by omega) hi
          rw [Array.getElem_append_right (by simpa using hin), Array.getElem_replicate]
          simpa [h1] using this
    have hdl : (ops.toList.drop n).length = ops.size - n := by simp
    have := wpAny_of_seq (P := P) (md := .any) (ops := ops) (Q' := Q) (ops.toList.drop n) n listed a w (fun j => by simp [List.getElem?_drop]) (by rw [hdl, hl]; exact hq) (htail a w I.kp I.df I.sz I.fr fun j hj => I.pv j hj (hall j hj))
    rw [hdl] at this
    simpa using this
  | succ f ih =>
    intro listed a w inv hf I
    obtain ⟨m, hm, hmu, hmin⟩ := cntU_pos (listed := listed) (n := n) (by omega)
    have hmr : m ∈ Region.ready .any ops listed := by
      obtain ⟨o, ho, -, -, hb⟩ := growB_dst hB hm
      exact mem_ready.2 ⟨hmu, o, ho, fun e he hbn => by
        have h1 := hmin e.on (hb e he hbn)
        have h2 : e.on < listed.size := by rw [inv.size]; have := hb e he hbn; omega
        simpa [h2] using h1⟩
    have hdeps : ∀ i, i ∈ Region.ready .any ops listed → i < n → ∀ j, Region.waitsFor .any ops i j = true → PV j (gVal ops a j) w := by
      intro i hi hin j hj
      obtain ⟨o, ho, -, -, hb⟩ := growB_dst hB hin
      obtain ⟨hun, o', ho', hall⟩ := mem_ready.1 hi
      obtain rfl : o = o' := Option.some.inj (ho.symm.trans ho')
      obtain ⟨oj, hoj, e, he, hbn, hon⟩ := waits_mem hj
      obtain rfl : o = oj := Option.some.inj (ho.symm.trans hoj)
      have hl := hall _ he hbn
      rw [hon] at hl
      have hjn : j < n := by have := hb _ he hbn; omega
      refine I.pv j hjn ?_
      have h2 : j < listed.size := by rw [inv.size]; omega
      simpa [h2] using hl
    rw [show f + 1 + (ops.size - n) = (f + (ops.size - n)) + 1 by omega]
    by_cases hA : ∃ i, i < n ∧ i ∉ fl ∧ listed.getD i true = false
    · obtain ⟨x, hx, hxf, hxu⟩ := hA
      refine ⟨fun h0 => (by rw [h0] at hmr; cases hmr), fun i hi => ?_⟩
      have hin : i < n := by
        rcases Nat.lt_or_ge i n with h | h
        · exact h
        · exact absurd hi (tailWaits hs hc inv _ x rfl hx hxf hxu i h)
      obtain ⟨o, ho, hd, hdN, hb⟩ := growB_dst hB hin
      obtain ⟨hun, o', ho', hall⟩ := mem_ready.1 hi
      refine wpOp_step ho fun K' hK => ?_
      have h1 := hstep i hin a w I.kp (fun t ht => by rw [I.fr t ht]) (hdeps i hi hin) K' (hid fun v w' hk hv => hK _ _ (ih _ _ _ (inv.set hi hin) (by have := (cntU_set hun (n := n)).1 hin; omega) (grow_put hB htr hst I hin hk hv)))
      rw [ho] at h1
      exact h1
    · have hmf : m ∈ fl := by
        by_cases h : m ∈ fl
        · exact h
        · exact absurd ⟨m, hm, h, hmu⟩ hA
      obtain ⟨o, ho, hd, hdN, hb⟩ := growB_dst hB hm
      have h1 := (hfl m hmf).2 a w I.kp (fun t ht => by rw [I.fr t ht]) (hdeps m hmr hm)
      rw [ho] at h1
      obtain ⟨v, hv, hy⟩ : ∃ v, PV m (gOut ops m v) w ∧ Yields P ops o v a := h1
      refine wpAny_first ho (Region.noSelect_spec hsel) (fun c a w h => ?_) _ listed a w (fun j oj hoj hji hju hno => ?_) hmr hy ?_
      · cases hdd : o.dst with
        | none => rw [hdd] at h; exact h
        | some d => rw [hdd] at h; exact hQ d c a v w h
      · unfold floatB at hF
        simp only [List.all_eq_true, List.mem_range, Bool.or_eq_true, decide_eq_true_eq] at hF
        rcases hF m hmf j (Array.getElem?_eq_some_iff.1 hoj).1 with ((h2 | h2) | h2) | h2
        · exact absurd h2 hji
        · obtain ⟨oj', hoj', e, he, hbn, hon⟩ := waits_mem h2
          obtain rfl : oj = oj' := Option.some.inj (hoj.symm.trans hoj')
          exact absurd hon (hno e he hbn)
        · obtain ⟨om, hom, e, he, hbn, hon⟩ := waits_mem h2
          obtain rfl : o = om := Option.some.inj (ho.symm.trans hom)
          have h3 := hmin e.on (hb e he hbn)
          rw [hon, hju] at h3
          cases h3
        · rw [ho, hoj] at h2
          simpa using h2
      · rw [hd]
        exact ih _ _ _ (inv.set hmr hm) (by have := (cntU_set hmu (n := n)).1 hm; omega) (grow_put hB htr hst I hm (hrf _) hv)
/-- the slots of the head filled -/
def growPut (ops : Array Oper) (v : Nat → Value) (T : Array Value) : Nat → Array Value
  | 0 => T
  | n + 1 => match gSlot ops n with | some d => (growPut ops v T n).setIfInBounds d (v n) | none => growPut ops v T n
theorem growPut_size (v : Nat → Value) (T : Array Value) : ∀ n, (growPut ops v T n).size = T.size
  | 0 => rfl
  | n + 1 => by
    unfold growPut
    split
    · simp [growPut_size v T n]
    · exact growPut_size v T n
theorem growPut_get (v : Nat → Value) (T S : Array Value) (hv : ∀ j d, gSlot ops j = some d → v j = S[d]?.getD undef) (hs : S.size = T.size) : ∀ n t, ((∃ j, j < n ∧ gSlot ops j = some t) ∨ T[t]? = S[t]?) → (growPut ops v T n)[t]? = S[t]?
  | 0, t, h => by
    rcases h with ⟨j, hj, -⟩ | h
    · omega
    · exact h
  | n + 1, t, h => by
    have ih := growPut_get v T S hv hs n t
    unfold growPut
    cases hsl : gSlot ops n with
    | none =>
      dsimp only
      refine ih ?_
      rcases h with ⟨j, hj, hjt⟩ | h
      · refine .inl ⟨j, ?_, hjt⟩
        rcases Nat.lt_or_ge j n with h | h
        · exact h
        · rw [show j = n by omega, hsl] at hjt
          cases hjt
      · exact .inr h
    | some d =>
      dsimp only
      by_cases hd : d = t
      · subst hd
        by_cases hlt : d < T.size
        · rw [Array.getElem?_setIfInBounds_self_of_lt (by rw [growPut_size]; exact hlt), hv n d hsl, Array.getElem?_eq_getElem (by omega)]
          rfl
        · rw [Array.getElem?_eq_none (by simp [growPut_size]; omega), Array.getElem?_eq_none (by omega)]
      · rw [Array.getElem?_setIfInBounds_ne hd]
        refine ih ?_
        rcases h with ⟨j, hj, hjt⟩ | h
        · refine .inl ⟨j, ?_, hjt⟩
          rcases Nat.lt_or_ge j n with h | h
          · exact h
          · rw [show j = n by omega, hsl] at hjt
            injection hjt with hjt
            exact absurd hjt hd
        · exact .inr h
theorem wp_region_growG (G : World → World → Prop) {id : Nat} {a : Act} {w : World} {l : List Oper} (fl : List Nat) (n N : Nat) (PV : Nat → Value → World → Prop) (hm : P.follows .mixedOrders = true) (hB : growB l.toArray fl n N = true) (hN : a.tmps.size = N)
    (hrf : ∀ x, G x x) (htr : ∀ x y z, G x y → G y z → G x z) (hdr : G w w.drew)
    (hQ : ∀ d c a v w, Q (.panic c) (Act.put a (some d) v) w → Q (.panic c) a w) (hst : ∀ j v w1 w2, PV j v w1 → G w1 w2 → PV j v w2) (hstep : ∀ i, i < n → GrowStepG G P l.toArray Q n N a w PV i)
    (hfl : ∀ i, i ∈ fl → i < n ∧ ∀ (a' : Act) (w' : World), G w w' → (∀ t, growFree l.toArray n t = true → a'.tmps[t]?.getD undef = a.tmps[t]?.getD undef) → (∀ j, Region.waitsFor .any l.toArray i j = true → PV j (gVal l.toArray a' j) w') → ((l.toArray[i]?).map fun o => ∃ v, PV i (gOut l.toArray i v) w' ∧ Yields P l.toArray o v a').getD False)
    (htail : ∀ (v : Nat → Value) w', G w w' → (∀ j, j < n → PV j (gOut l.toArray j (v j)) w') → wpList P l.toArray Q (l.drop n) { a with tmps := growPut l.toArray v a.tmps n } w') : (Code.region id l.toArray true).wp P Q a w := by
  refine wp_region_any hm ?_
  have hB' := hB
  unfold growB at hB'
  simp only [Bool.and_eq_true, decide_eq_true_eq] at hB'
  obtain ⟨⟨⟨⟨-, hn⟩, -⟩, hc⟩, hq⟩ := hB'
  have inv0 : HeadInv .any l.toArray n (Array.replicate l.toArray.size false) :=
    ⟨by simp, fun j oj _ hl => (by rw [getD_replicate_false] at hl; cases hl), fun t _ ht => getD_in (by simpa using ht) (getD_replicate_false _ _)⟩
  have := grow_main (P := P) (Q := Q) (a0 := a) (w0 := w) (PV := PV) (G := G) hB hrf htr hQ hst hstep hfl (fun a' w' hk hd hz hf hv => by
    have e : a' = { a with tmps := growPut l.toArray (gVal l.toArray a') a.tmps n } := by
      have e1 : growPut l.toArray (gVal l.toArray a') a.tmps n = a'.tmps := by
        apply Array.ext_getElem?
        intro t
        refine growPut_get _ a.tmps a'.tmps (fun j d hjd => by unfold gVal; rw [hjd]) (by omega) n t ?_
        cases ht : growFree l.toArray n t with
        | true => exact .inr (hf t ht).symm
        | false =>
          left
          unfold growFree at ht
          rw [List.all_eq_false] at ht
          obtain ⟨j, hj, hne⟩ := ht
          exact ⟨j, List.mem_range.1 hj, by simpa using hne⟩
      rw [e1]
      cases a'
      simp only at hd
      rw [hd]
    rw [e]
    have := htail (gVal l.toArray a') w' hk (fun j hj => by
      have h1 := hv j hj
      unfold gOut gVal
      unfold gVal at h1
      cases hsl : gSlot l.toArray j with
      | none => rw [hsl] at h1; exact h1
      | some d => rw [hsl] at h1; exact h1)
    simpa using this) n (Array.replicate l.toArray.size false) a _ inv0 (cntU_new _ _ (by omega)) ⟨hdr, rfl, hN, fun _ _ => rfl, fun j hj hl => by
      have hjs : j < l.toArray.size := by omega
      simp only [Array.getD_eq_getD_getElem?, Array.getElem?_replicate] at hl
      rw [if_pos hjs] at hl
      simp at hl⟩
  rw [show n + (l.toArray.size - n) = l.toArray.size by omega] at this
  exact this
theorem wp_region_grow {id : Nat} {a : Act} {w : World} {l : List Oper} (fl : List Nat) (n N : Nat) (PV : Nat → Value → World → Prop) (hm : P.follows .mixedOrders = true) (hB : growB l.toArray fl n N = true) (hN : a.tmps.size = N)
    (hQ : ∀ d c a v w, Q (.panic c) (Act.put a (some d) v) w → Q (.panic c) a w) (hst : ∀ j v w1 w2, PV j v w1 → Kp w1 w2 → PV j v w2) (hstep : ∀ i, i < n → GrowStep P l.toArray Q n N a w PV i)
    (hfl : ∀ i, i ∈ fl → i < n ∧ ∀ (a' : Act) (w' : World), Kp w w' → (∀ t, growFree l.toArray n t = true → a'.tmps[t]?.getD undef = a.tmps[t]?.getD undef) → (∀ j, Region.waitsFor .any l.toArray i j = true → PV j (gVal l.toArray a' j) w') → ((l.toArray[i]?).map fun o => ∃ v, PV i (gOut l.toArray i v) w' ∧ Yields P l.toArray o v a').getD False)
    (htail : ∀ (v : Nat → Value) w', Kp w w' → (∀ j, j < n → PV j (gOut l.toArray j (v j)) w') → wpList P l.toArray Q (l.drop n) { a with tmps := growPut l.toArray v a.tmps n } w') : (Code.region id l.toArray true).wp P Q a w :=
  wp_region_growG Kp fl n N PV hm hB hN Kp.refl (fun _ _ _ h k => h.trans k) (Kp.refl w).drew hQ hst hstep hfl htail
end
def pvL (ps : List (Value → World → Prop)) (i : Nat) (v : Value) (w : World) : Prop := match ps[i]? with | some p => p v w | none => True
def eqv (u v : Value) (_ : World) : Prop := v = u
def Stab (p : Value → World → Prop) : Prop := ∀ v w1 w2, p v w1 → Kp w1 w2 → p v w2
def StabL (ps : List (Value → World → Prop)) : Prop := ∀ p ∈ ps, Stab p
theorem stabL_nil : StabL [] := fun _ h => by cases h
theorem stabL_cons {p : Value → World → Prop} {ps : List (Value → World → Prop)} (h : Stab p) (hs : StabL ps) : StabL (p :: ps) := fun q hq => by
  rcases List.mem_cons.1 hq with rfl | hq
  · exact h
  · exact hs q hq
theorem stab_eq (u : Value) : Stab (eqv u) := fun _ _ _ h _ => h
/-- a row made new -/
def newSl {α : Type} (enc : α → List Value) (size : Nat) (l : List α) (v : Value) (w : World) : Prop := ∃ p : Nat, v = .slice (some ⟨p, 0, none⟩) l.length l.length ∧ Sl (Pl enc) size w (.slice (some ⟨p, 0, none⟩) l.length l.length) l
theorem stab_newSl {α : Type} (enc : α → List Value) (size : Nat) (l : List α) : Stab (newSl enc size l) := fun _ _ _ ⟨p, e, h⟩ hk => ⟨p, e, h.keep (pl_stable _) hk⟩
theorem newSl_one {α : Type} {enc : α → List Value} {size : Nat} {x : α} {cs : List Value} (w : World) (t : TypeId) (hl : cs.length = size) (he : enc x = cs) : newSl enc size [x] (.slice (some ⟨w.heap.size, 0, none⟩) 1 1) (w.alloc (.cells cs.toArray t)) :=
  ⟨_, rfl, Sl.one (R := Pl enc) w cs t size x hl he.symm⟩
theorem newSl_lit {α : Type} {enc : α → List Value} {size : Nat} {l : List α} (w : World) (cs : Array Value) (t : TypeId) (hs : cs.size = l.length * size) (he : cs.toList = flat enc l) (hm : l.length ≤ 9223372036854775807 := by simp) (hl : ∀ x, (enc x).length = size := by intro x; rfl) : newSl enc size l (.slice (some ⟨w.heap.size, 0, none⟩) l.length l.length) (w.alloc (.cells cs t)) :=
  ⟨_, rfl, (Own.lit (base := 0) enc w cs l (Nat.zero_le _) hm hs he).sl hl⟩
/-- what a call returns that makes memory of its own -/
def retOwn {α : Type} (enc : α → List Value) (e size base : Nat) (l : List α) (v : Value) (w : World) : Prop := Own enc e size base w v l
theorem stab_own {α : Type} (enc : α → List Value) (e size base : Nat) (l : List α) : Stab (retOwn enc e size base l) := fun _ _ _ h hk => h.kp hk
theorem pvL_keep {ps : List (Value → World → Prop)} (h : StabL ps) : ∀ (j : Nat) v w1 w2, pvL ps j v w1 → Kp w1 w2 → pvL ps j v w2 := by
  intro j v w1 w2 hp hk
  unfold pvL at hp ⊢
  cases hj : ps[j]? with
  | none => trivial
  | some p =>
    rw [hj] at hp
    exact h p (List.mem_of_getElem? hj) v w1 w2 hp hk
end Go.Proofs.Ytcddllaljgfjbaa.G2
namespace Go.Proofs.Ytcddllaljgfjbaa.G2
set_option linter.unusedSimpArgs false
set_option linter.unusedVariables false
open Go.RowKit

def StepO (G : World → World → Prop) (P : Program) (ops : Array Oper) (Q : Exit → Act → World → Prop) (n : Nat) (a0 : Act) (w0 : World) (PV : Nat → Value → World → Prop) (i : Nat) (o : Oper) : Prop :=
  ∀ (a : Act) (w : World), G w0 w → (∀ t, growFree ops n t = true → a.tmps[t]?.getD undef = a0.tmps[t]?.getD undef) → (∀ j, Region.waitsFor .any ops i j = true → PV j (gVal ops a j) w) →
    ∀ K : Act → World → Prop, Hid (∀ v w', G w w' → PV i (gOut ops i v) w' → K (a.put (gSlot ops i) v) w') → if Region.wanted o (yielded ops a.tmps) = true then Oper.wp P o a w K Q else K (a.put o.dst undef) w
def StepsT (Pr : Nat → Oper → Prop) : List Oper → Nat → Nat → Prop
  | _, 0, _ => True
  | [], _ + 1, _ => False
  | o :: r, k + 1, i => Pr i o ∧ StepsT Pr r k (i + 1)
theorem stepsT_nil (Pr : Nat → Oper → Prop) (l : List Oper) (i : Nat) : StepsT Pr l 0 i := by cases l <;> exact trivial
theorem stepsT_cons {Pr : Nat → Oper → Prop} {o : Oper} {r : List Oper} {k : Nat} (i : Nat) (h : Pr i o) (hr : StepsT Pr r k (i + 1)) : StepsT Pr (o :: r) (k + 1) i := ⟨h, hr⟩
theorem stepsT_get {Pr : Nat → Oper → Prop} : ∀ (l : List Oper) (k i : Nat), StepsT Pr l k i → ∀ j, j < k → ∃ o, l[j]? = some o ∧ Pr (i + j) o
  | _, 0, _, _, j, hj => by omega
  | [], _ + 1, _, h, _, _ => h.elim
  | o :: r, k + 1, i, h, 0, _ => ⟨o, rfl, h.1⟩
  | o :: r, k + 1, i, h, j + 1, hj => by
    obtain ⟨o', h1, h2⟩ := stepsT_get r k (i + 1) h.2 j (by omega)
    exact ⟨o', by simpa using h1, by rw [show i + (j + 1) = i + 1 + j by omega]; exact h2⟩
theorem wp_region_growT {P : Program} {Q : Exit → Act → World → Prop} (G : World → World → Prop) {id : Nat} {a : Act} {w : World} {l : List Oper} (fl : List Nat) (n N : Nat) (PV : Nat → Value → World → Prop) (hm : P.follows .mixedOrders = true) (hB : growB l.toArray fl n N = true) (hN : a.tmps.size = N)
    (hrf : ∀ x, G x x) (htr : ∀ x y z, G x y → G y z → G x z) (hdr : G w w.drew)
    (hQ : ∀ d c a v w, Q (.panic c) (Act.put a (some d) v) w → Q (.panic c) a w) (hst : ∀ j v w1 w2, PV j v w1 → G w1 w2 → PV j v w2) (hstep : StepsT (StepO G P l.toArray Q n a w PV) l n 0)
    (hfl : ∀ i, i ∈ fl → i < n ∧ ∀ (a' : Act) (w' : World), G w w' → (∀ t, growFree l.toArray n t = true → a'.tmps[t]?.getD undef = a.tmps[t]?.getD undef) → (∀ j, Region.waitsFor .any l.toArray i j = true → PV j (gVal l.toArray a' j) w') → ((l.toArray[i]?).map fun o => ∃ v, PV i (gOut l.toArray i v) w' ∧ Yields P l.toArray o v a').getD False)
    (htail : ∀ (v : Nat → Value) w', G w w' → (∀ j, j < n → PV j (gOut l.toArray j (v j)) w') → wpList P l.toArray Q (l.drop n) { a with tmps := growPut l.toArray v a.tmps n } w') : (Code.region id l.toArray true).wp P Q a w :=
  wp_region_growG G fl n N PV hm hB hN hrf htr hdr hQ hst (fun i hi => by
    obtain ⟨o, h1, h2⟩ := stepsT_get l n 0 hstep i hi
    rw [Nat.zero_add] at h2
    intro a' w' h3 h4 h5 K hK
    have h6 := h2 a' w' h3 h4 h5 K hK
    have e : l.toArray[i]? = some o := by simpa using h1
    rw [e]
    exact h6) hfl htail
end Go.Proofs.Ytcddllaljgfjbaa.G2
