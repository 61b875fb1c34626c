
/-
Words that the walks of this seat use: what a slice value reads as, what a call keeps, what a call owns, and an append onto it. Nothing here speaks of the program.
-/
import Derived.Test.YtcddllaljgfjbaaRows
import Derived.WalkKit
import Derived.WalkSpells
import Derived.WalkLawsBesides
import Derived.Maps.AppendAt
import Derived.Deep.AppendLies
import Derived.Deep.Draws
import Derived.Deep.QuietTactic
import Derived.BigQuiet
import Derived.StillTailTactics
namespace Go.Proofs.Ytcddllaljgfjbaa
set_option linter.unusedSimpArgs false
set_option linter.unusedVariables false
open Go.RowKit

theorem hid {p : Prop} (h : p) : Hid p := h

/-! What a call keeps -/

/-- what was there stays as it was -/
def Kp (w w' : World) : Prop := Below w.heap.size w w'
theorem Kp.refl (w : World) : Kp w w := Below.refl _ _
theorem Kp.size {w w' : World} (h : Kp w w') : w.heap.size ≤ w'.heap.size := Below.size h
theorem Kp.trans {a b c : World} (h : Kp a b) (k : Kp b c) : Kp a c := Below.trans h (Below.mono k h.size)
theorem Kp.alloc {a w : World} (h : Kp a w) (o : Obj) : Kp a (w.alloc o) := Below.alloc h h.size o
theorem Kp.drew {a w : World} (h : Kp a w) : Kp a w.drew := Below.drew h
theorem Kp.drewN {a w : World} (h : Kp a w) (n : Nat) : Kp a (w.drewN n) := ⟨h.os, h.tape, h.output, h.size, h.block⟩
theorem Kp.set {a w : World} (h : Kp a w) {p : Addr} (hp : a.heap.size ≤ p.block) (u : Value) : Kp a (w.setCell p u) := Below.setCell h hp u
theorem Kp.grown {a w w' : World} {row : Option Nat} (h : Kp a w) (hg : w.grownBy w' row) (hr : ∀ k, row = some k → a.heap.size ≤ k) : Kp a w' := Below.grown h hg h.size hr
theorem Kp.cell {w w' : World} (h : Kp w w') {p : Addr} (hp : p.block < w.heap.size) : w'.cell? p = w.cell? p := Below.cell h hp
theorem Kp.block {w w' : World} (h : Kp w w') {k : Nat} (hk : k < w.heap.size) : w'.heap[k]? = w.heap[k]? := Below.block h k hk
theorem Kp.cellS {w w' : World} (h : Kp w w') {p : Addr} {v : Value} (hp : w.cell? p = some v) : w'.cell? p = some v := (h.cell (block_lt_of_cell hp)).trans hp
theorem kcell {W w1 : World} (hb : Kp W w1) : (∀ b o, b < W.heap.size → w1.cell? ⟨b, o, none⟩ = W.cell? ⟨b, o, none⟩) ∧ (∀ b o, b < W.heap.size → w1.frozen? ⟨b, o, none⟩ = W.frozen? ⟨b, o, none⟩) :=
  ⟨fun b o h => Below.cell (p := ⟨b, o, none⟩) hb h, fun b o h => Below.frozen (p := ⟨b, o, none⟩) hb h⟩

theorem alloc_cell (w : World) (cs : Array Value) (t : TypeId) (i : Nat) {u : Value} (h : cs[i]? = some u) : (w.alloc (.cells cs t)).cell? ⟨w.heap.size, i, none⟩ = some u := (cell_of_row _ _ _ _ _ _ (heap_alloc_new w _)).trans h
theorem alloc_lt (w : World) (o : Obj) : w.heap.size < (w.alloc o).heap.size := by simp
theorem alloc_frozen (w : World) (cs : Array Value) (t : TypeId) (i : Nat) : (w.alloc (.cells cs t)).frozen? ⟨w.heap.size, i, none⟩ = false := frozen_of_row _ _ _ _ _ (heap_alloc_new w _)

/-! What a slice value reads as -/

/-- how the cells of one element read -/
abbrev Rd (α : Type) := World → List Value → α → Prop
/-- a reading that lives on while old blocks stay as they are -/
def Stable {α : Type} (R : Rd α) : Prop := ∀ w w' cs x, Kp w w' → R w cs x → R w' cs x

/-- a slice value reads as a list -/
def Sl {α : Type} (R : Rd α) (size : Nat) (w : World) (v : Value) (l : List α) : Prop :=
  ∃ (A : Option Addr) (c : Nat), v = .slice A l.length c ∧ l.length ≤ c ∧ c ≤ 9223372036854775807 ∧
    ∀ k (h : k < l.length), ∃ b o cs, A = some ⟨b, o, none⟩ ∧ b < w.heap.size ∧ cs.length = size ∧ (∀ j u, cs[j]? = some u → w.cell? ⟨b, o + k * size + j, none⟩ = some u) ∧ R w cs l[k]

section
variable {α : Type} {R : Rd α} {size : Nat} {w w' : World} {v : Value} {l : List α}
theorem Sl.keep (hR : Stable R) (h : Sl R size w v l) (hb : Kp w w') : Sl R size w' v l := by
  obtain ⟨A, c, rfl, h1, h2, h3⟩ := h
  refine ⟨A, c, rfl, h1, h2, fun k hk => ?_⟩
  obtain ⟨b, o, cs, hA, had, hcs, hc, hr⟩ := h3 k hk
  exact ⟨b, o, cs, hA, Nat.lt_of_lt_of_le had hb.size, hcs, fun j u hu => (hb.cell (p := ⟨b, o + k * size + j, none⟩) had).trans (hc j u hu), hR _ _ _ _ hb hr⟩
theorem Sl.form (h : Sl R size w v l) : ∃ A c, v = .slice A l.length c ∧ l.length ≤ c ∧ c ≤ 9223372036854775807 := by
  obtain ⟨A, c, rfl, h1, h2, -⟩ := h
  exact ⟨A, c, rfl, h1, h2⟩
theorem Sl.at_ {A : Option Addr} {n c : Nat} (h : Sl R size w (.slice A n c) l) {k : Nat} (hk : k < l.length) :
    ∃ b o cs, A = some ⟨b, o, none⟩ ∧ b < w.heap.size ∧ cs.length = size ∧ (∀ j u, cs[j]? = some u → w.cell? ⟨b, o + k * size + j, none⟩ = some u) ∧ R w cs l[k] := by
  obtain ⟨A', c', he, h1, h2, h3⟩ := h
  injection he with e1 e2 e3
  subst e1
  exact h3 k hk
theorem Sl.nil (R : Rd α) (size : Nat) (w : World) : Sl R size w (.slice none 0 0) [] := ⟨none, 0, rfl, Nat.le_refl _, by omega, fun k hk => absurd hk (by simp)⟩
theorem Sl.imp {β : Type} {S : Rd β} (f : α → β) (h : Sl R size w v l) (hi : ∀ cs x, R w cs x → S w cs (f x)) : Sl S size w v (l.map f) := by
  obtain ⟨A, c, rfl, h1, h2, h3⟩ := h
  refine ⟨A, c, by simp, by simpa using h1, h2, fun k hk => ?_⟩
  obtain ⟨b, o, cs, hA, had, hcs, hc, hr⟩ := h3 k (by simpa using hk)
  exact ⟨b, o, cs, hA, had, hcs, hc, by simpa using hi _ _ hr⟩
end

/-- one element, fresh -/
theorem Sl.one {α : Type} {R : Rd α} (w : World) (cs : List Value) (e : TypeId) (size : Nat) (x : α) (hl : cs.length = size) (hR : R (w.alloc (.cells cs.toArray e)) cs x) :
    Sl R size (w.alloc (.cells cs.toArray e)) (.slice (some ⟨w.heap.size, 0, none⟩) 1 1) [x] := by
  refine ⟨_, 1, rfl, Nat.le_refl _, by omega, fun k hk => ⟨w.heap.size, 0, cs, rfl, by simp, hl, fun j u hu => ?_, ?_⟩⟩
  · obtain rfl : k = 0 := by simpa using hk
    simp only [Nat.zero_mul, Nat.zero_add]
    exact alloc_cell w _ e j (by simpa using hu)
  · obtain rfl : k = 0 := by simpa using hk
    exact hR

/-! Elements without pointers -/

/-- cells that are a plain function of the element -/
def Pl {α : Type} (enc : α → List Value) : Rd α := fun _ cs x => cs = enc x
theorem pl_stable {α : Type} (enc : α → List Value) : Stable (Pl enc) := fun _ _ _ _ _ h => h
def flat {α : Type} (enc : α → List Value) (l : List α) : List Value := l.flatMap enc
theorem flat_nil {α : Type} (enc : α → List Value) : flat enc [] = [] := rfl
theorem flat_append {α : Type} (enc : α → List Value) (l m : List α) : flat enc (l ++ m) = flat enc l ++ flat enc m := by simp [flat]
theorem flat_one {α : Type} (enc : α → List Value) (x : α) : flat enc [x] = enc x := by simp [flat]
theorem flat_cons {α : Type} (enc : α → List Value) (x : α) (l : List α) : flat enc (x :: l) = enc x ++ flat enc l := by simp [flat]
theorem flat_length {α : Type} {enc : α → List Value} {size : Nat} (he : ∀ x, (enc x).length = size) (l : List α) : (flat enc l).length = l.length * size := by
  induction l with
  | nil => simp [flat]
  | cons x l ih => rw [flat_cons, List.length_append, he, ih, List.length_cons, Nat.add_mul, Nat.one_mul, Nat.add_comm]
theorem flat_get {α : Type} {enc : α → List Value} {size : Nat} (he : ∀ x, (enc x).length = size) : ∀ (l : List α) (k : Nat) (hk : k < l.length) (j : Nat), j < size → (flat enc l)[k * size + j]? = (enc l[k])[j]?
  | [], k, hk, _, _ => absurd hk (by simp)
  | x :: l, 0, _, j, hj => by
    rw [flat_cons, Nat.zero_mul, Nat.zero_add, List.getElem?_append_left (by rw [he]; exact hj)]
    rfl
  | x :: l, k + 1, hk, j, hj => by
    have h2 : (k + 1) * size + j = (enc x).length + (k * size + j) := by rw [he, Nat.add_mul, Nat.one_mul]; omega
    rw [flat_cons, h2, List.getElem?_append_right (by omega), Nat.add_sub_cancel_left, flat_get he l k (by simpa using hk) j hj]
    rfl
theorem flat_take {α : Type} {enc : α → List Value} {size : Nat} (he : ∀ x, (enc x).length = size) : ∀ (l : List α) (k : Nat), flat enc (l.take k) = (flat enc l).take (k * size)
  | [], k => by simp [flat]
  | x :: l, 0 => by simp [flat]
  | x :: l, k + 1 => by
    have h2 : (k + 1) * size = (enc x).length + k * size := by rw [he, Nat.add_mul, Nat.one_mul]; omega
    rw [List.take_succ_cons, flat_cons, flat_cons, flat_take he l k, h2, List.take_append, List.take_of_length_le (l := enc x) (by omega), Nat.add_sub_cancel_left]
theorem flat_drop {α : Type} {enc : α → List Value} {size : Nat} (he : ∀ x, (enc x).length = size) : ∀ (l : List α) (k : Nat), flat enc (l.drop k) = (flat enc l).drop (k * size)
  | [], k => by simp [flat]
  | x :: l, 0 => by simp [flat]
  | x :: l, k + 1 => by
    have h2 : (k + 1) * size = (enc x).length + k * size := by rw [he, Nat.add_mul, Nat.one_mul]; omega
    rw [List.drop_succ_cons, flat_cons, flat_drop he l k, h2, List.drop_append, List.drop_of_length_le (l := enc x) (by omega), Nat.add_sub_cancel_left]
    rfl

/-- the cells behind a plain slice -/
theorem Sl.flat_cells {α : Type} {enc : α → List Value} {size : Nat} {w : World} {b o n c : Nat} {sp : Option Nat} {l : List α} (he : ∀ x, (enc x).length = size) (hs : 0 < size)
    (h : Sl (Pl enc) size w (.slice (some ⟨b, o, sp⟩) n c) l) : ∀ j u, (flat enc l)[j]? = some u → w.cell? ((⟨b, o, sp⟩ : Addr).add j) = some u := by
  intro j u hu
  have hjl : j < l.length * size := by
    rw [← flat_length he l]
    exact (List.getElem?_eq_some_iff.1 hu).1
  have hk : j / size < l.length := (Nat.div_lt_iff_lt_mul hs).2 hjl
  obtain ⟨b', o', cs, hA, had, hcs, hc, hr⟩ := h.at_ hk
  simp only [Option.some.injEq, Addr.mk.injEq] at hA
  obtain ⟨rfl, rfl, rfl⟩ := hA
  unfold Pl at hr
  subst hr
  have hdm : j / size * size + j % size = j := by rw [Nat.mul_comm]; exact Nat.div_add_mod j size
  have hm : j % size < size := Nat.mod_lt _ hs
  have h1 := flat_get he l (j / size) hk (j % size) hm
  rw [hdm, hu] at h1
  have h2 := hc (j % size) u h1.symm
  rw [Nat.add_assoc, hdm] at h2
  unfold Addr.add
  split
  · rename_i h0
    subst h0
    simpa using h2
  · simpa using h2

/-! What a call owns -/

/-- the call owns the row of this slice, from block `base` on; it reads as the list -/
def Own {α : Type} (enc : α → List Value) (e size base : Nat) (w : World) (v : Value) (l : List α) : Prop := w.ownsRow base e size v l.length (flat enc l)

section
variable {α : Type} {enc : α → List Value} {e size base : Nat} {w w' : World} {v : Value} {l : List α}
theorem Own.nil (enc : α → List Value) (e size base : Nat) (w : World) : Own enc e size base w (.slice none 0 0) [] := World.ownsRow_nil _ _ _ _
theorem Own.sl (he : ∀ x, (enc x).length = size) (h : Own enc e size base w v l) : Sl (Pl enc) size w v l := by
  have h' := h
  rcases h.2 with ⟨rfl, h0⟩ | ⟨g, cap, cur, rfl, hb, hg, hn, hm, hs, ht⟩
  · have : l = [] := List.eq_nil_of_length_eq_zero h0
    subst this
    exact Sl.nil _ _ _
  · refine ⟨some ⟨g, 0, none⟩, cap, rfl, hn, by unfold maxLen at hm; exact hm, fun k hk => ⟨g, 0, enc l[k], rfl, (Array.getElem?_eq_some_iff.1 hg).1, he _, fun j u hu => ?_, rfl⟩⟩
    have hj : j < size := by rw [← he l[k]]; exact (List.getElem?_eq_some_iff.1 hu).1
    have h1 := World.ownsRow.cells h' (g := g) rfl (k * size + j) u (by rw [flat_get he l k hk j hj]; exact hu)
    unfold Addr.add at h1
    split at h1
    · rename_i h0; simpa [h0] using h1
    · simpa using h1
theorem Own.kp (h : Own enc e size base w v l) (hb : Kp w w') : Own enc e size base w' v l :=
  World.ownsRow.kept (row := none) h ⟨hb.os, hb.tape, hb.output, hb.size, fun k hk _ => hb.block hk⟩ (by cases v.ownBlock <;> simp)
theorem Own.alloc (h : Own enc e size base w v l) (o : Obj) : Own enc e size base (w.alloc o) v l := World.ownsRow.alloc h o
theorem Own.drew (h : Own enc e size base w v l) : Own enc e size base w.drew v l := World.ownsRow.drew h
theorem Own.drewN (h : Own enc e size base w v l) (n : Nat) : Own enc e size base (w.drewN n) v l := h
theorem Own.less {base' : Nat} (h : Own enc e size base w v l) (hb : base' ≤ base) : Own enc e size base' w v l := by
  refine ⟨h.1, ?_⟩
  rcases h.2 with h0 | ⟨g, cap, cur, h1, h2, h3⟩
  · exact .inl h0
  · exact .inr ⟨g, cap, cur, h1, by omega, h3⟩
theorem Own.ge (h : Own enc e size base w v l) : ∀ k, v.ownBlock = some k → base ≤ k := fun k hk => (World.ownsRow.lt h k hk).1
theorem Own.bound (h : Own enc e size base w v l) : l.length ≤ 9223372036854775807 := by
  rcases h.2 with ⟨rfl, h0⟩ | ⟨g, cap, cur, rfl, hb, hg, hn, hm, _⟩
  · omega
  · unfold maxLen at hm; omega
theorem Own.form (h : Own enc e size base w v l) : ∃ A c, v = .slice A l.length c ∧ l.length ≤ c ∧ c ≤ 9223372036854775807 := by
  rcases h.2 with ⟨rfl, h0⟩ | ⟨g, cap, cur, rfl, hb, hg, hn, hm, _⟩
  · exact ⟨none, 0, by rw [h0], by omega, by omega⟩
  · exact ⟨_, _, rfl, hn, by unfold maxLen at hm; exact hm⟩
/-- an owned slice with elements: its row -/
theorem Own.row (h : Own enc e size base w v l) (hl : 0 < l.length) : ∃ g c, v = .slice (some ⟨g, 0, none⟩) l.length c ∧ l.length ≤ c ∧ c ≤ 9223372036854775807 ∧ base ≤ g ∧ g < w.heap.size := by
  rcases h.2 with ⟨rfl, h0⟩ | ⟨g, cap, cur, rfl, hb, hg, hn, hm, _⟩
  · omega
  · exact ⟨g, cap, rfl, hn, by unfold maxLen at hm; exact hm, hb, (Array.getElem?_eq_some_iff.1 hg).1⟩
/-- a fresh literal -/
theorem Own.lit (enc : α → List Value) {e size base : Nat} (w : World) (cs : Array Value) (l : List α) (hb : base ≤ w.heap.size) (hm : l.length ≤ 9223372036854775807) (hs : cs.size = l.length * size) (hc : cs.toList = flat enc l) :
    Own enc e size base (w.alloc (.cells cs e)) (.slice (some ⟨w.heap.size, 0, none⟩) l.length l.length) l := by
  unfold Own
  rw [← hc]
  exact World.ownsRow_lit w cs l.length hb (by unfold maxLen; exact hm) hs
theorem flat_set (he : ∀ x, (enc x).length = size) : ∀ (l : List α) (k : Nat) (x : α) (j : Nat) (u : Value), k < l.length → j < size → (∀ hk : k < l.length, (enc l[k]).set j u = enc x) → (flat enc l).set (k * size + j) u = flat enc (l.set k x)
  | [], _, _, _, _, hk, _, _ => absurd hk (by simp)
  | y :: l, 0, x, j, u, _, hj, h => by
    have h1 : (enc y).set j u = enc x := h (by simp)
    rw [List.set_cons_zero, flat_cons, flat_cons, Nat.zero_mul, Nat.zero_add, List.set_append, if_pos (by rw [he]; exact hj), h1]
  | y :: l, k + 1, x, j, u, hk, hj, h => by
    have h2 : (k + 1) * size + j = size + (k * size + j) := by rw [Nat.add_mul, Nat.one_mul]; omega
    rw [List.set_cons_succ, flat_cons, flat_cons, h2, List.set_append, if_neg (by rw [he]; omega), he y, Nat.add_sub_cancel_left, flat_set he l k x j u (by simpa using hk) hj (fun hk' => h (by simpa using hk'))]
/-- a store of one cell of an element -/
theorem Own.set {g c k j : Nat} {u : Value} {x : α} (he : ∀ x, (enc x).length = size) (h : Own enc e size base w (.slice (some ⟨g, 0, none⟩) l.length c) l) (hk : k < l.length) (hj : j < size)
    (hx : ∀ hk : k < l.length, (enc l[k]).set j u = enc x) : Own enc e size base (w.setCell ⟨g, k * size + j, none⟩ u) (.slice (some ⟨g, 0, none⟩) l.length c) (l.set k x) := by
  have h1 := (World.ownsRow.stored h (k * size + j) u).1
  rw [flat_set he l k x j u hk hj hx] at h1
  unfold Own
  rw [List.length_set]
  exact h1
theorem Own.frozen {g n c : Nat} (h : Own enc e size base w (.slice (some ⟨g, 0, none⟩) n c) l) (hn : n = l.length) (j : Nat) : w.frozen? ⟨g, j, none⟩ = false := by
  subst hn
  exact World.ownsRow.frozenAt h j
theorem Own.cellAt {g n c : Nat} (he : ∀ x, (enc x).length = size) (h : Own enc e size base w (.slice (some ⟨g, 0, none⟩) n c) l) (hn : n = l.length) {k j : Nat} (hk : k < l.length) (hj : j < size) :
    w.cell? ⟨g, k * size + j, none⟩ = (enc l[k])[j]? := by
  subst hn
  rw [World.ownsRow.cellAt h (k * size + j) (by
    have : k * size + j < (k + 1) * size := by rw [Nat.add_mul, Nat.one_mul]; omega
    exact Nat.lt_of_lt_of_le this (Nat.mul_le_mul_right _ hk)), flat_get he l k hk j hj]
end

/-- a slice type's facts -/
structure SliceT (P : Program) (t e size bytes : Nat) : Prop where
  ht : P.underlying t = some (.slice e)
  info : ∃ i z, P.info? e = some i ∧ i.zero = some z ∧ i.size = size ∧ i.bytes = bytes ∧ z.cells.size = size
  pos : 0 < size
theorem SliceT.mk' {P : Program} {t e size bytes : Nat} {z : Value} (ht : P.underlying t = some (.slice e)) (h : (P.info? e).map (fun i => (i.zero, i.size, i.bytes)) = some (some z, size, bytes)) (hz : z.cells.size = size) (hp : 0 < size) : SliceT P t e size bytes := by
  obtain ⟨i, h1, h2, h3, h4⟩ := info_parts h
  exact ⟨ht, ⟨i, z, h1, h2, h3, h4, hz⟩, hp⟩

section
variable {P : Program} {α : Type} {enc : α → List Value} {e size bytes base t : Nat} {w : World} {v : Value} {l : List α}
/-- an append of a plain slice onto a row of the call's own: what runs -/
theorem run_append_flat (hT : SliceT P t e size bytes) (he : ∀ x, (enc x).length = size) (h1 : ∀ x, ∀ u ∈ enc x, u.oneCell' = true) (ty : TypeId) (hown : Own enc e size base w v l)
    {v2 : Value} {m : List α} (hsrc : Sl (Pl enc) size w v2 m) (hlen : l.length + m.length ≤ 4611686018427387904) (hby : (l.length + m.length) * bytes ≤ 140737488355328) (hbase : base ≤ w.heap.size) :
    ∃ v' w', (Builtin.append_ #[t, t] ty #[v, v2]).run P w = .ok v' w' ∧ Own enc e size base w' v' (l ++ m) ∧ w.grownBy w' v.ownBlock ∧ (v'.ownBlock = v.ownBlock ∨ v'.ownBlock = some w.heap.size) ∧ (v' = .slice none 0 0 ↔ v = .slice none 0 0 ∧ m.length = 0) := by
  obtain ⟨i, z, hi, hz, hs, hb, hzs⟩ := hT.info
  obtain ⟨A, c, rfl, hc1, hc2⟩ := hsrc.form
  have hx1 : ∀ u ∈ flat enc m, u.oneCell' = true := by
    intro u hu
    obtain ⟨x, _, hxu⟩ := List.mem_flatMap.1 hu
    exact h1 x u hxu
  rcases A with _ | ⟨b, o, sp⟩
  · have hm : m = [] := by
      cases m with
      | nil => rfl
      | cons x m =>
        obtain ⟨_, _, _, hA, _⟩ := hsrc.at_ (k := 0) (by simp)
        cases hA
    subst hm
    have hr : (Builtin.append_ #[t, t] ty #[v, .slice none 0 c]).run P w = .ok v w := by
      rcases hown.2 with ⟨rfl, h0⟩ | ⟨g, cap, cur, rfl, _, _, hnc, _⟩
      · simp [Builtin.append_, run_underlying hT.ht, sizeOf, typeInfo, hi, Builtin.lenOf, Builtin.firstCells]
      · simp [Builtin.append_, run_underlying hT.ht, sizeOf, typeInfo, hi, Builtin.lenOf, Builtin.firstCells, hnc, storeCells]
    exact ⟨v, w, hr, by simpa using hown, World.grownBy.refl w _, .inl rfl, by simp⟩
  · obtain ⟨v', w', hr, h2, h3, h4, h5⟩ := run_append_own_at (P := P) w base t ty e i z size bytes hT.ht hi hz hs hb hzs hT.pos v l.length (flat enc l) hown ⟨b, o, sp⟩ m.length c (flat enc m) (flat_length he m) (hsrc.flat_cells he hT.pos) hx1
      (by unfold maxLen; omega) hby hbase
    refine ⟨v', w', hr, ?_, h3, h5, h4⟩
    unfold Own
    rw [List.length_append, flat_append]
    exact h2
/-- .. at the operation -/
theorem wpl_append_flat {ops : Array Oper} {rest : List Oper} {o : Oper} {a : Act} {Q : Exit → Act → World → Prop} (hgd : o.guard = none) (s x : Operand)
    (ho : o.op = .call { callee := .builtin .append, args := #[s, x], argTypes := #[t, t] }) (hT : SliceT P t e size bytes) (he : ∀ x, (enc x).length = size) (h1 : ∀ x, ∀ u ∈ enc x, u.oneCell' = true)
    (hs : a.eval s = v) (hown : Own enc e size base w v l)
    {v2 : Value} {m : List α} (hx : a.eval x = v2) (hsrc : Sl (Pl enc) size w v2 m) (hlen : l.length + m.length ≤ 4611686018427387904) (hby : (l.length + m.length) * bytes ≤ 140737488355328) (hbase : base ≤ w.heap.size)
    (h : ∀ v' w', Own enc e size base w' v' (l ++ m) → w.grownBy w' v.ownBlock → (v'.ownBlock = v.ownBlock ∨ v'.ownBlock = some w.heap.size) → (v' = .slice none 0 0 ↔ v = .slice none 0 0 ∧ m.length = 0) → wpList P ops Q rest (a.put o.dst v') w') : wpList P ops Q (o :: rest) a w := by
  refine wpList_plain hgd fun K hK => ?_
  obtain ⟨v', w', hr, h2, h3, h4, h5⟩ := run_append_flat hT he h1 o.type hown hsrc hlen hby hbase
  unfold Oper.wp execOp
  simp only [ho, resolve, invoke, builtin, Sem.run_bind, Sem.run_pure, Result.andThen_ok, List.map_toArray, List.map_cons, List.map_nil, hs, hx, hr]
  exact hK _ _ (h v' w' h2 h3 h4 h5)
end

/-! Kinds of elements -/

def encInt (n : Int) : List Value := [.int .i64 n]
theorem encInt_len (n : Int) : (encInt n).length = 1 := rfl
theorem encInt_one (n : Int) : ∀ u ∈ encInt n, u.oneCell' = true := by simp [encInt, Value.oneCell']
def encBool (b : Bool) : List Value := [.bool b]
theorem encBool_len (n : Bool) : (encBool n).length = 1 := rfl
theorem encBool_one (n : Bool) : ∀ u ∈ encBool n, u.oneCell' = true := by simp [encBool, Value.oneCell']
abbrev Ints := Sl (Pl encInt) 1
abbrev Bools := Sl (Pl encBool) 1
theorem Sl.ints {w : World} {A : Option Addr} {n c : Nat} {l : List Int} (h : Ints w (.slice A n c) l) {k : Nat} (hk : k < l.length) :
    ∃ b o, A = some ⟨b, o, none⟩ ∧ b < w.heap.size ∧ w.cell? ⟨b, o + k, none⟩ = some (.int .i64 l[k]) := by
  obtain ⟨b, o, cs, hA, had, hcs, hc, hr⟩ := h.at_ hk
  unfold Pl encInt at hr
  subst hr
  exact ⟨b, o, hA, had, by simpa using hc 0 _ rfl⟩
theorem Sl.bools {w : World} {A : Option Addr} {n c : Nat} {l : List Bool} (h : Bools w (.slice A n c) l) {k : Nat} (hk : k < l.length) :
    ∃ b o, A = some ⟨b, o, none⟩ ∧ b < w.heap.size ∧ w.cell? ⟨b, o + k, none⟩ = some (.bool l[k]) := by
  obtain ⟨b, o, cs, hA, had, hcs, hc, hr⟩ := h.at_ hk
  unfold Pl encBool at hr
  subst hr
  exact ⟨b, o, hA, had, by simpa using hc 0 _ rfl⟩

/-! only one block, and what is new, has changed -/
def Kg (w w' : World) (g : Nat) : Prop := w.grownBy w' (some g)
theorem Kg.refl (w : World) (g : Nat) : Kg w w g := World.grownBy.refl w _
theorem Kg.size {w w' : World} {g : Nat} (h : Kg w w' g) : w.heap.size ≤ w'.heap.size := World.grownBy.size h
theorem Kg.trans {a b c : World} {g : Nat} (h : Kg a b g) (k : Kg b c g) : Kg a c g := World.grownBy.trans h k
theorem Kp.kg {w w' : World} (h : Kp w w') (g : Nat) : Kg w w' g := ⟨h.os, h.tape, h.output, h.size, fun _ hk _ => h.block hk⟩
theorem Kg.kp {a b c : World} {g : Nat} (h : Kg a b g) (k : Kp b c) : Kg a c g := h.trans (k.kg g)
theorem Kg.alloc {a w : World} {g : Nat} (h : Kg a w g) (o : Obj) : Kg a (w.alloc o) g := h.kp ((Kp.refl w).alloc o)
theorem Kg.drewN {a w : World} {g : Nat} (h : Kg a w g) (n : Nat) : Kg a (w.drewN n) g := h.kp ((Kp.refl w).drewN n)
theorem Kg.set {a w : World} {g : Nat} (h : Kg a w g) {p : Addr} (hp : p.block = g ∨ a.heap.size ≤ p.block) (u : Value) : Kg a (w.setCell p u) g :=
  ⟨h.os, h.tape, h.output, by simpa [World.setCell] using World.grownBy.size h, fun i hi hne => (Below.heap_setCell w p u i (by
    rintro rfl
    rcases hp with hp | hp
    · exact hne (by rw [hp])
    · omega)).trans (World.grownBy.block h i hi hne)⟩
theorem Kg.cellS {w w' : World} {g : Nat} (h : Kg w w' g) {p : Addr} {v : Value} (hp : w.cell? p = some v) (hne : p.block ≠ g) : w'.cell? p = some v :=
  (World.cell?_of_block (World.grownBy.block h p.block (block_lt_of_cell hp) (by simpa using hne))).trans hp
theorem Kg.to_kp {a b c : World} {g : Nat} (h : Kp a b) (k : Kg b c g) (hg : a.heap.size ≤ g) : Kp a c := h.grown k (fun i hi => by injection hi with hi; omega)

/-! owned rows of integers -/
theorem Own.at_ {α : Type} {enc : α → List Value} {e size base : Nat} {w : World} {A : Option Addr} {n c : Nat} {l : List α} (h : Own enc e size base w (.slice A n c) l) (hl : 0 < l.length) :
    ∃ g, A = some ⟨g, 0, none⟩ ∧ base ≤ g ∧ g < w.heap.size := by
  obtain ⟨g, c', he, _, _, hb, hg⟩ := h.row hl
  injection he with e1 _ _
  exact ⟨g, e1, hb, hg⟩
section
variable {e base : Nat} {w : World} {g n c : Nat}
theorem Own.intCell {l : List Int} (h : Own encInt e 1 base w (.slice (some ⟨g, 0, none⟩) n c) l) (hn : n = l.length) {k : Nat} (hk : k < l.length) : w.cell? ⟨g, k, none⟩ = some (.int .i64 l[k]) := by
  have := h.cellAt encInt_len hn hk (j := 0) (by omega)
  simpa [encInt] using this
theorem Own.intSet {l : List Int} (h : Own encInt e 1 base w (.slice (some ⟨g, 0, none⟩) n c) l) (hn : n = l.length) {k : Nat} (hk : k < l.length) (x : Int) :
    Own encInt e 1 base (w.setCell ⟨g, k, none⟩ (.int .i64 x)) (.slice (some ⟨g, 0, none⟩) n c) (l.set k x) := by
  subst hn
  have := Own.set (k := k) (j := 0) (u := .int .i64 x) (x := x) encInt_len h hk (by omega) (fun _ => rfl)
  simpa using this
theorem Own.boolCell {l : List Bool} (h : Own encBool e 1 base w (.slice (some ⟨g, 0, none⟩) n c) l) (hn : n = l.length) {k : Nat} (hk : k < l.length) : w.cell? ⟨g, k, none⟩ = some (.bool l[k]) := by
  have := h.cellAt encBool_len hn hk (j := 0) (by omega)
  simpa [encBool] using this
theorem Own.boolSet {l : List Bool} (h : Own encBool e 1 base w (.slice (some ⟨g, 0, none⟩) n c) l) (hn : n = l.length) {k : Nat} (hk : k < l.length) (x : Bool) :
    Own encBool e 1 base (w.setCell ⟨g, k, none⟩ (.bool x)) (.slice (some ⟨g, 0, none⟩) n c) (l.set k x) := by
  subst hn
  have := Own.set (k := k) (j := 0) (u := .bool x) (x := x) encBool_len h hk (by omega) (fun _ => rfl)
  simpa using this
end

/-! A function value that is called -/
/-- a function with a body of its own -/
def Real (P : Program) (F : FuncId) : Prop := ∃ fn, P.funcs[F]? = some fn ∧ (fn.name == "runtime.NumGoroutine") = false ∧ fn.body.isNone = false
theorem Real.run {P : Program} {F : FuncId} (h : Real P F) (args : Array Value) (w : World) : (callFunc F args).run P w = .ok (.enter F args) w := by
  obtain ⟨fn, h1, h2, h3⟩ := h
  unfold callFunc
  simp only [Sem.run_bind, run_program, Result.andThen_ok, h1, h2, h3]
  rfl

/-! Statements whose order is open: reads, and calls that only make new memory; then, if there is one, a forced end -/

open Classical in
/-- some world behind w that keeps what is there -/
noncomputable def Kw (w u : World) : World := if Kp w u then u else w
theorem kw_kp (w u : World) : Kp w (Kw w u) := by
  unfold Kw
  split
  · assumption
  · exact Kp.refl w
theorem kw_of {w w' : World} (h : Kp w w') : ∃ u, w' = Kw w u := ⟨w', by unfold Kw; rw [if_pos h]⟩
theorem kw_cell (w u : World) (b o : Nat) (h : b < w.heap.size) : (Kw w u).cell? ⟨b, o, none⟩ = w.cell? ⟨b, o, none⟩ := (kcell (kw_kp w u)).1 b o h
theorem kw_frozen (w u : World) (b o : Nat) (h : b < w.heap.size) : (Kw w u).frozen? ⟨b, o, none⟩ = w.frozen? ⟨b, o, none⟩ := (kcell (kw_kp w u)).2 b o h
attribute [go_sem] kw_cell kw_frozen
theorem quiet_kw {P : Program} {f : FuncId} {args : Array Value} {w u : World} {v : Value} (h : Calls P f args (Kw w u) fun e w' => e = .returned v ∧ Kp (Kw w u) w') :
    Calls P f args (Kw w u) fun e w'' => e = .returned v ∧ ∃ u', w'' = Kw w u' :=
  h.mono fun _ _ ⟨he, hk⟩ => ⟨he, kw_of ((kw_kp w u).trans hk)⟩

section
variable {P : Program} {ops : Array Oper} {md : Region.Mode} {C : World → Prop}
theorem wp_region_kw {id : Nat} {Q : Exit → Act → World → Prop} {a : Act} {w : World} {l : List Oper} (hm : P.follows .mixedOrders = true) (hB : Region.lexB .any l.toArray = true)
    (h : wpQuiet P l.toArray (fun w' => ∃ u, w' = Kw w u) (fun a' => ∀ w', (∃ u, w' = Kw w u) → Q .normal a' w') l a) : (Code.region id l.toArray true).wp P Q a w :=
  wp_region_quiet (C := fun w' => ∃ u, w' = Kw w u) hm hB (kw_of (Kp.refl w).drew) (by simpa using h)

def wpAnyLQ (P : Program) (md : Region.Mode) (ops : Array Oper) (C : World → Prop) (n : Nat) (L : Array Bool → Act → Prop) : Nat → Array Bool → Act → Prop
  | 0, listed, a => L listed a
  | f + 1, listed, a =>
    Region.ready md ops listed ≠ [] ∧ ∀ i ∈ Region.ready md ops listed, i < n ∧ qOp P ops C i (wpAnyLQ P md ops C n L f (listed.setIfInBounds i true)) a
theorem wpAnyQ_of_head {n g : Nat} {L : Array Bool → Act → Prop} {Q' : Exit → Act → World → Prop} (hL : ∀ listed a w, C w → L listed a → wpAny P md ops Q' g listed a w) :
    ∀ (f : Nat) (listed : Array Bool) (a : Act) (w : World), C w → wpAnyLQ P md ops C n L f listed a → wpAny P md ops Q' (f + g) listed a w
  | 0, listed, a, w, hw, h => by rw [Nat.zero_add]; exact hL _ _ _ hw h
  | f + 1, listed, a, w, hw, h => by
    rw [show f + 1 + g = (f + g) + 1 by omega]
    exact ⟨fun h0 => absurd h0 h.1, fun i hi => wpOp_of_qOp hw (fun a' w' hw' h' => wpAnyQ_of_head hL f _ a' w' hw' h') (h.2 i hi).2⟩
theorem wpAnyLQ_first {n i : Nat} {oi : Oper} {v : Value} {L : Array Bool → Act → Prop} (hi : ops[i]? = some oi) (hsel : ∀ (j : Nat) (o : Oper) cs b, ops[j]? = some o → o.op ≠ .select cs b)
    (hs : Region.sinkB md ops n = true) (hc : Region.chainB md ops n = true) (hn : n < ops.size) (hin : i < n)
    (hdone : ∀ listed a, L listed a → ∀ j ∈ Region.ready md ops listed, n ≤ j) :
    ∀ (f : Nat) (listed : Array Bool) (a : Act), HeadInv md ops n listed →
      (∀ j oj, ops[j]? = some oj → j ≠ i → listed.getD j true = false → (∀ e ∈ oj.after, Region.binds md e = true → e.on ≠ i) → oi.apart ops oj = true) →
      i ∈ Region.ready md ops listed → YieldsIn P ops C oi v a →
      wpAnyLQ P md ops C n L f (listed.setIfInBounds i true) (a.put oi.dst v) → wpAnyLQ P md ops C n L (f + 1) listed a := by
  intro f
  induction f with
  | zero =>
    intro listed a inv _ hr hy H
    have hun := (mem_ready.1 hr).1
    refine ⟨fun h => (by rw [h] at hr; cases hr), fun j hj => ?_⟩
    have hjn : j < n := by
      rcases Nat.lt_or_ge j n with h | h
      · exact h
      · exact absurd hj (tail_waits hs hc hn inv _ i rfl hin hun j h)
    refine ⟨hjn, ?_⟩
    by_cases hji : j = i
    · subst hji; exact hy.qOp hi H
    · have := hdone _ _ H j (ready_mono hj hji)
      omega
  | succ f ih =>
    intro listed a inv hfree hr hy H
    have hun := (mem_ready.1 hr).1
    refine ⟨fun h => (by rw [h] at hr; cases hr), fun j hj => ?_⟩
    have hjn : j < n := by
      rcases Nat.lt_or_ge j n with h | h
      · exact h
      · exact absurd hj (tail_waits hs hc hn inv _ i rfl hin hun j h)
    refine ⟨hjn, ?_⟩
    by_cases hji : j = i
    · subst hji; exact hy.qOp hi H
    · have h1 := (H.2 j (ready_mono hj hji)).2
      obtain ⟨hjun, oj, hoj, hall⟩ := mem_ready.1 hj
      have hnot : ∀ e ∈ oj.after, Region.binds md e = true → e.on ≠ i := fun e he hb heq => by
        have h1 := hall e he hb
        rw [heq, getD_both hun] at h1
        cases h1
      have h2 := qOp_put hoj (hfree j oj hoj hji hjun hnot) (fun cs b => hsel i oi cs b hi) (fun cs b => hsel j oj cs b hoj) hy h1
      have hfree' : ∀ k ok, ops[k]? = some ok → k ≠ i → (listed.setIfInBounds j true).getD k true = false →
          (∀ e ∈ ok.after, Region.binds md e = true → e.on ≠ i) → oi.apart ops ok = true := fun k ok hk hki hun hno => by
        refine hfree k ok hk hki ?_ hno
        by_cases hjk : j = k
        · subst hjk; exact hjun
        · rw [getD_set_ne true hjk] at hun; exact hun
      refine qOp_mono (fun a' h3 => ih (listed.setIfInBounds j true) a' (inv.set hj hjn) hfree' (ready_mono hr (Ne.symm hji)) h3.1 ?_) h2
      rw [Array.setIfInBounds_comm _ _ hji]
      exact h3.2
theorem wpAnyLQ_lex {n g : Nat} {Lq : Act → Prop} (hsel : Region.noSelect ops = true) (hs : Region.sinkB md ops n = true) (hc : Region.chainB md ops n = true) (hn : n < ops.size) :
    ∀ (l : List Oper) (k : Nat) (listed : Array Bool) (a : Act), (∀ j, j < l.length → l[j]? = ops[k + j]?) → k + l.length = n → HeadInv md ops n listed →
    Region.lexHead md ops g l.length k listed = true → wpQuiet P ops C Lq l a →
    wpAnyLQ P md ops C n (fun listed' a' => Region.seqB md ops g n listed' = true ∧ Lq a') l.length listed a
  | [], k, listed, a, _, hk, _, hB, h => by
    have : k = n := by simpa using hk
    subst this
    exact ⟨by simpa [Region.lexHead] using hB, h⟩
  | o :: l, k, listed, a, hl, hk, inv, hB, h => by
    have h0 : ops[k]? = some o := by simpa using (hl 0 (by simp)).symm
    simp only [List.length_cons, Region.lexHead, Bool.and_eq_true] at hB
    obtain ⟨⟨hr, hf⟩, hB'⟩ := hB
    have hkn : k < n := by simp only [List.length_cons] at hk; omega
    have hr' : k ∈ Region.ready md ops listed := by simpa using hr
    have hst : qOp P ops C k (wpQuiet P ops C Lq l) a := by unfold qOp; simp only [h0]; exact h
    obtain ⟨v, hy, hK⟩ := yieldsIn_of_qOp h0 hst
    exact wpAnyLQ_first h0 (Region.noSelect_spec hsel) hs hc hn hkn (fun listed' a' hL => seqB_ready hL.1) l.length listed a inv (Region.free_spec h0 hf) hr' hy
      (wpAnyLQ_lex hsel hs hc hn l (k + 1) _ _ (fun j hj => by have := hl (j + 1) (by simp; omega); simpa [Nat.add_assoc, Nat.add_comm 1 j] using this) (by simp only [List.length_cons] at hk; omega) (inv.set hr' hkn) hB' hK)
theorem wp_region_kw_tail {id : Nat} {Q : Exit → Act → World → Prop} {a : Act} {w : World} {l : List Oper} (n : Nat) (hm : P.follows .mixedOrders = true) (hB : Region.lexTailB .any l.toArray n = true)
    (h : wpQuiet P l.toArray (fun w' => ∃ u, w' = Kw w u) (fun a' => ∀ w', (∃ u, w' = Kw w u) → wpList P l.toArray Q (l.drop n) a' w') (l.take n) a) : (Code.region id l.toArray true).wp P Q a w := by
  simp only [Region.lexTailB, Bool.and_eq_true, decide_eq_true_eq] at hB
  obtain ⟨⟨⟨⟨hsel, hn⟩, hs⟩, hc⟩, hlex⟩ := hB
  have hn' : n < l.length := by simpa using hn
  have htl : (l.take n).length = n := by simp; omega
  have hdl : (l.drop n).length = l.toArray.size - n := by simp
  have inv0 : HeadInv .any l.toArray n (Array.replicate l.toArray.size false) :=
    ⟨by simp, fun j oj _ hl => (by rw [getD_replicate_false] at hl; cases hl), fun t _ ht => getD_in (by simpa using ht) (getD_replicate_false _ _)⟩
  have H := wpAnyLQ_lex (md := .any) (g := l.toArray.size - n) hsel hs hc hn (l.take n) 0 _ a (fun j hj => by
    have hj' : j < n := by rw [htl] at hj; exact hj
    simp [hj']) (by simpa using htl) inv0 (by rw [htl]; exact hlex) h
  refine wp_region_any hm ?_
  have := wpAnyQ_of_head (Q' := Q) (g := l.toArray.size - n) (fun listed a' w' hw' hL => by
    have := wpAny_of_seq (md := .any) (Q' := Q) (l.drop n) n listed a' w' (fun j => by simp [List.getElem?_drop]) (by rw [hdl]; exact hL.1) (hL.2 w' hw')
    rwa [hdl] at this) _ _ _ _ (kw_of (Kp.refl w).drew) H
  rw [htl, show n + (l.toArray.size - n) = l.toArray.size by omega] at this
  exact this
end
end Go.Proofs.Ytcddllaljgfjbaa
