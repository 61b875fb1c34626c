/-
The reader's memory: its two cells; what a call of it keeps; how what is read answers to a parser; where a result lies.
The reader: a number, a bool, several numbers into the fields of a struct.
The reader: several numbers into the fields of a struct.
The reader: structs without lists.
-/
import Derived.Test.YtmokpnkpfodppaaBA
namespace Go.Proofs.Ytmokpnkpfodppaa
set_option linter.unusedSimpArgs false
set_option linter.unusedVariables false
open Go.RowKit

/-! how what is read answers to a parser -/
/-- from the numbers l, with the flag bad, x was read, and l' and bad' are left -/
def SpecP {α : Type} (P : Ps α) (l : List Int) (bad : Bool) (x : α) (l' : List Int) (bad' : Bool) : Prop :=
  if bad then bad' = true else match P l with | none => bad' = true | some (y, l1) => bad' = false ∧ x = y ∧ l' = l1
theorem SpecP.bind {α β : Type} {P : Ps α} {Q : α → Ps β} {l l1 l2 : List Int} {b b1 b2 : Bool} {x : α} {y : β} (h1 : SpecP P l b x l1 b1) (h2 : SpecP (Q x) l1 b1 y l2 b2) : SpecP (bindP P Q) l b y l2 b2 := by
  unfold SpecP bindP at *
  cases b with
  | true =>
    simp only [if_pos] at h1 ⊢
    subst h1
    simpa using h2
  | false =>
    simp only [Bool.false_eq_true, if_false] at h1 ⊢
    cases hP : P l with
    | none =>
      rw [hP] at h1
      dsimp only at h1 ⊢
      subst h1
      simpa using h2
    | some q =>
      obtain ⟨y1, l3⟩ := q
      rw [hP] at h1
      dsimp only at h1 ⊢
      obtain ⟨rfl, rfl, rfl⟩ := h1
      simpa using h2
theorem SpecP.ret {α : Type} (x : α) (l : List Int) (b : Bool) : SpecP (retP x) l b x l b := by
  unfold SpecP retP
  cases b <;> simp
theorem bindP_assoc {α β γ : Type} (P : Ps α) (Q : α → Ps β) (R : β → Ps γ) : bindP (bindP P Q) R = bindP P fun x => bindP (Q x) R := by
  funext l
  unfold bindP
  cases P l with
  | none => rfl
  | some q => rfl
theorem bindP_retP {α β : Type} (x : α) (Q : α → Ps β) : bindP (retP x) Q = Q x := rfl
theorem SpecP.of_eq {α : Type} {P Q : Ps α} (h : Q = P) {l l' : List Int} {b b' : Bool} {x : α} (hs : SpecP P l b x l' b') : SpecP Q l b x l' b' := h ▸ hs

/-! where a result lies -/
/-- what R says lies in the blocks from base up to top -/
def Ow (base top : Nat) (w : World) (R : World → Prop) : Prop := ∀ w' : World, w.heap.size ≤ w'.heap.size → (∀ k, base ≤ k → k < top → w'.heap[k]? = w.heap[k]?) → R w'
theorem Ow.here {base top : Nat} {w : World} {R : World → Prop} (h : Ow base top w R) : R w := h w (Nat.le_refl _) fun _ _ _ => rfl
theorem Ow.wide {base top base' top' : Nat} {w : World} {R : World → Prop} (h : Ow base top w R) (hb : base' ≤ base) (ht : top ≤ top') : Ow base' top' w R :=
  fun w' h1 h2 => h w' h1 fun k hk hk2 => h2 k (Nat.le_trans hb hk) (Nat.lt_of_lt_of_le hk2 ht)
theorem Ow.step {base top : Nat} {w w' : World} {R : World → Prop} (h : Ow base top w R) (h1 : w.heap.size ≤ w'.heap.size) (h2 : ∀ k, base ≤ k → k < top → w'.heap[k]? = w.heap[k]?) : Ow base top w' R :=
  fun w2 h3 h4 => h w2 (Nat.le_trans h1 h3) fun k hk hk2 => (h4 k hk hk2).trans (h2 k hk hk2)
theorem Ow.imp {base top : Nat} {w : World} {R S : World → Prop} (h : Ow base top w R) (hi : ∀ w', R w' → S w') : Ow base top w S := fun w' h1 h2 => hi w' (h w' h1 h2)
theorem Ow.and {base top : Nat} {w : World} {R S : World → Prop} (h : Ow base top w R) (h' : Ow base top w S) : Ow base top w fun w' => R w' ∧ S w' := fun w' h1 h2 => ⟨h w' h1 h2, h' w' h1 h2⟩
theorem Ow.pure {base top : Nat} {w : World} {p : Prop} (h : p) : Ow base top w fun _ => p := fun _ _ _ => h
theorem Ow.kg {base top g : Nat} {w w' : World} {R : World → Prop} (h : Ow base top w R) (hk : Kg w w' g) (hg : g < base) (ht : top ≤ w.heap.size) : Ow base top w' R :=
  h.step hk.size fun k hb hk2 => hk.block k (by omega) (by simp; omega)
/-- a row of its own -/
theorem Own.ow {α : Type} {enc : α → List Value} {e size base : Nat} {w : World} {v : Value} {l : List α} (h : Own enc e size base w v l) : Ow base w.heap.size w fun w' => Own enc e size base w' v l := by
  intro w' h1 h2
  unfold Own World.ownsRow at *
  refine ⟨h.1, ?_⟩
  rcases h.2 with hn | ⟨g, cap, cur, hv, hb, hg, rest⟩
  · exact .inl hn
  · exact .inr ⟨g, cap, cur, hv, hb, (h2 g hb (Array.getElem?_eq_some_iff.1 hg).1).trans hg, rest⟩

/-! the reader's cells -/
structure Rdr (W0 w : World) (g : Nat) (l : List Int) (bad : Bool) : Prop where
  kp : Kp W0 w
  lo : W0.heap.size ≤ g
  len : l.length ≤ 1000000
  cells : ∃ v, Ints W0 v l ∧ w.cell? ⟨g, 0, none⟩ = some v ∧ w.frozen? ⟨g, 0, none⟩ = false ∧ w.cell? ⟨g, 1, none⟩ = some (.bool bad) ∧ w.frozen? ⟨g, 1, none⟩ = false
theorem Rdr.lt {W0 w : World} {g : Nat} {l : List Int} {bad : Bool} (h : Rdr W0 w g l bad) : g < w.heap.size := by obtain ⟨v, -, h1, -⟩ := h.cells; exact block_lt_of_cell h1
theorem Rdr.keep {W0 w w' : World} {g : Nat} {l : List Int} {bad : Bool} (h : Rdr W0 w g l bad) (hk : Kp w w') : Rdr W0 w' g l bad := by
  have hg := h.lt
  obtain ⟨v, h1, h2, h3, h4, h5⟩ := h.cells
  exact ⟨h.kp.trans hk, h.lo, h.len, v, h1, hk.cellS h2, (World.frozen?_of_block (hk.block hg)).trans h3, hk.cellS h4, (World.frozen?_of_block (hk.block hg)).trans h5⟩
/-- other blocks may change -/
theorem Rdr.keepG {W0 w w' : World} {g : Nat} {l : List Int} {bad : Bool} (h : Rdr W0 w g l bad) (hk : Kp W0 w') (hg : w'.heap[g]? = w.heap[g]?) : Rdr W0 w' g l bad := by
  obtain ⟨v, h1, h2, h3, h4, h5⟩ := h.cells
  exact ⟨hk, h.lo, h.len, v, h1, (World.cell?_of_block hg).trans h2, (World.frozen?_of_block hg).trans h3, (World.cell?_of_block hg).trans h4, (World.frozen?_of_block hg).trans h5⟩
theorem set_block (w : World) (p : Addr) (u : Value) (k : Nat) (h : k ≠ p.block) : (w.setCell p u).heap[k]? = w.heap[k]? := Below.heap_setCell w p u k h
theorem set_size (w : World) (p : Addr) (u : Value) : (w.setCell p u).heap.size = w.heap.size := by simp [World.setCell]
theorem Rdr.bad {W0 w : World} {g : Nat} {l : List Int} {bad : Bool} (h : Rdr W0 w g l bad) (b : Bool) : Rdr W0 (w.setCell ⟨g, 1, none⟩ (.bool b)) g l b := by
  obtain ⟨v, h1, h2, h3, h4, h5⟩ := h.cells
  refine ⟨h.kp.set (by have := h.lo; simpa using this) _, h.lo, h.len, v, h1, ?_, ?_, ?_, ?_⟩
  · rw [World.cell?_setCell_other _ _ _ _ (by simp), h2]
  · rw [World.frozen?_setCell, h3]
  · exact World.cell?_setCell_same _ _ _ h4
  · rw [World.frozen?_setCell, h5]
theorem Rdr.row {W0 w : World} {g : Nat} {l l' : List Int} {bad : Bool} (h : Rdr W0 w g l bad) {v : Value} (hv : Ints W0 v l') (hl : l'.length ≤ l.length) : Rdr W0 (w.setCell ⟨g, 0, none⟩ v) g l' bad := by
  have hlen := h.len
  obtain ⟨v0, h1, h2, h3, h4, h5⟩ := h.cells
  refine ⟨h.kp.set (by have := h.lo; simpa using this) _, h.lo, by omega, v, hv, ?_, ?_, ?_, ?_⟩
  · exact World.cell?_setCell_same _ _ _ h2
  · rw [World.frozen?_setCell, h3]
  · rw [World.cell?_setCell_other _ _ _ _ (by simp), h4]
  · rw [World.frozen?_setCell, h5]
theorem Sl.tail {b o n c : Nat} {w : World} {x : Int} {l : List Int} (h : Ints w (.slice (some ⟨b, o, none⟩) n c) (x :: l)) : Ints w (.slice (some ⟨b, o + 1, none⟩) l.length (c - 1)) l := by
  obtain ⟨A, c', he, h1, h2⟩ := h.form
  rw [List.length_cons] at *
  injection he with e1 e2 e3
  subst e1 e2 e3
  have h' := h
  refine ⟨_, _, rfl, by omega, by omega, fun k hk => ?_⟩
  obtain ⟨b', o', hA, hb, hc⟩ := h'.ints (k := k + 1) (by simpa using hk)
  injection hA with hA
  injection hA with e1 e2 _
  subst e1 e2
  refine ⟨b, o + 1, [.int .i64 l[k]], rfl, hb, rfl, fun j u hu => ?_, rfl⟩
  cases j with
  | zero =>
    simp only [List.getElem?_cons_zero, Option.some.injEq] at hu
    subst hu
    simp only [Nat.mul_one, Nat.add_zero]
    have e : o + 1 + k = o + (k + 1) := by omega
    rw [e]
    simpa using hc
  | succ j => simp at hu

/-- how a call ends that read a value: x is what the parser reads; it lies in new blocks -/
def ReadEnd {α : Type} (W0 : World) (g : Nat) (P : Ps α) (Q : World → Value → α → Prop) (l : List Int) (bad : Bool) (w : World) (e : Ending) (w' : World) : Prop :=
  ∃ v x l' bad', e = .returned v ∧ Ow w.heap.size w'.heap.size w' (fun w2 => Q w2 v x) ∧ SpecP P l bad x l' bad' ∧ Rdr W0 w' g l' bad' ∧ Kg w w' g
/-- a call reads a value -/
abbrev Reads {α : Type} (W0 : World) (g : Nat) (P : Ps α) (Q : World → Value → α → Prop) (l : List Int) (bad : Bool) (F : FuncId) (args : Array Value) (w : World) : Prop :=
  Calls Try.prog F args w (ReadEnd W0 g P Q l bad w)
def VI : World → Value → Int → Prop := fun _ v x => v = .int .i64 x
def VB : World → Value → Bool → Prop := fun _ v x => v = .bool x
/-- a value of several cells -/
def VA {α : Type} (R : Rd α) : World → Value → α → Prop := fun w v x => ∃ cs : List Value, v = .agg cs.toArray ∧ R w cs x
/-- a value of one cell -/
def V1 {α : Type} (R : Rd α) : World → Value → α → Prop := fun w v x => R w [v] x
end Go.Proofs.Ytmokpnkpfodppaa
namespace Go.Proofs.Ytmokpnkpfodppaa
set_option linter.unusedSimpArgs false
set_option linter.unusedVariables false
open Go.RowKit

set_option maxHeartbeats 1000000 in
theorem rdInteger_any (W0 : World) (g : Nat) (l : List Int) (bad : Bool) (w : World) (hr : Rdr W0 w g l bad) : Reads W0 g intP VI l bad 95 #[.pointer (some ⟨g, 0, none⟩)] w := by
  have hr0 := hr
  obtain ⟨v, h1, h2, h3, h4, h5⟩ := hr.cells
  have hg := hr.lt
  have hlo := hr.lo
  obtain ⟨A, c, rfl, hc, hm⟩ := h1.form
  cases l with
  | nil =>
    simp only [List.length_nil] at *
    have hb := hr0.bad true
    have hk : Kg w (w.setCell ⟨g, 1, none⟩ (.bool true)) g := (Kg.refl w g).set (.inl rfl) _
    go_enter Try.func95, Try.ntmps95
    go_wp2
    go_ret
    exact ⟨_, 0, [], true, rfl, Ow.pure rfl, by unfold SpecP intP; cases bad <;> simp, hb, hk⟩
  | cons n l =>
    obtain ⟨b, o, rfl, hb, hcell⟩ := h1.ints (k := 0) (by simp)
    have hcw := hr0.kp.cellS hcell
    have hbw := hr0.kp.size
    by_cases hc1 : c = 1
    · subst hc1
      obtain rfl : l = [] := by
        cases l with
        | nil => rfl
        | cons _ _ => simp at hc
      have hn : Ints W0 (.slice (some ⟨b, o, none⟩) 0 0) [] := ⟨_, 0, rfl, Nat.le_refl _, by omega, fun k hk => absurd hk (by simp)⟩
      have ht := hr0.row hn (by simp)
      have hk : Kg w (w.setCell ⟨g, 0, none⟩ (.slice (some ⟨b, o, none⟩) 0 0)) g := (Kg.refl w g).set (.inl rfl) _
      simp only [List.getElem_cons_zero, Nat.add_zero, List.length_cons, List.length_nil] at *
      go_enter Try.func95, Try.ntmps95
      go_wp2
      go_ret
      exact ⟨_, n, [], bad, rfl, Ow.pure rfl, by unfold SpecP intP; cases bad <;> simp, ht, hk⟩
    · have ht := hr0.row h1.tail (by simp)
      have hk : Kg w (w.setCell ⟨g, 0, none⟩ (.slice (some ⟨b, o + 1, none⟩) l.length (c - 1))) g := (Kg.refl w g).set (.inl rfl) _
      simp only [List.getElem_cons_zero, Nat.add_zero, List.length_cons] at *
      go_enter Try.func95, Try.ntmps95
      go_wp2
      go_ret
      exact ⟨_, n, l, bad, rfl, Ow.pure rfl, by unfold SpecP intP; cases bad <;> simp, ht, hk⟩
theorem boolP_eq : boolP = bindP intP fun n => if n = 0 then retP false else if n = 1 then retP true else noP := by
  funext l
  cases l with
  | nil => rfl
  | cons n l =>
    unfold boolP bindP intP retP noP
    dsimp only
    split
    · rfl
    · split <;> rfl
theorem SpecP.no {α : Type} (x : α) (l l' : List Int) (b : Bool) : SpecP noP l b x l' true := by unfold SpecP noP; cases b <;> simp
theorem Kg.setg {w w' : World} {g : Nat} (h : Kg w w' g) (j : Nat) (u : Value) : Kg w (w'.setCell ⟨g, j, none⟩ u) g := h.set (.inl rfl) _
set_option maxHeartbeats 1000000 in
theorem rdTruth_any (W0 : World) (g : Nat) (l : List Int) (bad : Bool) (w : World) (hr : Rdr W0 w g l bad) : Reads W0 g boolP VB l bad 84 #[.pointer (some ⟨g, 0, none⟩)] w := by
  go_enter Try.func84, Try.ntmps84
  go_wp2_with fail
  refine (rdInteger_any W0 g l bad w hr).mono ?_
  rintro e w1 ⟨v, n, l1, b1, rfl, hv, hs, hr1, hk1⟩
  obtain rfl := hv.here
  clear hv hr
  obtain ⟨v1, h1, h2, h3, h4, h5⟩ := hr1.cells
  have hg := hr1.lt
  have hP := fun (x : Bool) (b2 : Bool) h => SpecP.of_eq boolP_eq (SpecP.bind (Q := fun n => if n = 0 then retP false else if n = 1 then retP true else noP) (y := x) (l2 := l1) (b2 := b2) hs h)
  have hQ := fun b2 => hr1.bad b2
  have hK := fun b2 => hk1.setg 1 (.bool b2)
  clear hs hk1
  by_cases h00 : n = 0
  · subst h00
    have hE := hid (hP false b1 (SpecP.ret false l1 b1))
    clear hP
    cases b1
    all_goals
      go_wp2
      go_ret
      exact ⟨_, false, l1, _, rfl, Ow.pure rfl, hE.out, hQ _, hK _⟩
  · by_cases h01 : n = 1
    · subst h01
      have hE := hid (hP true b1 (SpecP.ret true l1 b1))
      clear hP
      cases b1
      all_goals
        go_wp2
        go_ret
        exact ⟨_, true, l1, _, rfl, Ow.pure rfl, hE.out, hQ _, hK _⟩
    · have hE := hid (hP false true (by simp only [if_neg h00, if_neg h01]; exact SpecP.no _ _ _ _))
      clear hP
      have e0 : (n == 0) = false := by simpa using h00
      have e1 : (n == 1) = false := by simpa using h01
      have e2 : (n != 0) = true := by simpa using h00
      have e3 : (n != 1) = true := by simpa using h01
      cases b1
      all_goals
        go_wp2
        go_ret
        exact ⟨_, false, l1, _, rfl, Ow.pure rfl, hE.out, hQ _, hK _⟩
end Go.Proofs.Ytmokpnkpfodppaa
namespace Go.Proofs.Ytmokpnkpfodppaa
set_option linter.unusedSimpArgs false
set_option linter.unusedVariables false
open Go.RowKit

/-- a block whose first cells are these, and may be written -/
structure Bx (w : World) (b : Nat) (cs : List Value) : Prop where
  range : w.rangeAt b 0 cs
  there : w.there b 0 cs.length
theorem Bx.lt {w : World} {b : Nat} {cs : List Value} (h : Bx w b cs) (hc : 0 < cs.length) : b < w.heap.size := by
  have := h.range 0 cs[0] (by simp)
  exact block_lt_of_cell this
theorem Bx.cell {w : World} {b : Nat} {cs : List Value} (h : Bx w b cs) {j : Nat} {u : Value} (hj : cs[j]? = some u) : w.cell? ⟨b, j, none⟩ = some u := by
  have := h.range j u hj
  rwa [Nat.zero_add] at this
theorem Bx.free {w : World} {b : Nat} {cs : List Value} (h : Bx w b cs) {j : Nat} (hj : j < cs.length) : w.frozen? ⟨b, j, none⟩ = false := by
  have := (h.there j hj).2
  rwa [Nat.zero_add] at this
theorem Bx.keep {w w' : World} {b : Nat} {cs : List Value} (h : Bx w b cs) (hb : w'.heap[b]? = w.heap[b]?) : Bx w' b cs :=
  ⟨fun j u hu => (World.cell?_of_block hb).trans (h.range j u hu), fun j hj => ⟨by rw [World.cell?_of_block hb]; exact (h.there j hj).1, by rw [World.frozen?_of_block hb]; exact (h.there j hj).2⟩⟩
theorem Bx.new (w : World) (Z : Array Value) (t : TypeId) : Bx (w.alloc (.cells Z t)) w.heap.size Z.toList :=
  ⟨fun j u hu => by rw [Nat.zero_add]; exact alloc_cell w Z t j (by simpa using hu), there_new w Z t _ (by simp)⟩
theorem Bx.set {w : World} {b : Nat} {cs : List Value} (h : Bx w b cs) {j : Nat} (hj : j < cs.length) (u : Value) : Bx (w.setCell ⟨b, j, none⟩ u) b (cs.set j u) := by
  refine ⟨fun i v hv => ?_, fun i hi => ?_⟩
  · rw [Nat.zero_add]
    by_cases hij : i = j
    · subst hij
      rw [List.getElem?_set_self hj] at hv
      rw [World.cell?_setCell_same _ _ _ (h.cell (List.getElem?_eq_getElem hj)), hv]
    · rw [List.getElem?_set_ne (fun e => hij e.symm)] at hv
      rw [World.cell?_setCell_other _ _ _ _ (by intro e; injection e with e1 e2; exact hij e2.symm)]
      exact h.cell hv
  · rw [List.length_set] at hi
    rw [Nat.zero_add]
    refine ⟨?_, by rw [World.frozen?_setCell]; exact h.free hi⟩
    by_cases hij : i = j
    · subst hij
      rw [World.cell?_setCell_same _ _ _ (h.cell (List.getElem?_eq_getElem hi))]
      rfl
    · rw [World.cell?_setCell_other _ _ _ _ (by intro e; injection e with e1 e2; exact hij e2.symm), h.cell (List.getElem?_eq_getElem hi)]
      rfl
/-- all but two blocks stay -/
structure Kb (g b : Nat) (w w' : World) : Prop where
  os : w'.os = w.os
  tape : w'.tape = w.tape
  output : w'.output = w.output
  size : w.heap.size ≤ w'.heap.size
  block : ∀ k, k < w.heap.size → k ≠ g → k ≠ b → w'.heap[k]? = w.heap[k]?
theorem Kb.refl (g b : Nat) (w : World) : Kb g b w w := ⟨rfl, rfl, rfl, Nat.le_refl _, fun _ _ _ _ => rfl⟩
theorem Kb.trans {g b : Nat} {x y z : World} (h : Kb g b x y) (k : Kb g b y z) : Kb g b x z :=
  ⟨k.os.trans h.os, k.tape.trans h.tape, k.output.trans h.output, Nat.le_trans h.size k.size, fun i hi h1 h2 => (k.block i (Nat.lt_of_lt_of_le hi h.size) h1 h2).trans (h.block i hi h1 h2)⟩
theorem Kg.kb {g : Nat} {w w' : World} (h : Kg w w' g) (b : Nat) : Kb g b w w' :=
  ⟨World.grownBy.os h, World.grownBy.tape h, World.grownBy.output h, h.size, fun k hk h1 _ => World.grownBy.block h k hk (by simpa using h1)⟩
theorem Kp.kb {w w' : World} (h : Kp w w') (g b : Nat) : Kb g b w w' := ⟨h.os, h.tape, h.output, h.size, fun _ hk _ _ => h.block hk⟩
theorem Kb.set {g b : Nat} {w w' : World} (h : Kb g b w w') (j : Nat) (u : Value) : Kb g b w (w'.setCell ⟨b, j, none⟩ u) :=
  ⟨h.os, h.tape, h.output, by rw [set_size]; exact h.size, fun k hk h1 h2 => by rw [set_block _ _ _ _ h2]; exact h.block k hk h1 h2⟩
/-- what the block b is new to -/
theorem Kb.kg {g b : Nat} {w0 w w' : World} (h : Kb g b w w') (h0 : Kg w0 w g) (hb : w0.heap.size ≤ b) : Kg w0 w' g :=
  ⟨h.os.trans (World.grownBy.os h0), h.tape.trans (World.grownBy.tape h0), h.output.trans (World.grownBy.output h0), Nat.le_trans h0.size h.size, fun k hk hne => by
    rw [h.block k (Nat.lt_of_lt_of_le hk h0.size) (fun e => hne (by rw [e])) (by omega)]
    exact World.grownBy.block h0 k hk hne⟩
theorem Ow.kb {base top g b : Nat} {w w' : World} {R : World → Prop} (h : Ow base top w R) (hk : Kb g b w w') (hg : g < base) (hb : b < base) (ht : top ≤ w.heap.size) : Ow base top w' R :=
  h.step hk.size fun k h1 h2 => hk.block k (by omega) (by omega) (by omega)

def encPtr (b o : Nat) : List Value := [.pointer (some ⟨b, o, none⟩)]
/-- numbers put in a row from place a on -/
def putI (cs : List Value) (a : Nat) (xs : List Int) : List Value := cs.take a ++ xs.map (Value.int .i64) ++ cs.drop (a + xs.length)
theorem putI_nil (cs : List Value) (a : Nat) : putI cs a [] = cs := by simp [putI]
theorem putI_len (cs : List Value) (a : Nat) (xs : List Int) (h : a + xs.length ≤ cs.length) : (putI cs a xs).length = cs.length := by simp [putI]; omega
theorem putI_snoc (cs : List Value) (a : Nat) (xs : List Int) (n : Int) (h : a + xs.length < cs.length) : (putI cs a xs).set (a + xs.length) (.int .i64 n) = putI cs a (xs ++ [n]) := by
  unfold putI
  have h1 : (cs.take a ++ xs.map (Value.int .i64)).length = a + xs.length := by simp; omega
  rw [List.set_append_right _ _ (by omega), h1, Nat.sub_self, List.drop_eq_getElem_cons h, List.set_cons_zero, List.map_append, List.length_append, List.length_cons, List.length_nil]
  simp [Nat.add_assoc]
theorem loopP_snoc {α : Type} (P : Ps α) : ∀ n : Nat, loopP P (n + 1) = bindP (loopP P n) fun xs => bindP P fun x => retP (xs ++ [x])
  | 0 => rfl
  | n + 1 => by
    have e1 : loopP P (n + 1 + 1) = bindP P fun x => bindP (bindP (loopP P n) fun xs => bindP P fun y => retP (xs ++ [y])) fun l => retP (x :: l) := by rw [← loopP_snoc P n]; rfl
    have e2 : (bindP (loopP P (n + 1)) fun xs => bindP P fun x => retP (xs ++ [x])) = bindP (bindP P fun x => bindP (loopP P n) fun l => retP (x :: l)) fun xs => bindP P fun x => retP (xs ++ [x]) := rfl
    rw [e1, e2]
    simp only [bindP_assoc, bindP_retP, List.cons_append]
/-- how a call of into ends -/
def IntoEnd (W0 : World) (g b m a : Nat) (cs : List Value) (l : List Int) (bad : Bool) (w : World) (e : Ending) (w' : World) : Prop :=
  e = .returned (.tuple #[]) ∧ ∃ xs l' bad', xs.length = m ∧ SpecP (loopP intP m) l bad xs l' bad' ∧ Rdr W0 w' g l' bad' ∧ Bx w' b (putI cs a xs) ∧ Kb g b w w'
theorem Sl.ptr {w : World} {b : Nat} {A : Option Addr} {n c : Nat} {l : List Nat} (h : Sl (Pl (encPtr b)) 1 w (.slice A n c) l) {k : Nat} (hk : k < l.length) :
    ∃ p o, A = some ⟨p, o, none⟩ ∧ p < w.heap.size ∧ w.cell? ⟨p, o + k, none⟩ = some (.pointer (some ⟨b, l[k], none⟩)) := by
  obtain ⟨p, o, cs, hA, had, hcs, hc, hr⟩ := h.at_ hk
  unfold Pl encPtr at hr
  subst hr
  exact ⟨p, o, hA, had, by simpa using hc 0 _ rfl⟩
set_option maxHeartbeats 1000000 in
theorem rdInto_any (W0 : World) (g b a m : Nat) (cs : List Value) (v : Value) (l : List Int) (bad : Bool) (w : World) (hr : Rdr W0 w g l bad) (hgb : g < b) (hB : Bx w b cs) (ham : a + m ≤ cs.length)
    (hv : Ow (b + 1) w.heap.size w fun w' => Sl (Pl (encPtr b)) 1 w' v (List.range' a m)) :
    Calls Try.prog 77 #[.pointer (some ⟨g, 0, none⟩), v] w (IntoEnd W0 g b m a cs l bad w) := by
  obtain ⟨A, c, rfl, hc, hm⟩ := hv.here.form
  rw [List.length_range'] at *
  have hlo := hr.lo
  go_enter Try.func77, Try.ntmps77
  go_wp2
  go_loopw [8] (fun i wr => ∃ (xs : List Int) (l' : List Int) (bad' : Bool), xs.length ≤ m ∧ i = .int .i64 (xs.length : Int) ∧ SpecP (loopP intP xs.length) l bad xs l' bad' ∧ Rdr W0 wr g l' bad' ∧ Bx wr b (putI cs a xs) ∧ Kb g b w wr) (fun i _ => m - (intOf i).toNat)
  case atStart => exact ⟨[], l, bad, Nat.zero_le _, rfl, SpecP.ret _ _ _, hr, by rw [putI_nil]; exact hB, Kb.refl _ _ _⟩
  case round =>
    obtain ⟨xs, l1, b1, hxs, rfl, hs, hr1, hB1, hK1⟩ := hrel
    clear hr hB
    by_cases hlt : xs.length < m
    · have hv1 := (hv.kb hK1 (by omega) (by omega) (Nat.le_refl _)).here
      obtain ⟨p, o, rfl, hp, hcell⟩ := hv1.ptr (k := xs.length) (by rw [List.length_range']; exact hlt)
      rw [List.getElem_range', Nat.one_mul] at hcell
      have hcl := putI_len cs a xs (by omega)
      have hbl := hB1.lt (by omega)
      clear hv1
      go_wp2_with fail
      refine (rdInteger_any W0 g l1 b1 _ hr1).mono ?_
      rintro e w2 ⟨v2, n, l2, b2, rfl, hv2, hs2, hr2, hk2⟩
      obtain rfl := hv2.here
      clear hv2
      have hB2 := hB1.keep (World.grownBy.block hk2 b hbl (by simp; omega))
      have e1 := hB2.cell (j := a + xs.length) (List.getElem?_eq_getElem (by omega))
      have e2 := hB2.free (j := a + xs.length) (by omega)
      have hB3 := hB2.set (j := a + xs.length) (by omega) (.int .i64 n)
      rw [putI_snoc cs a xs n (by omega)] at hB3
      have hK3 := (hK1.trans (hk2.kb b)).set (a + xs.length) (.int .i64 n)
      have hr3 : Rdr W0 (w2.setCell ⟨b, a + xs.length, none⟩ (.int .i64 n)) g l2 b2 := hr2.keepG (hr2.kp.set (by show W0.heap.size ≤ b; omega) _) (set_block _ _ _ _ (by show g ≠ b; omega))
      have hs3 : SpecP (loopP intP (xs.length + 1)) l bad (xs ++ [n]) l2 b2 := by rw [loopP_snoc]; exact hs.bind (hs2.bind (SpecP.ret _ _ _))
      clear hB1 hB2 hK1 hr1 hr2 hs hs2 hk2
      generalize (putI cs a xs)[a + xs.length]'(by omega) = u0 at *
      go_wp2
      go_roundw
      case rel => exact ⟨xs ++ [n], l2, b2, by simp; omega, by simp, by simpa using hs3, hr3, hB3, hK3⟩
      case measure => simp [intOf]; omega
    · obtain rfl : xs.length = m := by omega
      go_wp2
      go_end0
      exact ⟨rfl, xs, l1, b1, rfl, hs, hr1, hB1, hK1⟩
end Go.Proofs.Ytmokpnkpfodppaa
namespace Go.Proofs.Ytmokpnkpfodppaa
set_option linter.unusedSimpArgs false
set_option linter.unusedVariables false
open Go.RowKit

theorem results_cell_bx {P : Program} {fn : Func} {p : Tmp} {ty : TypeId} (h : fn.results = #[.cell p ty]) (tmps : Array Value) (w : World) (b : Nat) (cs : List Value) (d : TypeDesc)
    (hp : tmps.getD p undef = .pointer (some ⟨b, 0, none⟩)) (hc : w.rangeAt b 0 cs) (hu : P.underlying ty = some d) (hd : d.isRow = true) (hi : (P.info? ty).map (·.size) = some cs.length) :
    (results fn tmps).run P w = .ok (.agg cs.toArray) w := by
  have hp' : tmps[p]?.getD undef = .pointer (some ⟨b, 0, none⟩) := by simpa using hp
  simp [results, h, hp', asAddr, run_loadVar_mid w b 0 ty cs d hc hu hd hi]
/-- cells put in a row from place o on -/
def putV (cs : List Value) (o : Nat) (vs : List Value) : List Value := cs.take o ++ vs ++ cs.drop (o + vs.length)
theorem Bx.setCells {b : Nat} : ∀ (vs : List Value) (o : Nat) (w : World) (cs : List Value), Bx w b cs → o + vs.length ≤ cs.length → Bx (w.setCells b o vs) b (putV cs o vs)
  | [], o, w, cs, h, _ => by simpa [World.setCells, putV] using h
  | v :: vs, o, w, cs, h, hl => by
    rw [List.length_cons] at hl
    have h1 := h.set (j := o) (by omega) v
    have h2 := Bx.setCells vs (o + 1) _ _ h1 (by rw [List.length_set]; omega)
    have e : putV (cs.set o v) (o + 1) vs = putV cs o (v :: vs) := by
      have hset : cs.set o v = cs.take o ++ v :: cs.drop (o + 1) := by rw [List.set_eq_take_append_cons_drop, if_pos (by omega)]
      have ht : (cs.take o).length = o := by simp; omega
      unfold putV
      rw [hset, List.take_append, List.drop_append, ht, List.take_of_length_le (l := cs.take o) (by omega), List.drop_of_length_le (l := cs.take o) (by omega), List.length_cons]
      have e1 : o + 1 - o = 1 := by omega
      have e2 : o + 1 + vs.length - o = vs.length + 1 := by omega
      rw [e1, e2]
      simp [Nat.add_assoc, Nat.add_comm 1]
    rw [World.setCells]
    rw [← e]
    exact h2
theorem Bx.self {w : World} {b : Nat} {cs : List Value} (h : Bx w b cs) : Bx (w.setCells b 0 cs) b cs := by
  have := h.setCells cs 0 w cs (by omega)
  simpa [putV] using this
theorem Kb.setCells {g b : Nat} {w : World} : ∀ (vs : List Value) (o : Nat) (w' : World), Kb g b w w' → Kb g b w (w'.setCells b o vs)
  | [], _, _, h => h
  | v :: r, o, w', h => by
    rw [World.setCells]
    exact Kb.setCells r (o + 1) _ (h.set o v)
theorem setCells_size (b : Nat) : ∀ (vs : List Value) (o : Nat) (w : World), (w.setCells b o vs).heap.size = w.heap.size
  | [], _, _ => rfl
  | v :: r, o, w => by rw [World.setCells, setCells_size b r (o + 1), set_size]
/-- the reader's cells, when another block changes -/
theorem Rdr.kb {W0 w w' : World} {g b : Nat} {l : List Int} {bad : Bool} (h : Rdr W0 w g l bad) (hk : Kb g b w w') (hb : W0.heap.size ≤ b) (hg : w'.heap[g]? = w.heap[g]?) : Rdr W0 w' g l bad := by
  refine h.keepG ⟨hk.os.trans h.kp.os, hk.tape.trans h.kp.tape, hk.output.trans h.kp.output, Nat.le_trans h.kp.size hk.size, fun k hlt => ?_⟩ hg
  have hlo := h.lo
  have hlt2 : k < W0.heap.size := hlt
  rw [hk.block k (Nat.lt_of_lt_of_le hlt2 h.kp.size) (by omega) (by omega)]
  exact h.kp.block hlt2
theorem setCells_block (b k : Nat) (hk : k ≠ b) : ∀ (vs : List Value) (o : Nat) (w : World), (w.setCells b o vs).heap[k]? = w.heap[k]?
  | [], _, _ => rfl
  | v :: r, o, w => by rw [World.setCells, setCells_block b k hk r (o + 1), set_block _ _ _ _ hk]
theorem Ow.kb2 {g b : Nat} {w w' : World} {R : World → Prop} (h : Ow (b + 1) w.heap.size w R) (hk : Kb g b w w') (hg : g < b) : Ow (b + 1) w'.heap.size w' R := (h.kb hk (by omega) (by omega) (Nat.le_refl _)).wide (Nat.le_refl _) hk.size
theorem Bx.thereAt {w : World} {b : Nat} {cs : List Value} (h : Bx w b cs) (o n : Nat) (hn : o + n ≤ cs.length) : w.there b o n := fun j hj => by
  have := h.there (o + j) (by omega)
  rwa [Nat.zero_add] at this
theorem fin_end {α : Type} {W0 w w0 w1 : World} {g b : Nat} {P : Ps α} {Q : World → Value → α → Prop} {l l' : List Int} {bad bad' : Bool} {v : Value} {x : α} {cs : List Value} (_hB : Bx w1 b cs) (hK : Kb g b w0 w1) (hg0 : Kg w w0 g) (hb : w.heap.size ≤ b)
    (hr : Rdr W0 w1 g l' bad') (hlo : W0.heap.size ≤ b) (hg : g < b) (ow : Ow (b + 1) w1.heap.size w1 fun w2 => Q w2 v x) (sp : SpecP P l bad x l' bad') : ReadEnd W0 g P Q l bad w (.returned v) (w1.setCells b 0 cs) := by
  have hk2 := Kb.setCells cs 0 _ (Kb.refl g b w1)
  refine ⟨v, x, l', bad', rfl, ?_, sp, hr.kb hk2 hlo (setCells_block _ g (by omega) cs 0 w1), (Kb.setCells cs 0 _ hK).kg hg0 hb⟩
  rw [setCells_size]
  exact (ow.kb hk2 (by omega) (by omega) (Nat.le_refl _)).wide (by omega) (Nat.le_refl _)
theorem litPtrs (w : World) (b a m : Nat) (X : Array Value) (h : X.toList = flat (encPtr b) (List.range' a m)) (hm : m ≤ 1000) :
    Ow w.heap.size (w.alloc (.cells X 153)).heap.size (w.alloc (.cells X 153)) fun w' => Sl (Pl (encPtr b)) 1 w' (.slice (some ⟨w.heap.size, 0, none⟩) m m) (List.range' a m) := by
  have hlen : (List.range' a m).length = m := List.length_range'
  have hs : X.size = (List.range' a m).length * 1 := by
    have := flat_length (enc := encPtr b) (size := 1) (fun _ => rfl) (List.range' a m)
    rw [← h] at this
    simpa using this
  have := Own.lit (e := 153) (base := w.heap.size) (encPtr b) w X (List.range' a m) (Nat.le_refl _) (by omega) hs h
  rw [hlen] at this
  exact this.ow.imp fun w' ho => ho.sl (fun _ => rfl)
theorem into_lit (W0 : World) (g b a m : Nat) (cs : List Value) (l : List Int) (bad : Bool) (w : World) (X : Array Value) (hr : Rdr W0 w g l bad) (hgb : g < b) (hB : Bx w b cs) (ham : a + m ≤ cs.length) (hm : 0 < m) (hm2 : m ≤ 1000) (hX : X.toList = flat (encPtr b) (List.range' a m)) :
    Calls Try.prog 77 #[.pointer (some ⟨g, 0, none⟩), .slice (some ⟨w.heap.size, 0, none⟩) m m] (w.alloc (.cells X 153)) (IntoEnd W0 g b m a cs l bad w) := by
  have hb := hB.lt (by omega)
  have kq := (Kp.refl w).alloc (.cells X 153)
  refine (rdInto_any W0 g b a m cs _ l bad _ (hr.keep kq) hgb (hB.keep (kq.block hb)) ham ((litPtrs w b a m X hX hm2).wide (by omega) (Nat.le_refl _))).mono ?_
  rintro e w' ⟨rfl, xs, l', bad', h1, h2, h3, h4, h5⟩
  exact ⟨rfl, xs, l', bad', h1, h2, h3, h4, (kq.kb g b).trans h5⟩
theorem len1 {xs : List Int} (h : xs.length = 1) : ∃ a, xs = [a] := by
  match xs, h with
  | [a], _ => exact ⟨a, rfl⟩
theorem len2 {xs : List Int} (h : xs.length = 2) : ∃ a b, xs = [a, b] := by
  match xs, h with
  | [a, b], _ => exact ⟨a, b, rfl⟩
theorem len3 {xs : List Int} (h : xs.length = 3) : ∃ a b c, xs = [a, b, c] := by
  match xs, h with
  | [a, b, c], _ => exact ⟨a, b, c, rfl⟩
theorem len4 {xs : List Int} (h : xs.length = 4) : ∃ a b c d, xs = [a, b, c, d] := by
  match xs, h with
  | [a, b, c, d], _ => exact ⟨a, b, c, d, rfl⟩
theorem len5 {xs : List Int} (h : xs.length = 5) : ∃ a b c d e, xs = [a, b, c, d, e] := by
  match xs, h with
  | [a, b, c, d, e], _ => exact ⟨a, b, c, d, e, rfl⟩
theorem many2 {α : Type} (Q : Int → Int → Ps α) : (bindP intP fun a => bindP intP fun b => Q a b) = bindP (loopP intP 2) fun xs => Q (xs.getD 0 0) (xs.getD 1 0) := by
  simp only [loopP, bindP_assoc, bindP_retP, List.getD_cons_zero, List.getD_cons_succ]
theorem many3 {α : Type} (Q : Int → Int → Int → Ps α) : (bindP intP fun a => bindP intP fun b => bindP intP fun c => Q a b c) = bindP (loopP intP 3) fun xs => Q (xs.getD 0 0) (xs.getD 1 0) (xs.getD 2 0) := by
  simp only [loopP, bindP_assoc, bindP_retP, List.getD_cons_zero, List.getD_cons_succ]
theorem many4 {α : Type} (Q : Int → Int → Int → Int → Ps α) : (bindP intP fun a => bindP intP fun b => bindP intP fun c => bindP intP fun d => Q a b c d) = bindP (loopP intP 4) fun xs => Q (xs.getD 0 0) (xs.getD 1 0) (xs.getD 2 0) (xs.getD 3 0) := by
  simp only [loopP, bindP_assoc, bindP_retP, List.getD_cons_zero, List.getD_cons_succ]
theorem many5 {α : Type} (Q : Int → Int → Int → Int → Int → Ps α) : (bindP intP fun a => bindP intP fun b => bindP intP fun c => bindP intP fun d => bindP intP fun e => Q a b c d e) = bindP (loopP intP 5) fun xs => Q (xs.getD 0 0) (xs.getD 1 0) (xs.getD 2 0) (xs.getD 3 0) (xs.getD 4 0) := by
  simp only [loopP, bindP_assoc, bindP_retP, List.getD_cons_zero, List.getD_cons_succ]
end Go.Proofs.Ytmokpnkpfodppaa
