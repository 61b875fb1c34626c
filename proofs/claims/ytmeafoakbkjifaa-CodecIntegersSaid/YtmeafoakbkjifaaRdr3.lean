
/-
The reader: several numbers into the fields of a struct.
-/
import Derived.Test.YtmeafoakbkjifaaRdr2
namespace Go.Proofs.Ytmeafoakbkjifaa
set_option linter.unusedSimpArgs false
set_option linter.unusedVariables false
open Go.RowKit

/-- a block whose first cells are these, and may be written -/
structure Bx (w : World) (b : Nat) (cs : List Value) : Prop where
  range : w.rangeAt b 0 cs
  there : w.there b 0 cs.length
theorem Bx.lt {w : World} {b : Nat} {cs : List Value} (h : Bx w b cs) (hc : 0 < cs.length) : b < w.heap.size := by
  have := h.range 0 cs[0] (by simp)
  exact block_lt_of_cell this
theorem Bx.cell {w : World} {b : Nat} {cs : List Value} (h : Bx w b cs) {j : Nat} {u : Value} (hj : cs[j]? = some u) : w.cell? ⟨b, j, none⟩ = some u := by
  have := h.range j u hj
  rwa [Nat.zero_add] at this
theorem Bx.free {w : World} {b : Nat} {cs : List Value} (h : Bx w b cs) {j : Nat} (hj : j < cs.length) : w.frozen? ⟨b, j, none⟩ = false := by
  have := (h.there j hj).2
  rwa [Nat.zero_add] at this
theorem Bx.keep {w w' : World} {b : Nat} {cs : List Value} (h : Bx w b cs) (hb : w'.heap[b]? = w.heap[b]?) : Bx w' b cs :=
  ⟨fun j u hu => (World.cell?_of_block hb).trans (h.range j u hu), fun j hj => ⟨by rw [World.cell?_of_block hb]; exact (h.there j hj).1, by rw [World.frozen?_of_block hb]; exact (h.there j hj).2⟩⟩
theorem Bx.new (w : World) (Z : Array Value) (t : TypeId) : Bx (w.alloc (.cells Z t)) w.heap.size Z.toList :=
  ⟨fun j u hu => by rw [Nat.zero_add]; exact alloc_cell w Z t j (by simpa using hu), there_new w Z t _ (by simp)⟩
theorem Bx.set {w : World} {b : Nat} {cs : List Value} (h : Bx w b cs) {j : Nat} (hj : j < cs.length) (u : Value) : Bx (w.setCell ⟨b, j, none⟩ u) b (cs.set j u) := by
  refine ⟨fun i v hv => ?_, fun i hi => ?_⟩
  · rw [Nat.zero_add]
    by_cases hij : i = j
    · subst hij
      rw [List.getElem?_set_self hj] at hv
      rw [World.cell?_setCell_same _ _ _ (h.cell (List.getElem?_eq_getElem hj)), hv]
    · rw [List.getElem?_set_ne (fun e => hij e.symm)] at hv
      rw [World.cell?_setCell_other _ _ _ _ (by intro e; injection e with e1 e2; exact hij e2.symm)]
      exact h.cell hv
  · rw [List.length_set] at hi
    rw [Nat.zero_add]
    refine ⟨?_, by rw [World.frozen?_setCell]; exact h.free hi⟩
    by_cases hij : i = j
    · subst hij
      rw [World.cell?_setCell_same _ _ _ (h.cell (List.getElem?_eq_getElem hi))]
      rfl
    · rw [World.cell?_setCell_other _ _ _ _ (by intro e; injection e with e1 e2; exact hij e2.symm), h.cell (List.getElem?_eq_getElem hi)]
      rfl
/-- all but two blocks stay -/
structure Kb (g b : Nat) (w w' : World) : Prop where
  os : w'.os = w.os
  tape : w'.tape = w.tape
  output : w'.output = w.output
  size : w.heap.size ≤ w'.heap.size
  block : ∀ k, k < w.heap.size → k ≠ g → k ≠ b → w'.heap[k]? = w.heap[k]?
theorem Kb.refl (g b : Nat) (w : World) : Kb g b w w := ⟨rfl, rfl, rfl, Nat.le_refl _, fun _ _ _ _ => rfl⟩
theorem Kb.trans {g b : Nat} {x y z : World} (h : Kb g b x y) (k : Kb g b y z) : Kb g b x z :=
  ⟨k.os.trans h.os, k.tape.trans h.tape, k.output.trans h.output, Nat.le_trans h.size k.size, fun i hi h1 h2 => (k.block i (Nat.lt_of_lt_of_le hi h.size) h1 h2).trans (h.block i hi h1 h2)⟩
theorem Kg.kb {g : Nat} {w w' : World} (h : Kg w w' g) (b : Nat) : Kb g b w w' :=
  ⟨World.grownBy.os h, World.grownBy.tape h, World.grownBy.output h, h.size, fun k hk h1 _ => World.grownBy.block h k hk (by simpa using h1)⟩
theorem Kp.kb {w w' : World} (h : Kp w w') (g b : Nat) : Kb g b w w' := ⟨h.os, h.tape, h.output, h.size, fun _ hk _ _ => h.block hk⟩
theorem Kb.set {g b : Nat} {w w' : World} (h : Kb g b w w') (j : Nat) (u : Value) : Kb g b w (w'.setCell ⟨b, j, none⟩ u) :=
  ⟨h.os, h.tape, h.output, by rw [set_size]; exact h.size, fun k hk h1 h2 => by rw [set_block _ _ _ _ h2]; exact h.block k hk h1 h2⟩
/-- what the block b is new to -/
theorem Kb.kg {g b : Nat} {w0 w w' : World} (h : Kb g b w w') (h0 : Kg w0 w g) (hb : w0.heap.size ≤ b) : Kg w0 w' g :=
  ⟨h.os.trans (World.grownBy.os h0), h.tape.trans (World.grownBy.tape h0), h.output.trans (World.grownBy.output h0), Nat.le_trans h0.size h.size, fun k hk hne => by
    rw [h.block k (Nat.lt_of_lt_of_le hk h0.size) (fun e => hne (by rw [e])) (by omega)]
    exact World.grownBy.block h0 k hk hne⟩
theorem Ow.kb {base top g b : Nat} {w w' : World} {R : World → Prop} (h : Ow base top w R) (hk : Kb g b w w') (hg : g < base) (hb : b < base) (ht : top ≤ w.heap.size) : Ow base top w' R :=
  h.step hk.size fun k h1 h2 => hk.block k (by omega) (by omega) (by omega)

def encPtr (b o : Nat) : List Value := [.pointer (some ⟨b, o, none⟩)]
/-- numbers put in a row from place a on -/
def putI (cs : List Value) (a : Nat) (xs : List Int) : List Value := cs.take a ++ xs.map (Value.int .i64) ++ cs.drop (a + xs.length)
theorem putI_nil (cs : List Value) (a : Nat) : putI cs a [] = cs := by simp [putI]
theorem putI_len (cs : List Value) (a : Nat) (xs : List Int) (h : a + xs.length ≤ cs.length) : (putI cs a xs).length = cs.length := by simp [putI]; omega
theorem putI_snoc (cs : List Value) (a : Nat) (xs : List Int) (n : Int) (h : a + xs.length < cs.length) : (putI cs a xs).set (a + xs.length) (.int .i64 n) = putI cs a (xs ++ [n]) := by
  unfold putI
  have h1 : (cs.take a ++ xs.map (Value.int .i64)).length = a + xs.length := by simp; omega
  rw [List.set_append_right _ _ (by omega), h1, Nat.sub_self, List.drop_eq_getElem_cons h, List.set_cons_zero, List.map_append, List.length_append, List.length_cons, List.length_nil]
  simp [Nat.add_assoc]
theorem loopP_snoc {α : Type} (P : Ps α) : ∀ n : Nat, loopP P (n + 1) = bindP (loopP P n) fun xs => bindP P fun x => retP (xs ++ [x])
  | 0 => rfl
  | n + 1 => by
    have e1 : loopP P (n + 1 + 1) = bindP P fun x => bindP (bindP (loopP P n) fun xs => bindP P fun y => retP (xs ++ [y])) fun l => retP (x :: l) := by rw [← loopP_snoc P n]; rfl
    have e2 : (bindP (loopP P (n + 1)) fun xs => bindP P fun x => retP (xs ++ [x])) = bindP (bindP P fun x => bindP (loopP P n) fun l => retP (x :: l)) fun xs => bindP P fun x => retP (xs ++ [x]) := rfl
    rw [e1, e2]
    simp only [bindP_assoc, bindP_retP, List.cons_append]
/-- how a call of into ends -/
def IntoEnd (W0 : World) (g b m a : Nat) (cs : List Value) (l : List Int) (bad : Bool) (w : World) (e : Ending) (w' : World) : Prop :=
  e = .returned (.tuple #[]) ∧ ∃ xs l' bad', xs.length = m ∧ SpecP (loopP intP m) l bad xs l' bad' ∧ Rdr W0 w' g l' bad' ∧ Bx w' b (putI cs a xs) ∧ Kb g b w w'
theorem Sl.ptr {w : World} {b : Nat} {A : Option Addr} {n c : Nat} {l : List Nat} (h : Sl (Pl (encPtr b)) 1 w (.slice A n c) l) {k : Nat} (hk : k < l.length) :
    ∃ p o, A = some ⟨p, o, none⟩ ∧ p < w.heap.size ∧ w.cell? ⟨p, o + k, none⟩ = some (.pointer (some ⟨b, l[k], none⟩)) := by
  obtain ⟨p, o, cs, hA, had, hcs, hc, hr⟩ := h.at_ hk
  unfold Pl encPtr at hr
  subst hr
  exact ⟨p, o, hA, had, by simpa using hc 0 _ rfl⟩
set_option maxHeartbeats 1000000 in
theorem rdInto_any (W0 : World) (g b a m : Nat) (cs : List Value) (v : Value) (l : List Int) (bad : Bool) (w : World) (hr : Rdr W0 w g l bad) (hgb : g < b) (hB : Bx w b cs) (ham : a + m ≤ cs.length)
    (hv : Ow (b + 1) w.heap.size w fun w' => Sl (Pl (encPtr b)) 1 w' v (List.range' a m)) :
    Calls Try.prog 85 #[.pointer (some ⟨g, 0, none⟩), v] w (IntoEnd W0 g b m a cs l bad w) := by
  obtain ⟨A, c, rfl, hc, hm⟩ := hv.here.form
  rw [List.length_range'] at *
  have hlo := hr.lo
  go_enter Try.func85, Try.ntmps85
  go_wp2
  go_loopw [8] (fun i wr => ∃ (xs : List Int) (l' : List Int) (bad' : Bool), xs.length ≤ m ∧ i = .int .i64 (xs.length : Int) ∧ SpecP (loopP intP xs.length) l bad xs l' bad' ∧ Rdr W0 wr g l' bad' ∧ Bx wr b (putI cs a xs) ∧ Kb g b w wr) (fun i _ => m - (intOf i).toNat)
  case atStart => exact ⟨[], l, bad, Nat.zero_le _, rfl, SpecP.ret _ _ _, hr, by rw [putI_nil]; exact hB, Kb.refl _ _ _⟩
  case round =>
    obtain ⟨xs, l1, b1, hxs, rfl, hs, hr1, hB1, hK1⟩ := hrel
    clear hr hB
    by_cases hlt : xs.length < m
    · have hv1 := (hv.kb hK1 (by omega) (by omega) (Nat.le_refl _)).here
      obtain ⟨p, o, rfl, hp, hcell⟩ := hv1.ptr (k := xs.length) (by rw [List.length_range']; exact hlt)
      rw [List.getElem_range', Nat.one_mul] at hcell
      have hcl := putI_len cs a xs (by omega)
      have hbl := hB1.lt (by omega)
      clear hv1
      go_wp2_with fail
      refine (rdInteger_any W0 g l1 b1 _ hr1).mono ?_
      rintro e w2 ⟨v2, n, l2, b2, rfl, hv2, hs2, hr2, hk2⟩
      obtain rfl := hv2.here
      clear hv2
      have hB2 := hB1.keep (World.grownBy.block hk2 b hbl (by simp; omega))
      have e1 := hB2.cell (j := a + xs.length) (List.getElem?_eq_getElem (by omega))
      have e2 := hB2.free (j := a + xs.length) (by omega)
      have hB3 := hB2.set (j := a + xs.length) (by omega) (.int .i64 n)
      rw [putI_snoc cs a xs n (by omega)] at hB3
      have hK3 := (hK1.trans (hk2.kb b)).set (a + xs.length) (.int .i64 n)
      have hr3 : Rdr W0 (w2.setCell ⟨b, a + xs.length, none⟩ (.int .i64 n)) g l2 b2 := hr2.keepG (hr2.kp.set (by show W0.heap.size ≤ b; omega) _) (set_block _ _ _ _ (by show g ≠ b; omega))
      have hs3 : SpecP (loopP intP (xs.length + 1)) l bad (xs ++ [n]) l2 b2 := by rw [loopP_snoc]; exact hs.bind (hs2.bind (SpecP.ret _ _ _))
      clear hB1 hB2 hK1 hr1 hr2 hs hs2 hk2
      generalize (putI cs a xs)[a + xs.length]'(by omega) = u0 at *
      go_wp2
      go_roundw
      case rel => exact ⟨xs ++ [n], l2, b2, by simp; omega, by simp, by simpa using hs3, hr3, hB3, hK3⟩
      case measure => simp [intOf]; omega
    · obtain rfl : xs.length = m := by omega
      go_wp2
      go_end0
      exact ⟨rfl, xs, l1, b1, rfl, hs, hr1, hB1, hK1⟩
end Go.Proofs.Ytmeafoakbkjifaa
