
/-
Only some blocks have changed; drawn regions with one or two changing operations; an append at an operation.
-/
import Derived.Test.YtcddllaljgfjbaaGM
import Derived.Test.YtcddllaljgfjbaaGrowC
import Derived.Deep.Cut
import Derived.Deep.CutRange
import Derived.Sort.Grow
namespace Go.Proofs.Ytcddllaljgfjbaa
set_option linter.unusedSimpArgs false
set_option linter.unusedVariables false
open Go.RowKit

theorem guard_get {T : Array Value} {i : Nat} {b : Bool} (h : T[i]?.getD undef = .bool b) : T[i]? = some (.bool b) := by
  cases hT : T[i]? with
  | none => rw [hT] at h; cases h
  | some v => rw [hT] at h; exact congrArg some h
theorem ret_int {a b : Int} (h : a = b) : Ending.returned (.int .i64 a) = .returned (.int .i64 b) := by rw [h]
theorem ret_bool {a b : Bool} (h : a = b) : Ending.returned (.bool a) = .returned (.bool b) := by rw [h]
/-! new blocks and draws alone -/
structure KpD (w w' : World) : Prop where
  kp : Kp w w'
  dr : w.drawn ≤ w'.drawn
theorem KpD.refl (w : World) : KpD w w := ⟨Kp.refl w, Nat.le_refl _⟩
theorem KpD.trans {a b c : World} (h : KpD a b) (k : KpD b c) : KpD a c := ⟨h.kp.trans k.kp, Nat.le_trans h.dr k.dr⟩
theorem KpD.drew {a w : World} (h : KpD a w) : KpD a w.drew := ⟨h.kp.drew, Nat.le_trans h.dr (Nat.le_succ _)⟩
theorem KpD.drewN {a w : World} (h : KpD a w) (n : Nat) : KpD a (w.drewN n) := ⟨h.kp.drewN n, Nat.le_trans h.dr (Nat.le_add_right _ _)⟩
theorem KpD.alloc {a w : World} (h : KpD a w) (o : Obj) : KpD a (w.alloc o) := ⟨h.kp.alloc o, h.dr⟩
theorem KpD.cellS {w w' : World} (h : KpD w w') {p : Addr} {v : Value} (hp : w.cell? p = some v) : w'.cell? p = some v := h.kp.cellS hp
theorem KpD.ex {w w' : World} (h : KpD w w') : ∃ q os, w' = Go.Sort.grow (w.drewN q) os := by
  refine ⟨w'.drawn - w.drawn, w'.heap.extract w.heap.size w'.heap.size, ?_⟩
  have h1 := h.kp.os
  have h2 := h.kp.tape
  have h3 := h.kp.output
  have h4 := h.kp.size
  have h5 : w'.heap = w.heap ++ w'.heap.extract w.heap.size w'.heap.size := by
    apply Array.ext_getElem?
    intro i
    by_cases hi : i < w.heap.size
    · rw [Array.getElem?_append_left hi]
      exact h.kp.block hi
    · rw [Array.getElem?_append_right (by omega), Array.getElem?_extract]
      by_cases h6 : i < w'.heap.size
      · rw [if_pos (by omega)]
        congr 1
        omega
      · rw [if_neg (by omega), Array.getElem?_eq_none (by omega)]
  have h6 := h.dr
  obtain ⟨a1, a2, a3, a4, a5⟩ := w'
  obtain ⟨b1, b2, b3, b4, b5⟩ := w
  simp only at h1 h2 h3 h5 h6
  subst h1 h2 h3
  simp only [Go.Sort.grow, World.drewN]
  rw [← h5]
  congr 1
  omega
/-! comparisons of integers -/
/-! only some blocks have changed -/
structure Fx (X : Nat → Prop) (w w' : World) : Prop where
  os : w'.os = w.os
  tape : w'.tape = w.tape
  output : w'.output = w.output
  size : w.heap.size ≤ w'.heap.size
  block : ∀ k, k < w.heap.size → ¬ X k → w'.heap[k]? = w.heap[k]?
section
variable {X Y S T : Nat → Prop} {w w' w2 : World}
theorem Fx.refl (X : Nat → Prop) (w : World) : Fx X w w := ⟨rfl, rfl, rfl, Nat.le_refl _, fun _ _ _ => rfl⟩
theorem Fx.trans (h : Fx X w w') (k : Fx X w' w2) : Fx X w w2 := ⟨k.os.trans h.os, k.tape.trans h.tape, k.output.trans h.output, Nat.le_trans h.size k.size, fun i hi hx => (k.block i (Nat.lt_of_lt_of_le hi h.size) hx).trans (h.block i hi hx)⟩
theorem Kp.fx (h : Kp w w') (X : Nat → Prop) : Fx X w w' := ⟨h.os, h.tape, h.output, h.size, fun _ hi _ => h.block hi⟩
theorem Kg.fx {g : Nat} (h : Kg w w' g) (hg : X g ∨ w.heap.size ≤ g) : Fx X w w' := ⟨h.os, h.tape, h.output, h.size, fun i hi hx => h.block i hi (fun e => by
  injection e with e
  subst e
  rcases hg with hg | hg
  · exact hx hg
  · omega)⟩
theorem Fx.mono (h : Fx X w w') (hs : ∀ k, k < w.heap.size → X k → Y k) : Fx Y w w' := ⟨h.os, h.tape, h.output, h.size, fun i hi hx => h.block i hi fun hx' => hx (hs i hi hx')⟩
theorem Fx.kp (h : Fx X w w') (hx : ∀ k, k < w.heap.size → ¬ X k) : Kp w w' := ⟨h.os, h.tape, h.output, h.size, fun i hi => h.block i hi (hx i hi)⟩
end
theorem Fx.grown {X : Nat → Prop} {a w w' : World} {row : Option Nat} (h : Fx X a w) (hg : w.grownBy w' row) (hr : ∀ g, row = some g → X g ∨ a.heap.size ≤ g) : Fx X a w' :=
  ⟨hg.os.trans h.os, hg.tape.trans h.tape, hg.output.trans h.output, Nat.le_trans h.size hg.size, fun i hi hx => (hg.block i (Nat.lt_of_lt_of_le hi h.size) (fun e => by
    rcases hr i e.symm with h1 | h1
    · exact hx h1
    · omega)).trans (h.block i hi hx)⟩
theorem _root_.Go.World.grownBy.fxg {w w' : World} {row : Option Nat} (h : w.grownBy w' row) (g : Nat) (hr : row = some g) : Fx (fun q => q = g) w w' := ⟨h.os, h.tape, h.output, h.size, fun i hi hx => h.block i hi (by rw [hr]; simp; exact hx)⟩
/-! a drawn region with one operation that changes what is there -/
def StabG (G : World → World → Prop) (p : Value → World → Prop) : Prop := ∀ v w1 w2, p v w1 → G w1 w2 → p v w2
def StabGL (G : World → World → Prop) (ps : List (Value → World → Prop)) : Prop := ∀ p ∈ ps, StabG G p
theorem stabG_nil {G : World → World → Prop} : StabGL G [] := fun _ h => by cases h
theorem stabG_cons {G : World → World → Prop} {p : Value → World → Prop} {ps : List (Value → World → Prop)} (h : StabG G p) (hs : StabGL G ps) : StabGL G (p :: ps) := fun q hq => by
  rcases List.mem_cons.1 hq with rfl | hq
  · exact h
  · exact hs q hq
theorem stabG_eq {G : World → World → Prop} (u : Value) : StabG G (G2.eqv u) := fun _ _ _ h _ => h
def StabCL (G : World → World → Prop) (c : Nat) (ps : List (Value → World → Prop)) : Prop := ∀ j p, ps[j]? = some p → j ≠ c → StabG G p
theorem stabC_here {G : World → World → Prop} {p : Value → World → Prop} {ps : List (Value → World → Prop)} (hs : StabGL G ps) : StabCL G 0 (p :: ps) := fun j q hj hc => by
  cases j with
  | zero => exact absurd rfl hc
  | succ j => exact hs q (List.mem_of_getElem? (by simpa using hj))
theorem stabC_cons {G : World → World → Prop} {c : Nat} {p : Value → World → Prop} {ps : List (Value → World → Prop)} (h : StabG G p) (hs : StabCL G c ps) : StabCL G (c + 1) (p :: ps) := fun j q hj hc => by
  cases j with
  | zero =>
    simp only [List.getElem?_cons_zero, Option.some.injEq] at hj
    subst hj
    exact h
  | succ j => exact hs j q (by simpa using hj) (fun e => hc (by rw [e]))
def GrowStepC (c : Nat) (X : Nat → Prop) (P : Program) (ops : Array Oper) (Q : Exit → Act → World → Prop) (n N : Nat) (a0 : Act) (w0 : World) (PV : Nat → Value → World → Prop) (i : Nat) : Prop :=
  ∀ (a : Act) (w : World), (if i = c then Kp w0 w else Fx X w0 w) → (∀ t, G2.growFree ops n t = true → a.tmps[t]?.getD undef = a0.tmps[t]?.getD undef) → (∀ j, Region.waitsFor .any ops i j = true → PV j (G2.gVal ops a j) w) →
    ∀ K : Act → World → Prop, Hid (∀ v w', (if i = c then Fx X w w' else Kp w w') → PV i (G2.gOut ops i v) w' → K (a.put (G2.gSlot ops i) v) w') → ((ops[i]?).map fun o => if Region.wanted o (yielded ops a.tmps) = true then Oper.wp P o a w K Q else K (a.put o.dst undef) w).getD False
theorem wp_region_growC {P : Program} {Q : Exit → Act → World → Prop} (c : Nat) (X : Nat → Prop) {id : Nat} {a : Act} {w : World} {l : List Oper} (fl : List Nat) (n N : Nat) (ps : List (Value → World → Prop)) (hm : P.follows .mixedOrders = true) (hB : G2.growB l.toArray fl n N = true) (hN : a.tmps.size = N) (hcn : c < n)
    (hQ : ∀ d c a v w, Q (.panic c) (Act.put a (some d) v) w → Q (.panic c) a w) (hst1 : StabCL (Fx X) c ps) (hst2 : ∀ v w1 w2, G2.pvL ps c v w1 → Kp w1 w2 → G2.pvL ps c v w2)
    (hstep : ∀ i, i < n → GrowStepC c X P l.toArray Q n N a w (G2.pvL ps) i)
    (hfl : ∀ i, i ∈ fl → i < n ∧ ∀ (a' : Act) (w' : World), Fx X w w' → (∀ t, G2.growFree l.toArray n t = true → a'.tmps[t]?.getD undef = a.tmps[t]?.getD undef) → (∀ j, Region.waitsFor .any l.toArray i j = true → G2.pvL ps j (G2.gVal l.toArray a' j) w') → ((l.toArray[i]?).map fun o => ∃ v, G2.pvL ps i (G2.gOut l.toArray i v) w' ∧ Yields P l.toArray o v a').getD False)
    (htail : ∀ (v : Nat → Value) w', Fx X w w' → (∀ j, j < n → G2.pvL ps j (G2.gOut l.toArray j (v j)) w') → wpList P l.toArray Q (l.drop n) { a with tmps := G2.growPut l.toArray v a.tmps n } w') : (Code.region id l.toArray true).wp P Q a w := by
  have hns : n < l.toArray.size ∨ True := .inr trivial
  refine G2.wp_region_growJ (fun listed w' => if listed.getD c true = true then Fx X w w' else Kp w w') (fun i w1 w2 => if i = c then Fx X w1 w2 else Kp w1 w2) fl n N (G2.pvL ps) hm hB hN ?_ ?_ hQ ?_ ?_ (fun i w' => by by_cases h : i = c <;> simp only [h, if_true, if_false]; exact Fx.refl _ _; exact Kp.refl _) ?_ ?_
  · split
    · exact ((Kp.refl w).drew).fx X
    · exact (Kp.refl w).drew
  · intro i listed w1 w2 hin hls hun hJ hR
    by_cases hic : i = c
    · subst hic
      rw [if_pos rfl] at hR
      rw [hun, if_neg (by simp)] at hJ
      split
      · exact (hJ.fx X).trans hR
      · rename_i h1
        by_cases hil : i < listed.size
        · exact absurd (by simp [hil]) h1
        · simp [Array.getD_eq_getD_getElem?, Array.getElem?_eq_none (Nat.le_of_not_lt hil)] at hun
    · rw [if_neg hic] at hR
      rw [getD_set_ne true hic]
      split
      · rename_i h1
        rw [if_pos h1] at hJ
        exact hJ.trans (hR.fx X)
      · rename_i h1
        rw [if_neg h1] at hJ
        exact hJ.trans hR
  · intro i j v w1 w2 hij hp hR
    by_cases hjc : j = c
    · subst hjc
      rw [if_neg hij] at hR
      exact hst2 v w1 w2 hp hR
    · have hf : Fx X w1 w2 := by
        by_cases hic : i = c
        · rw [if_pos hic] at hR; exact hR
        · rw [if_neg hic] at hR; exact hR.fx X
      unfold G2.pvL at hp ⊢
      cases hpj : ps[j]? with
      | none => trivial
      | some p =>
        rw [hpj] at hp
        exact hst1 j p hpj hjc v w1 w2 hp hf
  · intro i hin listed a' w' hJ hun hF hD K hK
    refine hstep i hin a' w' ?_ hF hD K hK
    by_cases hic : i = c
    · subst hic
      rw [hun, if_neg (by simp)] at hJ
      rw [if_pos rfl]
      exact hJ
    · rw [if_neg hic]
      by_cases h1 : listed.getD c true = true
      · rw [if_pos h1] at hJ; exact hJ
      · rw [if_neg h1] at hJ; exact hJ.fx X
  · intro i hi
    refine ⟨(hfl i hi).1, fun listed a' w' hJ hF hD => (hfl i hi).2 a' w' ?_ hF hD⟩
    by_cases h1 : listed.getD c true = true
    · rw [if_pos h1] at hJ; exact hJ
    · rw [if_neg h1] at hJ; exact hJ.fx X
  · intro v listed w' hall hJ hv
    rw [if_pos (hall c hcn)] at hJ
    exact htail v w' hJ hv
theorem getD_self {listed : Array Bool} {i : Nat} (h : listed.getD i true = false) : (listed.setIfInBounds i true).getD i false = true := by
  rcases Nat.lt_or_ge i listed.size with h' | h'
  · simp [h']
  · simp [Array.getElem?_eq_none h'] at h
def GrowStepD (c d : Nat) (X Y : Nat → Prop) (P : Program) (ops : Array Oper) (Q : Exit → Act → World → Prop) (n N : Nat) (a0 : Act) (w0 : World) (PV : Nat → Value → World → Prop) (i : Nat) : Prop :=
  ∀ (a : Act) (w : World), (if i = c then Fx Y w0 w else if i = d then Fx X w0 w else Fx (fun k => X k ∨ Y k) w0 w) → (∀ t, G2.growFree ops n t = true → a.tmps[t]?.getD undef = a0.tmps[t]?.getD undef) → (∀ j, Region.waitsFor .any ops i j = true → PV j (G2.gVal ops a j) w) →
    ∀ K : Act → World → Prop, Hid (∀ v w', (if i = c then Fx X w w' else if i = d then Fx Y w w' else Kp w w') → PV i (G2.gOut ops i v) w' → K (a.put (G2.gSlot ops i) v) w') → ((ops[i]?).map fun o => if Region.wanted o (yielded ops a.tmps) = true then Oper.wp P o a w K Q else K (a.put o.dst undef) w).getD False
/-- what two changing operations have changed so far -/
def seenD (c d : Nat) (X Y : Nat → Prop) (listed : Array Bool) (k : Nat) : Prop := (listed.getD c false = true ∧ X k) ∨ (listed.getD d false = true ∧ Y k)
theorem wp_region_growD {P : Program} {Q : Exit → Act → World → Prop} (c d : Nat) (X Y : Nat → Prop) {id : Nat} {a : Act} {w : World} {l : List Oper} (fl : List Nat) (n N : Nat) (ps : List (Value → World → Prop)) (hm : P.follows .mixedOrders = true) (hB : G2.growB l.toArray fl n N = true) (hN : a.tmps.size = N) (hcd : c ≠ d) (hcn : c < n) (hdn : d < n)
    (hQ : ∀ d c a v w, Q (.panic c) (Act.put a (some d) v) w → Q (.panic c) a w)
    (hstc : ∀ v w1 w2, G2.pvL ps c v w1 → Fx Y w1 w2 → G2.pvL ps c v w2) (hstd : ∀ v w1 w2, G2.pvL ps d v w1 → Fx X w1 w2 → G2.pvL ps d v w2)
    (hst : ∀ j, j ≠ c → j ≠ d → ∀ v w1 w2, G2.pvL ps j v w1 → Fx (fun k => X k ∨ Y k) w1 w2 → G2.pvL ps j v w2)
    (hstep : ∀ i, i < n → GrowStepD c d X Y P l.toArray Q n N a w (G2.pvL ps) i)
    (hfl : ∀ i, i ∈ fl → i < n ∧ ∀ (a' : Act) (w' : World), Fx (fun k => X k ∨ Y k) w w' → (∀ t, G2.growFree l.toArray n t = true → a'.tmps[t]?.getD undef = a.tmps[t]?.getD undef) → (∀ j, Region.waitsFor .any l.toArray i j = true → G2.pvL ps j (G2.gVal l.toArray a' j) w') → ((l.toArray[i]?).map fun o => ∃ v, G2.pvL ps i (G2.gOut l.toArray i v) w' ∧ Yields P l.toArray o v a').getD False)
    (htail : ∀ (v : Nat → Value) w', Fx (fun k => X k ∨ Y k) w w' → (∀ j, j < n → G2.pvL ps j (G2.gOut l.toArray j (v j)) w') → wpList P l.toArray Q (l.drop n) { a with tmps := G2.growPut l.toArray v a.tmps n } w') : (Code.region id l.toArray true).wp P Q a w := by
  have hall : ∀ (listed : Array Bool) k, seenD c d X Y listed k → X k ∨ Y k := fun listed k h => by
    rcases h with h | h
    · exact .inl h.2
    · exact .inr h.2
  refine G2.wp_region_growJ (fun listed w' => Fx (seenD c d X Y listed) w w') (fun i w1 w2 => if i = c then Fx X w1 w2 else if i = d then Fx Y w1 w2 else Kp w1 w2) fl n N (G2.pvL ps) hm hB hN ?_ ?_ hQ ?_ ?_ (fun i w' => by
      by_cases h : i = c
      · simp only [h, if_true]; exact Fx.refl _ _
      · by_cases h2 : i = d
        · simp only [h2, Ne.symm hcd, if_true, if_false]; exact Fx.refl _ _
        · simp only [h, h2, if_false]; exact Kp.refl _) ?_ ?_
  · exact ((Kp.refl w).drew).fx _
  · intro i listed w1 w2 hin hls hun hJ hR
    have h1 : Fx (seenD c d X Y (listed.setIfInBounds i true)) w w1 := hJ.mono fun k _ hk => by
      rcases hk with hk | hk
      · exact .inl ⟨getD_set_true hk.1, hk.2⟩
      · exact .inr ⟨getD_set_true hk.1, hk.2⟩
    refine h1.trans ?_
    by_cases hic : i = c
    · subst hic
      rw [if_pos rfl] at hR
      exact hR.mono fun k _ hk => .inl ⟨getD_self hun, hk⟩
    · rw [if_neg hic] at hR
      by_cases hid : i = d
      · subst hid
        rw [if_pos rfl] at hR
        exact hR.mono fun k _ hk => .inr ⟨getD_self hun, hk⟩
      · rw [if_neg hid] at hR
        exact hR.fx _
  · intro i j v w1 w2 hij hp hR
    by_cases hjc : j = c
    · subst hjc
      rw [if_neg hij] at hR
      refine hstc v w1 w2 hp ?_
      by_cases hid : i = d
      · rw [if_pos hid] at hR; exact hR
      · rw [if_neg hid] at hR; exact hR.fx _
    · by_cases hjd : j = d
      · subst hjd
        rw [if_neg hij] at hR
        refine hstd v w1 w2 hp ?_
        by_cases hic : i = c
        · rw [if_pos hic] at hR; exact hR
        · rw [if_neg hic] at hR; exact hR.fx _
      · refine hst j hjc hjd v w1 w2 hp ?_
        by_cases hic : i = c
        · rw [if_pos hic] at hR; exact hR.mono fun k _ hk => .inl hk
        · rw [if_neg hic] at hR
          by_cases hid : i = d
          · rw [if_pos hid] at hR; exact hR.mono fun k _ hk => .inr hk
          · rw [if_neg hid] at hR; exact hR.fx _
  · intro i hin listed a' w' hJ hun hF hD K hK
    refine hstep i hin a' w' ?_ hF hD K hK
    have hun' := getD_both hun
    by_cases hic : i = c
    · rw [if_pos hic]
      subst hic
      exact hJ.mono fun k _ hk => by
        rcases hk with hk | hk
        · rw [hun'] at hk; exact absurd hk.1 (by decide)
        · exact hk.2
    · rw [if_neg hic]
      by_cases hid : i = d
      · rw [if_pos hid]
        subst hid
        exact hJ.mono fun k _ hk => by
          rcases hk with hk | hk
          · exact hk.2
          · rw [hun'] at hk; exact absurd hk.1 (by decide)
      · rw [if_neg hid]
        exact hJ.mono fun k _ hk => hall _ k hk
  · intro i hi
    refine ⟨(hfl i hi).1, fun listed a' w' hJ hF hD => (hfl i hi).2 a' w' (hJ.mono fun k _ hk => hall _ k hk) hF hD⟩
  · intro v listed w' hl hJ hv
    exact htail v w' (hJ.mono fun k _ hk => hall _ k hk) hv
/-- stability of the properties but those of the two -/
def StabDL (G : World → World → Prop) (c d : Nat) (ps : List (Value → World → Prop)) : Prop := ∀ j p, ps[j]? = some p → j ≠ c → j ≠ d → StabG G p
theorem stabD_list {G : World → World → Prop} {c d : Nat} {ps : List (Value → World → Prop)} (h : StabDL G c d ps) : ∀ j, j ≠ c → j ≠ d → ∀ v w1 w2, G2.pvL ps j v w1 → G w1 w2 → G2.pvL ps j v w2 := fun j hc hd v w1 w2 hp hg => by
  unfold G2.pvL at hp ⊢
  cases hpj : ps[j]? with
  | none => trivial
  | some p =>
    rw [hpj] at hp
    exact h j p hpj hc hd v w1 w2 hp hg
/-! appending, at an operation -/
theorem wp_append_flat {P : Program} {α : Type} {enc : α → List Value} {t e size bytes base : Nat} {w : World} {v : Value} {l : List α} {o : Oper} {a : Act} {K : Act → World → Prop} {Q : Exit → Act → World → Prop} (s x : Operand)
    (ho : o.op = .call { callee := .builtin .append, args := #[s, x], argTypes := #[t, t] }) (hT : SliceT P t e size bytes) (he : ∀ x, (enc x).length = size) (h1 : ∀ x, ∀ u ∈ enc x, u.oneCell' = true)
    (hs : a.eval s = v) (hown : Own enc e size base w v l)
    {v2 : Value} {m : List α} (hx : a.eval x = v2) (hsrc : Sl (Pl enc) size w v2 m) (hlen : l.length + m.length ≤ 4611686018427387904) (hby : (l.length + m.length) * bytes ≤ 140737488355328) (hbase : base ≤ w.heap.size)
    (h : ∀ v' w', Own enc e size base w' v' (l ++ m) → w.grownBy w' v.ownBlock → (v'.ownBlock = v.ownBlock ∨ v'.ownBlock = some w.heap.size) → K (a.put o.dst v') w') : Oper.wp P o a w K Q := by
  obtain ⟨v', w', hr, h2, h3, h4, h5⟩ := run_append_flat hT he h1 o.type hown hsrc hlen hby hbase
  unfold Oper.wp execOp
  simp only [ho, resolve, invoke, builtin, Sem.run_bind, Sem.run_pure, Result.andThen_ok, List.map_toArray, List.map_cons, List.map_nil, hs, hx, hr]
  exact h v' w' h2 h3 h4
theorem eval_tmp (a : Act) (i : Nat) : a.eval (.tmp i) = a.tmps[i]?.getD undef := by simp [Act.eval]
theorem Fx.cellS {X : Nat → Prop} {w w' : World} (h : Fx X w w') {p : Addr} {v : Value} (hp : w.cell? p = some v) (hx : ¬ X p.block) : w'.cell? p = some v := (World.cell?_of_block (h.block p.block (block_lt_of_cell hp) hx)).trans hp
theorem kp_range {w w' : World} (hk : Kp w w') {b o : Nat} {cs : List Value} (h : w.rangeAt b o cs) : w'.rangeAt b o cs := fun j u hu => hk.cellS (h j u hu)
end Go.Proofs.Ytcddllaljgfjbaa
