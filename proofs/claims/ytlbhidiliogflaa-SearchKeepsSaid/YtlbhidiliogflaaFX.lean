/-
Regions that draw their order, of whose operations one changes what is there: each operation is looked at once, and knows that it has not run yet. Nothing here speaks of the program.
Only some blocks have changed; drawn regions with one or two changing operations; an append at an operation.
-/
import Derived.Test.YtlbhidiliogflaaGM
import Derived.Deep.Cut
import Derived.Deep.CutRange
import Derived.Sort.Grow
namespace Go.Proofs.Ytlbhidiliogflaa.G2
set_option linter.unusedSimpArgs false
set_option linter.unusedVariables false
open Go.RowKit
section
variable {P : Program} {ops : Array Oper} {Q : Exit → Act → World → Prop} {fl : List Nat} {n N : Nat} {a0 : Act} {w0 : World} {PV : Nat → Value → World → Prop} {G : World → World → Prop}
variable {J : Array Bool → World → Prop} {R : Nat → World → World → Prop}
structure GrowJ (J : Array Bool → World → Prop) (ops : Array Oper) (n N : Nat) (a0 : Act) (PV : Nat → Value → World → Prop) (listed : Array Bool) (a : Act) (w : World) : Prop where
  kp : J listed w
  df : a.defers = a0.defers
  sz : a.tmps.size = N
  fr : ∀ t, growFree ops n t = true → a.tmps[t]? = a0.tmps[t]?
  pv : ∀ j, j < n → listed.getD j true = true → PV j (gVal ops a j) w
/-- what one operation owes, that has not run yet -/
def GrowStepJ (J : Array Bool → World → Prop) (R : Nat → World → World → Prop) (P : Program) (ops : Array Oper) (Q : Exit → Act → World → Prop) (n N : Nat) (a0 : Act) (PV : Nat → Value → World → Prop) (i : Nat) : Prop :=
  ∀ (listed : Array Bool) (a : Act) (w : World), J listed w → listed.getD i true = false → (∀ t, growFree ops n t = true → a.tmps[t]?.getD undef = a0.tmps[t]?.getD undef) → (∀ j, Region.waitsFor .any ops i j = true → PV j (gVal ops a j) w) →
    ∀ K : Act → World → Prop, Hid (∀ v w', R i w w' → PV i (gOut ops i v) w' → K (a.put (gSlot ops i) v) w') → ((ops[i]?).map fun o => if Region.wanted o (yielded ops a.tmps) = true then Oper.wp P o a w K Q else K (a.put o.dst undef) w).getD False
theorem growJ_put {i : Nat} {listed : Array Bool} {a : Act} {w w' : World} {v : Value} (hB : growB ops fl n N = true) (hst : ∀ j v, i ≠ j → PV j v w → PV j v w') (I : GrowJ J ops n N a0 PV listed a w) (hin : i < n) (hJ : J (listed.setIfInBounds i true) w') (hv : PV i (gOut ops i v) w') :
    GrowJ J ops n N a0 PV (listed.setIfInBounds i true) (a.put (gSlot ops i) v) w' := by
  obtain ⟨o, ho, hd, hdN, hb⟩ := growB_dst hB hin
  cases hsl : gSlot ops i with
  | none =>
    refine ⟨hJ, I.df, I.sz, I.fr, fun j hj hl => ?_⟩
    show PV j (gVal ops a j) w'
    by_cases hij : i = j
    · subst hij
      unfold gOut at hv
      unfold gVal
      rw [hsl] at hv ⊢
      exact hv
    · rw [getD_set_ne true hij] at hl
      exact hst j _ hij (I.pv j hj hl)
  | some d =>
    obtain ⟨hdn, hne⟩ := hdN d hsl
    refine ⟨hJ, by simpa [Act.put] using I.df, by simpa [Act.put] using I.sz, fun t ht => ?_, fun j hj hl => ?_⟩
    · have hti : d ≠ t := by
        unfold growFree at ht
        simp only [List.all_eq_true, List.mem_range, decide_eq_true_eq] at ht
        intro e
        exact ht i hin (by rw [hsl, e])
      rw [show (a.put (some d) v).tmps = a.tmps.setIfInBounds d v from rfl, Array.getElem?_setIfInBounds_ne hti]
      exact I.fr t ht
    · by_cases hij : i = j
      · subst hij
        unfold gOut at hv
        unfold gVal
        rw [hsl] at hv ⊢
        dsimp only at hv ⊢
        rw [show (a.put (some d) v).tmps = a.tmps.setIfInBounds d v from rfl, Array.getElem?_setIfInBounds_self_of_lt (by rw [I.sz]; exact hdn)]
        exact hv
      · have h1 : gVal ops (a.put (some d) v) j = gVal ops a j := by
          unfold gVal
          cases hsj : gSlot ops j with
          | none => rfl
          | some d' =>
            dsimp only
            have : d ≠ d' := fun e => hne j hj hij (by rw [hsj, e])
            rw [show (a.put (some d) v).tmps = a.tmps.setIfInBounds d v from rfl, Array.getElem?_setIfInBounds_ne this]
        rw [h1]
        rw [getD_set_ne true hij] at hl
        exact hst j _ hij (I.pv j hj hl)
theorem growJ_main (hB : growB ops fl n N = true) (hJR : ∀ i listed w w', i < n → listed.size = ops.size → listed.getD i true = false → J listed w → R i w w' → J (listed.setIfInBounds i true) w') (hQ : ∀ d c a v w, Q (.panic c) (Act.put a (some d) v) w → Q (.panic c) a w) (hst : ∀ i j v w1 w2, i ≠ j → PV j v w1 → R i w1 w2 → PV j v w2) (hstep : ∀ i, i < n → GrowStepJ J R P ops Q n N a0 PV i)
    (hRr : ∀ i w, R i w w) (hfl : ∀ i, i ∈ fl → i < n ∧ ∀ (listed : Array Bool) (a : Act) (w : World), J listed w → (∀ t, growFree ops n t = true → a.tmps[t]?.getD undef = a0.tmps[t]?.getD undef) → (∀ j, Region.waitsFor .any ops i j = true → PV j (gVal ops a j) w) → ((ops[i]?).map fun o => ∃ v, PV i (gOut ops i v) w ∧ Yields P ops o v a).getD False)
    (htail : ∀ listed a w, (∀ i, i < n → listed.getD i true = true) → J listed w → a.defers = a0.defers → a.tmps.size = N → (∀ t, growFree ops n t = true → a.tmps[t]? = a0.tmps[t]?) → (∀ j, j < n → PV j (gVal ops a j) w) → wpList P ops Q (ops.toList.drop n) a w) :
    ∀ (f : Nat) (listed : Array Bool) (a : Act) (w : World), HeadInv .any ops n listed → cntU listed n = f → GrowJ J ops n N a0 PV listed a w → wpAny P .any ops Q (f + (ops.size - n)) listed a w := by
  have hB' := hB
  unfold growB at hB'
  simp only [Bool.and_eq_true, decide_eq_true_eq] at hB'
  obtain ⟨⟨⟨⟨-, hn⟩, ⟨hs, hF⟩, hsel⟩, hc⟩, hq⟩ := hB'
  intro f
  induction f with
  | zero =>
    intro listed a w inv h0 I
    have hall := cntU_zero h0
    have hl : listed = Array.replicate n true ++ Array.replicate (ops.size - n) false := by
      apply Array.ext
      · rw [inv.size]; simp; omega
      · intro i h1 h2
        have hi : i < ops.size := by rw [← inv.size]; exact h1
        by_cases hin : i < n
        · have := hall i hin
          rw [Array.getElem_append_left (by simpa using hin), Array.getElem_replicate]
          simpa [h1] using this
        · have := inv.tail i (by omega) hi
          rw [Array.getElem_append_right (by simpa using hin), Array.getElem_replicate]
          simpa [h1] using this
    have hdl : (ops.toList.drop n).length = ops.size - n := by simp
    have := wpAny_of_seq (P := P) (md := .any) (ops := ops) (Q' := Q) (ops.toList.drop n) n listed a w (fun j => by simp [List.getElem?_drop]) (by rw [hdl, hl]; exact hq) (htail listed a w hall I.kp I.df I.sz I.fr fun j hj => I.pv j hj (hall j hj))
    rw [hdl] at this
    simpa using this
  | succ f ih =>
    intro listed a w inv hf I
    obtain ⟨m, hm, hmu, hmin⟩ := cntU_pos (listed := listed) (n := n) (by omega)
    have hmr : m ∈ Region.ready .any ops listed := by
      obtain ⟨o, ho, -, -, hb⟩ := growB_dst hB hm
      exact mem_ready.2 ⟨hmu, o, ho, fun e he hbn => by
        have h1 := hmin e.on (hb e he hbn)
        have h2 : e.on < listed.size := by rw [inv.size]; have := hb e he hbn; omega
        simpa [h2] using h1⟩
    have hdeps : ∀ i, i ∈ Region.ready .any ops listed → i < n → ∀ j, Region.waitsFor .any ops i j = true → PV j (gVal ops a j) w := by
      intro i hi hin j hj
      obtain ⟨o, ho, -, -, hb⟩ := growB_dst hB hin
      obtain ⟨hun, o', ho', hall⟩ := mem_ready.1 hi
      obtain rfl : o = o' := Option.some.inj (ho.symm.trans ho')
      obtain ⟨oj, hoj, e, he, hbn, hon⟩ := waits_mem hj
      obtain rfl : o = oj := Option.some.inj (ho.symm.trans hoj)
      have hl := hall _ he hbn
      rw [hon] at hl
      have hjn : j < n := by have := hb _ he hbn; omega
      refine I.pv j hjn ?_
      have h2 : j < listed.size := by rw [inv.size]; omega
      simpa [h2] using hl
    rw [show f + 1 + (ops.size - n) = (f + (ops.size - n)) + 1 by omega]
    by_cases hA : ∃ i, i < n ∧ i ∉ fl ∧ listed.getD i true = false
    · obtain ⟨x, hx, hxf, hxu⟩ := hA
      refine ⟨fun h0 => (by rw [h0] at hmr; cases hmr), fun i hi => ?_⟩
      have hin : i < n := by
        rcases Nat.lt_or_ge i n with h | h
        · exact h
        · exact absurd hi (tailWaits hs hc inv _ x rfl hx hxf hxu i h)
      obtain ⟨o, ho, hd, hdN, hb⟩ := growB_dst hB hin
      obtain ⟨hun, o', ho', hall⟩ := mem_ready.1 hi
      refine wpOp_step ho fun K' hK => ?_
      have h1 := hstep i hin listed a w I.kp hun (fun t ht => by rw [I.fr t ht]) (hdeps i hi hin) K' (hid fun v w' hk hv => hK _ _ (ih _ _ _ (inv.set hi hin) (by have := (cntU_set hun (n := n)).1 hin; omega) (growJ_put hB (fun j v hij h => hst i j v _ _ hij h hk) I hin (hJR i listed w w' hin inv.size hun I.kp hk) hv)))
      rw [ho] at h1
      exact h1
    · have hmf : m ∈ fl := by
        by_cases h : m ∈ fl
        · exact h
        · exact absurd ⟨m, hm, h, hmu⟩ hA
      obtain ⟨o, ho, hd, hdN, hb⟩ := growB_dst hB hm
      have h1 := (hfl m hmf).2 listed a w I.kp (fun t ht => by rw [I.fr t ht]) (hdeps m hmr hm)
      rw [ho] at h1
      obtain ⟨v, hv, hy⟩ : ∃ v, PV m (gOut ops m v) w ∧ Yields P ops o v a := h1
      refine wpAny_first ho (Region.noSelect_spec hsel) (fun c a w h => ?_) _ listed a w (fun j oj hoj hji hju hno => ?_) hmr hy ?_
      · cases hdd : o.dst with
        | none => rw [hdd] at h; exact h
        | some d => rw [hdd] at h; exact hQ d c a v w h
      · unfold floatB at hF
        simp only [List.all_eq_true, List.mem_range, Bool.or_eq_true, decide_eq_true_eq] at hF
        rcases hF m hmf j (Array.getElem?_eq_some_iff.1 hoj).1 with ((h2 | h2) | h2) | h2
        · exact absurd h2 hji
        · obtain ⟨oj', hoj', e, he, hbn, hon⟩ := waits_mem h2
          obtain rfl : oj = oj' := Option.some.inj (hoj.symm.trans hoj')
          exact absurd hon (hno e he hbn)
        · obtain ⟨om, hom, e, he, hbn, hon⟩ := waits_mem h2
          obtain rfl : o = om := Option.some.inj (ho.symm.trans hom)
          have h3 := hmin e.on (hb e he hbn)
          rw [hon, hju] at h3
          cases h3
        · rw [ho, hoj] at h2
          simpa using h2
      · rw [hd]
        exact ih _ _ _ (inv.set hmr hm) (by have := (cntU_set hmu (n := n)).1 hm; omega) (growJ_put hB (fun j v hij h => hst m j v _ _ hij h (hRr m w)) I hm (hJR m listed w w hm inv.size hmu I.kp (hRr m w)) hv)
theorem wp_region_growJ (J : Array Bool → World → Prop) (R : Nat → World → World → Prop) {id : Nat} {a : Act} {w : World} {l : List Oper} (fl : List Nat) (n N : Nat) (PV : Nat → Value → World → Prop) (hm : P.follows .mixedOrders = true) (hB : growB l.toArray fl n N = true) (hN : a.tmps.size = N)
    (hJ0 : J (Array.replicate l.toArray.size false) w.drew) (hJR : ∀ i listed w w', i < n → listed.size = l.toArray.size → listed.getD i true = false → J listed w → R i w w' → J (listed.setIfInBounds i true) w')
    (hQ : ∀ d c a v w, Q (.panic c) (Act.put a (some d) v) w → Q (.panic c) a w) (hst : ∀ i j v w1 w2, i ≠ j → PV j v w1 → R i w1 w2 → PV j v w2) (hstep : ∀ i, i < n → GrowStepJ J R P l.toArray Q n N a PV i)
    (hRr : ∀ i w, R i w w) (hfl : ∀ i, i ∈ fl → i < n ∧ ∀ (listed : Array Bool) (a' : Act) (w : World), J listed w → (∀ t, growFree l.toArray n t = true → a'.tmps[t]?.getD undef = a.tmps[t]?.getD undef) → (∀ j, Region.waitsFor .any l.toArray i j = true → PV j (gVal l.toArray a' j) w) → ((l.toArray[i]?).map fun o => ∃ v, PV i (gOut l.toArray i v) w ∧ Yields P l.toArray o v a').getD False)
    (htail : ∀ (v : Nat → Value) listed w', (∀ i, i < n → listed.getD i true = true) → J listed w' → (∀ j, j < n → PV j (gOut l.toArray j (v j)) w') → wpList P l.toArray Q (l.drop n) { a with tmps := growPut l.toArray v a.tmps n } w') : (Code.region id l.toArray true).wp P Q a w := by
  refine wp_region_any hm ?_
  have hB' := hB
  unfold growB at hB'
  simp only [Bool.and_eq_true, decide_eq_true_eq] at hB'
  obtain ⟨⟨⟨⟨-, hn⟩, -⟩, hc⟩, hq⟩ := hB'
  have inv0 : HeadInv .any l.toArray n (Array.replicate l.toArray.size false) :=
    ⟨by simp, fun j oj _ hl => (by rw [getD_replicate_false] at hl; cases hl), fun t _ ht => getD_in (by simpa using ht) (getD_replicate_false _ _)⟩
  have := growJ_main (P := P) (Q := Q) (a0 := a) (PV := PV) (J := J) (R := R) hB hJR hQ hst hstep hRr hfl (fun listed a' w' hall hk hd hz hf hv => by
    have e : a' = { a with tmps := growPut l.toArray (gVal l.toArray a') a.tmps n } := by
      have e1 : growPut l.toArray (gVal l.toArray a') a.tmps n = a'.tmps := by
        apply Array.ext_getElem?
        intro t
        refine growPut_get _ a.tmps a'.tmps (fun j d hjd => by unfold gVal; rw [hjd]) (by omega) n t ?_
        cases ht : growFree l.toArray n t with
        | true => exact .inr (hf t ht).symm
        | false =>
          left
          unfold growFree at ht
          rw [List.all_eq_false] at ht
          obtain ⟨j, hj, hne⟩ := ht
          exact ⟨j, List.mem_range.1 hj, by simpa using hne⟩
      rw [e1]
      cases a'
      simp only at hd
      rw [hd]
    rw [e]
    have := htail (gVal l.toArray a') listed w' hall hk (fun j hj => by
      have h1 := hv j hj
      unfold gOut gVal
      unfold gVal at h1
      cases hsl : gSlot l.toArray j with
      | none => rw [hsl] at h1; exact h1
      | some d => rw [hsl] at h1; exact h1)
    simpa using this) n (Array.replicate l.toArray.size false) a _ inv0 (cntU_new _ _ (by omega)) ⟨hJ0, rfl, hN, fun _ _ => rfl, fun j hj hl => by
      have hjs : j < l.toArray.size := by omega
      simp only [Array.getD_eq_getD_getElem?, Array.getElem?_replicate] at hl
      rw [if_pos hjs] at hl
      simp at hl⟩
  rw [show n + (l.toArray.size - n) = l.toArray.size by omega] at this
  exact this
end
end Go.Proofs.Ytlbhidiliogflaa.G2
namespace Go.Proofs.Ytlbhidiliogflaa
set_option linter.unusedSimpArgs false
set_option linter.unusedVariables false
open Go.RowKit

theorem guard_get {T : Array Value} {i : Nat} {b : Bool} (h : T[i]?.getD undef = .bool b) : T[i]? = some (.bool b) := by
  cases hT : T[i]? with
  | none => rw [hT] at h; cases h
  | some v => rw [hT] at h; exact congrArg some h
theorem fxret_int {a b : Int} (h : a = b) : Ending.returned (.int .i64 a) = .returned (.int .i64 b) := by rw [h]
theorem fxret_bool {a b : Bool} (h : a = b) : Ending.returned (.bool a) = .returned (.bool b) := by rw [h]
/-! new blocks and draws alone -/
structure KpD (w w' : World) : Prop where
  kp : Kp w w'
  dr : w.drawn ≤ w'.drawn
theorem KpD.refl (w : World) : KpD w w := ⟨Kp.refl w, Nat.le_refl _⟩
theorem KpD.trans {a b c : World} (h : KpD a b) (k : KpD b c) : KpD a c := ⟨h.kp.trans k.kp, Nat.le_trans h.dr k.dr⟩
theorem KpD.drew {a w : World} (h : KpD a w) : KpD a w.drew := ⟨h.kp.drew, Nat.le_trans h.dr (Nat.le_succ _)⟩
theorem KpD.drewN {a w : World} (h : KpD a w) (n : Nat) : KpD a (w.drewN n) := ⟨h.kp.drewN n, Nat.le_trans h.dr (Nat.le_add_right _ _)⟩
theorem KpD.alloc {a w : World} (h : KpD a w) (o : Obj) : KpD a (w.alloc o) := ⟨h.kp.alloc o, h.dr⟩
theorem KpD.cellS {w w' : World} (h : KpD w w') {p : Addr} {v : Value} (hp : w.cell? p = some v) : w'.cell? p = some v := h.kp.cellS hp
theorem KpD.ex {w w' : World} (h : KpD w w') : ∃ q os, w' = Go.Sort.grow (w.drewN q) os := by
  refine ⟨w'.drawn - w.drawn, w'.heap.extract w.heap.size w'.heap.size, ?_⟩
  have h1 := h.kp.os
  have h2 := h.kp.tape
  have h3 := h.kp.output
  have h4 := h.kp.size
  have h5 : w'.heap = w.heap ++ w'.heap.extract w.heap.size w'.heap.size := by
    apply Array.ext_getElem?
    intro i
    by_cases hi : i < w.heap.size
    · rw [Array.getElem?_append_left hi]
      exact h.kp.block hi
    · rw [Array.getElem?_append_right (by omega), Array.getElem?_extract]
      by_cases h6 : i < w'.heap.size
      · rw [if_pos (by omega)]
        congr 1
        omega
      · rw [if_neg (by omega), Array.getElem?_eq_none (by omega)]
  have h6 := h.dr
  obtain ⟨a1, a2, a3, a4, a5⟩ := w'
  obtain ⟨b1, b2, b3, b4, b5⟩ := w
  simp only at h1 h2 h3 h5 h6
  subst h1 h2 h3
  simp only [Go.Sort.grow, World.drewN]
  rw [← h5]
  congr 1
  omega
/-! comparisons of integers -/
/-! only some blocks have changed -/
structure Fx (X : Nat → Prop) (w w' : World) : Prop where
  os : w'.os = w.os
  tape : w'.tape = w.tape
  output : w'.output = w.output
  size : w.heap.size ≤ w'.heap.size
  block : ∀ k, k < w.heap.size → ¬ X k → w'.heap[k]? = w.heap[k]?
section
variable {X Y S T : Nat → Prop} {w w' w2 : World}
theorem Fx.refl (X : Nat → Prop) (w : World) : Fx X w w := ⟨rfl, rfl, rfl, Nat.le_refl _, fun _ _ _ => rfl⟩
theorem Fx.trans (h : Fx X w w') (k : Fx X w' w2) : Fx X w w2 := ⟨k.os.trans h.os, k.tape.trans h.tape, k.output.trans h.output, Nat.le_trans h.size k.size, fun i hi hx => (k.block i (Nat.lt_of_lt_of_le hi h.size) hx).trans (h.block i hi hx)⟩
theorem Kp.fx (h : Kp w w') (X : Nat → Prop) : Fx X w w' := ⟨h.os, h.tape, h.output, h.size, fun _ hi _ => h.block hi⟩
theorem Kg.fx {g : Nat} (h : Kg w w' g) (hg : X g ∨ w.heap.size ≤ g) : Fx X w w' := ⟨h.os, h.tape, h.output, h.size, fun i hi hx => h.block i hi (fun e => by
  injection e with e
  subst e
  rcases hg with hg | hg
  · exact hx hg
  · omega)⟩
theorem Fx.mono (h : Fx X w w') (hs : ∀ k, k < w.heap.size → X k → Y k) : Fx Y w w' := ⟨h.os, h.tape, h.output, h.size, fun i hi hx => h.block i hi fun hx' => hx (hs i hi hx')⟩
theorem Fx.kp (h : Fx X w w') (hx : ∀ k, k < w.heap.size → ¬ X k) : Kp w w' := ⟨h.os, h.tape, h.output, h.size, fun i hi => h.block i hi (hx i hi)⟩
end
theorem Fx.grown {X : Nat → Prop} {a w w' : World} {row : Option Nat} (h : Fx X a w) (hg : w.grownBy w' row) (hr : ∀ g, row = some g → X g ∨ a.heap.size ≤ g) : Fx X a w' :=
  ⟨hg.os.trans h.os, hg.tape.trans h.tape, hg.output.trans h.output, Nat.le_trans h.size hg.size, fun i hi hx => (hg.block i (Nat.lt_of_lt_of_le hi h.size) (fun e => by
    rcases hr i e.symm with h1 | h1
    · exact hx h1
    · omega)).trans (h.block i hi hx)⟩
theorem _root_.Go.World.grownBy.fxg {w w' : World} {row : Option Nat} (h : w.grownBy w' row) (g : Nat) (hr : row = some g) : Fx (fun q => q = g) w w' := ⟨h.os, h.tape, h.output, h.size, fun i hi hx => h.block i hi (by rw [hr]; simp; exact hx)⟩
/-! a drawn region with one operation that changes what is there -/
def StabG (G : World → World → Prop) (p : Value → World → Prop) : Prop := ∀ v w1 w2, p v w1 → G w1 w2 → p v w2
def StabGL (G : World → World → Prop) (ps : List (Value → World → Prop)) : Prop := ∀ p ∈ ps, StabG G p
theorem stabG_nil {G : World → World → Prop} : StabGL G [] := fun _ h => by cases h
theorem stabG_cons {G : World → World → Prop} {p : Value → World → Prop} {ps : List (Value → World → Prop)} (h : StabG G p) (hs : StabGL G ps) : StabGL G (p :: ps) := fun q hq => by
  rcases List.mem_cons.1 hq with rfl | hq
  · exact h
  · exact hs q hq
theorem stabG_eq {G : World → World → Prop} (u : Value) : StabG G (G2.eqv u) := fun _ _ _ h _ => h
def StabCL (G : World → World → Prop) (c : Nat) (ps : List (Value → World → Prop)) : Prop := ∀ j p, ps[j]? = some p → j ≠ c → StabG G p
theorem stabC_here {G : World → World → Prop} {p : Value → World → Prop} {ps : List (Value → World → Prop)} (hs : StabGL G ps) : StabCL G 0 (p :: ps) := fun j q hj hc => by
  cases j with
  | zero => exact absurd rfl hc
  | succ j => exact hs q (List.mem_of_getElem? (by simpa using hj))
theorem stabC_cons {G : World → World → Prop} {c : Nat} {p : Value → World → Prop} {ps : List (Value → World → Prop)} (h : StabG G p) (hs : StabCL G c ps) : StabCL G (c + 1) (p :: ps) := fun j q hj hc => by
  cases j with
  | zero =>
    simp only [List.getElem?_cons_zero, Option.some.injEq] at hj
    subst hj
    exact h
  | succ j => exact hs j q (by simpa using hj) (fun e => hc (by rw [e]))
def GrowStepC (c : Nat) (X : Nat → Prop) (P : Program) (ops : Array Oper) (Q : Exit → Act → World → Prop) (n N : Nat) (a0 : Act) (w0 : World) (PV : Nat → Value → World → Prop) (i : Nat) : Prop :=
  ∀ (a : Act) (w : World), (if i = c then Kp w0 w else Fx X w0 w) → (∀ t, G2.growFree ops n t = true → a.tmps[t]?.getD undef = a0.tmps[t]?.getD undef) → (∀ j, Region.waitsFor .any ops i j = true → PV j (G2.gVal ops a j) w) →
    ∀ K : Act → World → Prop, Hid (∀ v w', (if i = c then Fx X w w' else Kp w w') → PV i (G2.gOut ops i v) w' → K (a.put (G2.gSlot ops i) v) w') → ((ops[i]?).map fun o => if Region.wanted o (yielded ops a.tmps) = true then Oper.wp P o a w K Q else K (a.put o.dst undef) w).getD False
theorem wp_region_growC {P : Program} {Q : Exit → Act → World → Prop} (c : Nat) (X : Nat → Prop) {id : Nat} {a : Act} {w : World} {l : List Oper} (fl : List Nat) (n N : Nat) (ps : List (Value → World → Prop)) (hm : P.follows .mixedOrders = true) (hB : G2.growB l.toArray fl n N = true) (hN : a.tmps.size = N) (hcn : c < n)
    (hQ : ∀ d c a v w, Q (.panic c) (Act.put a (some d) v) w → Q (.panic c) a w) (hst1 : StabCL (Fx X) c ps) (hst2 : ∀ v w1 w2, G2.pvL ps c v w1 → Kp w1 w2 → G2.pvL ps c v w2)
    (hstep : ∀ i, i < n → GrowStepC c X P l.toArray Q n N a w (G2.pvL ps) i)
    (hfl : ∀ i, i ∈ fl → i < n ∧ ∀ (a' : Act) (w' : World), Fx X w w' → (∀ t, G2.growFree l.toArray n t = true → a'.tmps[t]?.getD undef = a.tmps[t]?.getD undef) → (∀ j, Region.waitsFor .any l.toArray i j = true → G2.pvL ps j (G2.gVal l.toArray a' j) w') → ((l.toArray[i]?).map fun o => ∃ v, G2.pvL ps i (G2.gOut l.toArray i v) w' ∧ Yields P l.toArray o v a').getD False)
    (htail : ∀ (v : Nat → Value) w', Fx X w w' → (∀ j, j < n → G2.pvL ps j (G2.gOut l.toArray j (v j)) w') → wpList P l.toArray Q (l.drop n) { a with tmps := G2.growPut l.toArray v a.tmps n } w') : (Code.region id l.toArray true).wp P Q a w := by
  have hns : n < l.toArray.size ∨ True := .inr trivial
  refine G2.wp_region_growJ (fun listed w' => if listed.getD c true = true then Fx X w w' else Kp w w') (fun i w1 w2 => if i = c then Fx X w1 w2 else Kp w1 w2) fl n N (G2.pvL ps) hm hB hN ?_ ?_ hQ ?_ ?_ (fun i w' => by by_cases h : i = c <;> simp only [h, if_true, if_false]; exact Fx.refl _ _; exact Kp.refl _) ?_ ?_
  · split
    · exact ((Kp.refl w).drew).fx X
    · exact (Kp.refl w).drew
  · intro i listed w1 w2 hin hls hun hJ hR
    by_cases hic : i = c
    · subst hic
      rw [if_pos rfl] at hR
      rw [hun, if_neg (by simp)] at hJ
      split
      · exact (hJ.fx X).trans hR
      · rename_i h1
        by_cases hil : i < listed.size
        · exact absurd (by simp [hil]) h1
        · simp [Array.getD_eq_getD_getElem?, Array.getElem?_eq_none (Nat.le_of_not_lt hil)] at hun
    · rw [if_neg hic] at hR
      rw [getD_set_ne true hic]
      split
      · rename_i h1
        rw [if_pos h1] at hJ
        exact hJ.trans (hR.fx X)
      · rename_i h1
        rw [if_neg h1] at hJ
        exact hJ.trans hR
  · intro i j v w1 w2 hij hp hR
    by_cases hjc : j = c
    · subst hjc
      rw [if_neg hij] at hR
      exact hst2 v w1 w2 hp hR
    · have hf : Fx X w1 w2 := by
        by_cases hic : i = c
        · rw [if_pos hic] at hR; exact hR
        · rw [if_neg hic] at hR; exact hR.fx X
      unfold G2.pvL at hp ⊢
      cases hpj : ps[j]? with
      | none => trivial
      | some p =>
        rw [hpj] at hp
        exact hst1 j p hpj hjc v w1 w2 hp hf
  · intro i hin listed a' w' hJ hun hF hD K hK
    refine hstep i hin a' w' ?_ hF hD K hK
    by_cases hic : i = c
    · subst hic
      rw [hun, if_neg (by simp)] at hJ
      rw [if_pos rfl]
      exact hJ
    · rw [if_neg hic]
      by_cases h1 : listed.getD c true = true
      · rw [if_pos h1] at hJ; exact hJ
      · rw [if_neg h1] at hJ; exact hJ.fx X
  · intro i hi
    refine ⟨(hfl i hi).1, fun listed a' w' hJ hF hD => (hfl i hi).2 a' w' ?_ hF hD⟩
    by_cases h1 : listed.getD c true = true
    · rw [if_pos h1] at hJ; exact hJ
    · rw [if_neg h1] at hJ; exact hJ.fx X
  · intro v listed w' hall hJ hv
    rw [if_pos (hall c hcn)] at hJ
    exact htail v w' hJ hv
theorem getD_self {listed : Array Bool} {i : Nat} (h : listed.getD i true = false) : (listed.setIfInBounds i true).getD i false = true := by
  rcases Nat.lt_or_ge i listed.size with h' | h'
  · simp [h']
  · simp [Array.getElem?_eq_none h'] at h
def GrowStepD (c d : Nat) (X Y : Nat → Prop) (P : Program) (ops : Array Oper) (Q : Exit → Act → World → Prop) (n N : Nat) (a0 : Act) (w0 : World) (PV : Nat → Value → World → Prop) (i : Nat) : Prop :=
  ∀ (a : Act) (w : World), (if i = c then Fx Y w0 w else if i = d then Fx X w0 w else Fx (fun k => X k ∨ Y k) w0 w) → (∀ t, G2.growFree ops n t = true → a.tmps[t]?.getD undef = a0.tmps[t]?.getD undef) → (∀ j, Region.waitsFor .any ops i j = true → PV j (G2.gVal ops a j) w) →
    ∀ K : Act → World → Prop, Hid (∀ v w', (if i = c then Fx X w w' else if i = d then Fx Y w w' else Kp w w') → PV i (G2.gOut ops i v) w' → K (a.put (G2.gSlot ops i) v) w') → ((ops[i]?).map fun o => if Region.wanted o (yielded ops a.tmps) = true then Oper.wp P o a w K Q else K (a.put o.dst undef) w).getD False
/-- what two changing operations have changed so far -/
def seenD (c d : Nat) (X Y : Nat → Prop) (listed : Array Bool) (k : Nat) : Prop := (listed.getD c false = true ∧ X k) ∨ (listed.getD d false = true ∧ Y k)
theorem wp_region_growD {P : Program} {Q : Exit → Act → World → Prop} (c d : Nat) (X Y : Nat → Prop) {id : Nat} {a : Act} {w : World} {l : List Oper} (fl : List Nat) (n N : Nat) (ps : List (Value → World → Prop)) (hm : P.follows .mixedOrders = true) (hB : G2.growB l.toArray fl n N = true) (hN : a.tmps.size = N) (hcd : c ≠ d) (hcn : c < n) (hdn : d < n)
    (hQ : ∀ d c a v w, Q (.panic c) (Act.put a (some d) v) w → Q (.panic c) a w)
    (hstc : ∀ v w1 w2, G2.pvL ps c v w1 → Fx Y w1 w2 → G2.pvL ps c v w2) (hstd : ∀ v w1 w2, G2.pvL ps d v w1 → Fx X w1 w2 → G2.pvL ps d v w2)
    (hst : ∀ j, j ≠ c → j ≠ d → ∀ v w1 w2, G2.pvL ps j v w1 → Fx (fun k => X k ∨ Y k) w1 w2 → G2.pvL ps j v w2)
    (hstep : ∀ i, i < n → GrowStepD c d X Y P l.toArray Q n N a w (G2.pvL ps) i)
    (hfl : ∀ i, i ∈ fl → i < n ∧ ∀ (a' : Act) (w' : World), Fx (fun k => X k ∨ Y k) w w' → (∀ t, G2.growFree l.toArray n t = true → a'.tmps[t]?.getD undef = a.tmps[t]?.getD undef) → (∀ j, Region.waitsFor .any l.toArray i j = true → G2.pvL ps j (G2.gVal l.toArray a' j) w') → ((l.toArray[i]?).map fun o => ∃ v, G2.pvL ps i (G2.gOut l.toArray i v) w' ∧ Yields P l.toArray o v a').getD False)
    (htail : ∀ (v : Nat → Value) w', Fx (fun k => X k ∨ Y k) w w' → (∀ j, j < n → G2.pvL ps j (G2.gOut l.toArray j (v j)) w') → wpList P l.toArray Q (l.drop n) { a with tmps := G2.growPut l.toArray v a.tmps n } w') : (Code.region id l.toArray true).wp P Q a w := by
  have hall : ∀ (listed : Array Bool) k, seenD c d X Y listed k → X k ∨ Y k := fun listed k h => by
    rcases h with h | h
    · exact .inl h.2
    · exact .inr h.2
  refine G2.wp_region_growJ (fun listed w' => Fx (seenD c d X Y listed) w w') (fun i w1 w2 => if i = c then Fx X w1 w2 else if i = d then Fx Y w1 w2 else Kp w1 w2) fl n N (G2.pvL ps) hm hB hN ?_ ?_ hQ ?_ ?_ (fun i w' => by
      by_cases h : i = c
      · simp only [h, if_true]; exact Fx.refl _ _
      · by_cases h2 : i = d
        · simp only [h2, Ne.symm hcd, if_true, if_false]; exact Fx.refl _ _
        · simp only [h, h2, if_false]; exact Kp.refl _) ?_ ?_
  · exact ((Kp.refl w).drew).fx _
  · intro i listed w1 w2 hin hls hun hJ hR
    have h1 : Fx (seenD c d X Y (listed.setIfInBounds i true)) w w1 := hJ.mono fun k _ hk => by
      rcases hk with hk | hk
      · exact .inl ⟨getD_set_true hk.1, hk.2⟩
      · exact .inr ⟨getD_set_true hk.1, hk.2⟩
    refine h1.trans ?_
    by_cases hic : i = c
    · subst hic
      rw [if_pos rfl] at hR
      exact hR.mono fun k _ hk => .inl ⟨getD_self hun, hk⟩
    · rw [if_neg hic] at hR
      by_cases hid : i = d
      · subst hid
        rw [if_pos rfl] at hR
        exact hR.mono fun k _ hk => .inr ⟨getD_self hun, hk⟩
      · rw [if_neg hid] at hR
        exact hR.fx _
  · intro i j v w1 w2 hij hp hR
    by_cases hjc : j = c
    · subst hjc
      rw [if_neg hij] at hR
      refine hstc v w1 w2 hp ?_
      by_cases hid : i = d
      · rw [if_pos hid] at hR; exact hR
      · rw [if_neg hid] at hR; exact hR.fx _
    · by_cases hjd : j = d
      · subst hjd
        rw [if_neg hij] at hR
        refine hstd v w1 w2 hp ?_
        by_cases hic : i = c
        · rw [if_pos hic] at hR; exact hR
        · rw [if_neg hic] at hR; exact hR.fx _
      · refine hst j hjc hjd v w1 w2 hp ?_
        by_cases hic : i = c
        · rw [if_pos hic] at hR; exact hR.mono fun k _ hk => .inl hk
        · rw [if_neg hic] at hR
          by_cases hid : i = d
          · rw [if_pos hid] at hR; exact hR.mono fun k _ hk => .inr hk
          · rw [if_neg hid] at hR; exact hR.fx _
  · intro i hin listed a' w' hJ hun hF hD K hK
    refine hstep i hin a' w' ?_ hF hD K hK
    have hun' := getD_both hun
    by_cases hic : i = c
    · rw [if_pos hic]
      subst hic
      exact hJ.mono fun k _ hk => by
        rcases hk with hk | hk
        · rw [hun'] at hk; exact absurd hk.1 (by decide)
        · exact hk.2
    · rw [if_neg hic]
      by_cases hid : i = d
      · rw [if_pos hid]
        subst hid
        exact hJ.mono fun k _ hk => by
          rcases hk with hk | hk
          · exact hk.2
          · rw [hun'] at hk; exact absurd hk.1 (by decide)
      · rw [if_neg hid]
        exact hJ.mono fun k _ hk => hall _ k hk
  · intro i hi
    refine ⟨(hfl i hi).1, fun listed a' w' hJ hF hD => (hfl i hi).2 a' w' (hJ.mono fun k _ hk => hall _ k hk) hF hD⟩
  · intro v listed w' hl hJ hv
    exact htail v w' (hJ.mono fun k _ hk => hall _ k hk) hv
/-- stability of the properties but those of the two -/
def StabDL (G : World → World → Prop) (c d : Nat) (ps : List (Value → World → Prop)) : Prop := ∀ j p, ps[j]? = some p → j ≠ c → j ≠ d → StabG G p
theorem stabD_list {G : World → World → Prop} {c d : Nat} {ps : List (Value → World → Prop)} (h : StabDL G c d ps) : ∀ j, j ≠ c → j ≠ d → ∀ v w1 w2, G2.pvL ps j v w1 → G w1 w2 → G2.pvL ps j v w2 := fun j hc hd v w1 w2 hp hg => by
  unfold G2.pvL at hp ⊢
  cases hpj : ps[j]? with
  | none => trivial
  | some p =>
    rw [hpj] at hp
    exact h j p hpj hc hd v w1 w2 hp hg
/-! appending, at an operation -/
theorem wp_append_flat {P : Program} {α : Type} {enc : α → List Value} {t e size bytes base : Nat} {w : World} {v : Value} {l : List α} {o : Oper} {a : Act} {K : Act → World → Prop} {Q : Exit → Act → World → Prop} (s x : Operand)
    (ho : o.op = .call { callee := .builtin .append, args := #[s, x], argTypes := #[t, t] }) (hT : SliceT P t e size bytes) (he : ∀ x, (enc x).length = size) (h1 : ∀ x, ∀ u ∈ enc x, u.oneCell' = true)
    (hs : a.eval s = v) (hown : Own enc e size base w v l)
    {v2 : Value} {m : List α} (hx : a.eval x = v2) (hsrc : Sl (Pl enc) size w v2 m) (hlen : l.length + m.length ≤ 4611686018427387904) (hby : (l.length + m.length) * bytes ≤ 140737488355328) (hbase : base ≤ w.heap.size)
    (h : ∀ v' w', Own enc e size base w' v' (l ++ m) → w.grownBy w' v.ownBlock → (v'.ownBlock = v.ownBlock ∨ v'.ownBlock = some w.heap.size) → K (a.put o.dst v') w') : Oper.wp P o a w K Q := by
  obtain ⟨v', w', hr, h2, h3, h4, h5⟩ := run_append_flat hT he h1 o.type hown hsrc hlen hby hbase
  unfold Oper.wp execOp
  simp only [ho, resolve, invoke, builtin, Sem.run_bind, Sem.run_pure, Result.andThen_ok, List.map_toArray, List.map_cons, List.map_nil, hs, hx, hr]
  exact h v' w' h2 h3 h4
theorem eval_tmp (a : Act) (i : Nat) : a.eval (.tmp i) = a.tmps[i]?.getD undef := by simp [Act.eval]
theorem Fx.cellS {X : Nat → Prop} {w w' : World} (h : Fx X w w') {p : Addr} {v : Value} (hp : w.cell? p = some v) (hx : ¬ X p.block) : w'.cell? p = some v := (World.cell?_of_block (h.block p.block (block_lt_of_cell hp) hx)).trans hp
theorem kp_range {w w' : World} (hk : Kp w w') {b o : Nat} {cs : List Value} (h : w.rangeAt b o cs) : w'.rangeAt b o cs := fun j u hu => hk.cellS (h j u hu)
end Go.Proofs.Ytlbhidiliogflaa
