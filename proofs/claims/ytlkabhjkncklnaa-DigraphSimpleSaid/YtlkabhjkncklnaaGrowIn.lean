
/-
Regions that draw their order, inside the fence that asks nothing: the head is looked at as outside a fence, each operation once; the forced end is walked inside the fence. Nothing here speaks of the program.
-/
import Derived.Test.YtlkabhjkncklnaaGM
import Derived.OrdersIn
import Derived.OwnWalkIn
import Derived.TacticsInMore
namespace Go.Proofs.Ytlkabhjkncklnaa.G2
set_option linter.unusedSimpArgs false
set_option linter.unusedVariables false
open Go.RowKit

section
variable {P : Program} {ops : Array Oper} {Q : Exit → Act → World → Prop} {m : Nat}
theorem rowsIn_wide {k : Nat} {row : String} {args : Array Value} {w : World} {R : Value → World → Prop} (h : Rows P row args w R) : RowsIn Fence.wide k P row args w R :=
  fun c cs _ => by
    obtain ⟨v, w', h1, h2⟩ := h c cs
    exact ⟨v, w', h1, stepsIn_wide.2 h2⟩
theorem wpIn_of_wp {k : Nat} {o : Oper} {a : Act} {w : World} {K : Act → World → Prop} (h : Oper.wp P o a w K Q) : Oper.wpIn Fence.wide k P o a w K Q := by
  refine ⟨fun _ _ => trivial, ?_⟩
  show Oper.uponIn Fence.wide k P o a K Q ((Oper.semAt none a.eval o).run P w)
  rw [Oper.semAt_none]
  unfold Oper.wp at h
  generalize (execOp a.eval o).run P w = r at *
  cases r with
  | ok x w' =>
    cases x <;> simp only [Oper.upon] at h <;> simp only [Oper.uponIn]
    case value => exact h
    case skip => exact h
    case defer => exact h
    case enter => exact ⟨fun e => by simp [Fence.wide] at e, callsIn_wide.2 h⟩
    case row => exact ⟨fun e => by simp [Fence.wide] at e, rowsIn_wide h⟩
  | halt x w' => cases x <;> simp only [Oper.upon] at h <;> simp only [Oper.uponIn] ; exact h
theorem wpAnyIn_of_seq {F : Fence} {k : Nat} {md : Region.Mode} {Q' : Exit → Act → World → Prop} : ∀ (l : List Oper) (j : Nat) (listed : Array Bool) (a : Act) (w : World), (∀ i, l[i]? = ops[j + i]?) →
    Region.seqB md ops l.length j listed = true → wpListIn F k P ops Q' l a w → wpAnyIn F k P md ops Q' l.length listed a w
  | [], _, _, _, _, _, hB, h => ⟨by simpa [Region.seqB] using hB, h⟩
  | o :: l, j, listed, a, w, hl, hB, h => by
    have h0 : ops[j]? = some o := by simpa using (hl 0).symm
    simp only [List.length_cons, Region.seqB, Bool.and_eq_true, decide_eq_true_eq] at hB
    refine ⟨fun h1 => (by rw [hB.1] at h1; cases h1), fun i hi => ?_⟩
    rw [hB.1] at hi
    have hij : i = j := by simpa using hi
    subst hij
    have hw : wpOpIn F k P ops Q' i (wpListIn F k P ops Q' l) a w := by unfold wpOpIn; simp only [h0]; exact h
    exact wpOpIn_mono (fun a' w' h' => wpAnyIn_of_seq l (i + 1) _ a' w' (fun n => by have := hl (n + 1); simpa [Nat.add_assoc, Nat.add_comm 1 n] using this) hB.2 h') hw
variable {n N : Nat} {a0 : Act} {w0 : World} {PV : Nat → Value → World → Prop} {G : World → World → Prop}
theorem grow_mainIn (hB : growB ops [] n N = true) (htr : ∀ x y z, G x y → G y z → G x z) (hst : ∀ j v w1 w2, PV j v w1 → G w1 w2 → PV j v w2) (hstep : ∀ i, i < n → GrowStepG G P ops Q n N a0 w0 PV i)
    (htail : ∀ a w, G w0 w → a.defers = a0.defers → a.tmps.size = N → (∀ t, growFree ops n t = true → a.tmps[t]? = a0.tmps[t]?) → (∀ j, j < n → PV j (gVal ops a j) w) → wpListIn Fence.wide m P ops Q (ops.toList.drop n) a w) :
    ∀ (f : Nat) (listed : Array Bool) (a : Act) (w : World), HeadInv .any ops n listed → cntU listed n = f → GrowI G ops n N a0 w0 PV listed a w → wpAnyIn Fence.wide m P .any ops Q (f + (ops.size - n)) listed a w := by
  have hB' := hB
  unfold growB at hB'
  simp only [Bool.and_eq_true, decide_eq_true_eq] at hB'
  obtain ⟨⟨⟨⟨-, hn⟩, ⟨hs, hF⟩, hsel⟩, hc⟩, hq⟩ := hB'
  intro f
  induction f with
  | zero =>
    intro listed a w inv h0 I
    have hall := cntU_zero h0
    have hl : listed = Array.replicate n true ++ Array.replicate (ops.size - n) false := by
      apply Array.ext
      · rw [inv.size]; simp; omega
      · intro i h1 h2
        have hi : i < ops.size := by rw [← inv.size]; exact h1
        by_cases hin : i < n
        · have := hall i hin
          rw [Array.getElem_append_left (by simpa using hin), Array.getElem_replicate]
          simpa [h1] using this
        · have := inv.tail i (by omega) hi
          rw [Array.getElem_append_right (by simpa using hin), Array.getElem_replicate]
          simpa [h1] using this
    have hdl : (ops.toList.drop n).length = ops.size - n := by simp
    have := wpAnyIn_of_seq (F := Fence.wide) (k := m) (P := P) (md := .any) (ops := ops) (Q' := Q) (ops.toList.drop n) n listed a w (fun j => by simp [List.getElem?_drop]) (by rw [hdl, hl]; exact hq) (htail a w I.kp I.df I.sz I.fr fun j hj => I.pv j hj (hall j hj))
    rw [hdl] at this
    simpa using this
  | succ f ih =>
    intro listed a w inv hf I
    obtain ⟨x, hx, hxu, hmin⟩ := cntU_pos (listed := listed) (n := n) (by omega)
    have hmr : x ∈ Region.ready .any ops listed := by
      obtain ⟨o, ho, -, -, hb⟩ := growB_dst hB hx
      exact mem_ready.2 ⟨hxu, o, ho, fun e he hbn => by
        have h1 := hmin e.on (hb e he hbn)
        have h2 : e.on < listed.size := by rw [inv.size]; have := hb e he hbn; omega
        simpa [h2] using h1⟩
    have hdeps : ∀ i, i ∈ Region.ready .any ops listed → i < n → ∀ j, Region.waitsFor .any ops i j = true → PV j (gVal ops a j) w := by
      intro i hi hin j hj
      obtain ⟨o, ho, -, -, hb⟩ := growB_dst hB hin
      obtain ⟨hun, o', ho', hall⟩ := mem_ready.1 hi
      obtain rfl : o = o' := Option.some.inj (ho.symm.trans ho')
      obtain ⟨oj, hoj, e, he, hbn, hon⟩ := waits_mem hj
      obtain rfl : o = oj := Option.some.inj (ho.symm.trans hoj)
      have hl := hall _ he hbn
      rw [hon] at hl
      have hjn : j < n := by have := hb _ he hbn; omega
      refine I.pv j hjn ?_
      have h2 : j < listed.size := by rw [inv.size]; omega
      simpa [h2] using hl
    rw [show f + 1 + (ops.size - n) = (f + (ops.size - n)) + 1 by omega]
    refine ⟨fun h0 => (by rw [h0] at hmr; cases hmr), fun i hi => ?_⟩
    have hin : i < n := by
      rcases Nat.lt_or_ge i n with h | h
      · exact h
      · exact absurd hi (tailWaits hs hc inv _ x rfl hx (by simp) hxu i h)
    obtain ⟨o, ho, hd, hdN, hb⟩ := growB_dst hB hin
    obtain ⟨hun, o', ho', hall⟩ := mem_ready.1 hi
    refine wpOpIn_step ho fun K' hK => ?_
    have h1 := hstep i hin a w I.kp (fun t ht => by rw [I.fr t ht]) (hdeps i hi hin) K' (hid fun v w' hk hv => hK _ _ (ih _ _ _ (inv.set hi hin) (by have := (cntU_set hun (n := n)).1 hin; omega) (grow_put hB htr hst I hin hk hv)))
    rw [ho] at h1
    simp only [Option.map_some, Option.getD_some] at h1
    split
    · rename_i hw
      rw [if_pos hw] at h1
      exact wpIn_of_wp h1
    · rename_i hw
      rw [if_neg hw] at h1
      exact ⟨fun _ _ => trivial, h1⟩
theorem wpIn_region_growT (G : World → World → Prop) {id : Nat} {a : Act} {w : World} {l : List Oper} (n N : Nat) (PV : Nat → Value → World → Prop) (hm : P.follows .mixedOrders = true) (hB : growB l.toArray [] n N = true) (hN : a.tmps.size = N)
    (htr : ∀ x y z, G x y → G y z → G x z) (hdr : G w w.drew) (hst : ∀ j v w1 w2, PV j v w1 → G w1 w2 → PV j v w2) (hstep : StepsT (StepO G P l.toArray Q n a w PV) l n 0)
    (htail : ∀ (v : Nat → Value) w', G w w' → (∀ j, j < n → PV j (gOut l.toArray j (v j)) w') → wpListIn Fence.wide m P l.toArray Q (l.drop n) { a with tmps := growPut l.toArray v a.tmps n } w') : (Code.region id l.toArray true).wpIn Fence.wide m P Q a w := by
  refine wpIn_region_any hm ?_
  have hB' := hB
  unfold growB at hB'
  simp only [Bool.and_eq_true, decide_eq_true_eq] at hB'
  obtain ⟨⟨⟨⟨-, hn⟩, -⟩, hc⟩, hq⟩ := hB'
  have inv0 : HeadInv .any l.toArray n (Array.replicate l.toArray.size false) :=
    ⟨by simp, fun j oj _ hl => (by rw [getD_replicate_false] at hl; cases hl), fun t _ ht => getD_in (by simpa using ht) (getD_replicate_false _ _)⟩
  have hstep' : ∀ i, i < n → GrowStepG G P l.toArray Q n N a w PV i := fun i hi => by
    obtain ⟨o, h1, h2⟩ := stepsT_get l n 0 hstep i hi
    rw [Nat.zero_add] at h2
    intro a' w' h3 h4 h5 K hK
    have h6 := h2 a' w' h3 h4 h5 K hK
    have e : l.toArray[i]? = some o := by simpa using h1
    rw [e]
    exact h6
  have := grow_mainIn (m := m) (P := P) (Q := Q) (a0 := a) (w0 := w) (PV := PV) (G := G) hB htr hst hstep' (fun a' w' hk hd hz hf hv => by
    have e : a' = { a with tmps := growPut l.toArray (gVal l.toArray a') a.tmps n } := by
      have e1 : growPut l.toArray (gVal l.toArray a') a.tmps n = a'.tmps := by
        apply Array.ext_getElem?
        intro t
        refine growPut_get _ a.tmps a'.tmps (fun j d hjd => by unfold gVal; rw [hjd]) (by omega) n t ?_
        cases ht : growFree l.toArray n t with
        | true => exact .inr (hf t ht).symm
        | false =>
          left
          unfold growFree at ht
          rw [List.all_eq_false] at ht
          obtain ⟨j, hj, hne⟩ := ht
          exact ⟨j, List.mem_range.1 hj, by simpa using hne⟩
      rw [e1]
      cases a'
      simp only at hd
      rw [hd]
    rw [e]
    have := htail (gVal l.toArray a') w' hk (fun j hj => by
      have h1 := hv j hj
      unfold gOut gVal
      unfold gVal at h1
      cases hsl : gSlot l.toArray j with
      | none => rw [hsl] at h1; exact h1
      | some d => rw [hsl] at h1; exact h1)
    simpa using this) n (Array.replicate l.toArray.size false) a _ inv0 (cntU_new _ _ (by omega)) ⟨hdr, rfl, hN, fun _ _ => rfl, fun j hj hl => by
      have hjs : j < l.toArray.size := by omega
      simp only [Array.getD_eq_getD_getElem?, Array.getElem?_replicate] at hl
      rw [if_pos hjs] at hl
      simp at hl⟩
  rw [show n + (l.toArray.size - n) = l.toArray.size by omega] at this
  exact this
end
end Go.Proofs.Ytlkabhjkncklnaa.G2
