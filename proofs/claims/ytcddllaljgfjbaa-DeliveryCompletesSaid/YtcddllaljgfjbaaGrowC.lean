
/-
Regions that draw their order, of whose operations one changes what is there: each operation is looked at once, and knows that it has not run yet. Nothing here speaks of the program.
-/
import Derived.Test.YtcddllaljgfjbaaGM
namespace Go.Proofs.Ytcddllaljgfjbaa.G2
set_option linter.unusedSimpArgs false
set_option linter.unusedVariables false
open Go.RowKit
section
variable {P : Program} {ops : Array Oper} {Q : Exit → Act → World → Prop} {fl : List Nat} {n N : Nat} {a0 : Act} {w0 : World} {PV : Nat → Value → World → Prop} {G : World → World → Prop}
variable {J : Array Bool → World → Prop} {R : Nat → World → World → Prop}
structure GrowJ (J : Array Bool → World → Prop) (ops : Array Oper) (n N : Nat) (a0 : Act) (PV : Nat → Value → World → Prop) (listed : Array Bool) (a : Act) (w : World) : Prop where
  kp : J listed w
  df : a.defers = a0.defers
  sz : a.tmps.size = N
  fr : ∀ t, growFree ops n t = true → a.tmps[t]? = a0.tmps[t]?
  pv : ∀ j, j < n → listed.getD j true = true → PV j (gVal ops a j) w
/-- what one operation owes, that has not run yet -/
def GrowStepJ (J : Array Bool → World → Prop) (R : Nat → World → World → Prop) (P : Program) (ops : Array Oper) (Q : Exit → Act → World → Prop) (n N : Nat) (a0 : Act) (PV : Nat → Value → World → Prop) (i : Nat) : Prop :=
  ∀ (listed : Array Bool) (a : Act) (w : World), J listed w → listed.getD i true = false → (∀ t, growFree ops n t = true → a.tmps[t]?.getD undef = a0.tmps[t]?.getD undef) → (∀ j, Region.waitsFor .any ops i j = true → PV j (gVal ops a j) w) →
    ∀ K : Act → World → Prop, Hid (∀ v w', R i w w' → PV i (gOut ops i v) w' → K (a.put (gSlot ops i) v) w') → ((ops[i]?).map fun o => if Region.wanted o (yielded ops a.tmps) = true then Oper.wp P o a w K Q else K (a.put o.dst undef) w).getD False
theorem growJ_put {i : Nat} {listed : Array Bool} {a : Act} {w w' : World} {v : Value} (hB : growB ops fl n N = true) (hst : ∀ j v, i ≠ j → PV j v w → PV j v w') (I : GrowJ J ops n N a0 PV listed a w) (hin : i < n) (hJ : J (listed.setIfInBounds i true) w') (hv : PV i (gOut ops i v) w') :
    GrowJ J ops n N a0 PV (listed.setIfInBounds i true) (a.put (gSlot ops i) v) w' := by
  obtain ⟨o, ho, hd, hdN, hb⟩ := growB_dst hB hin
  cases hsl : gSlot ops i with
  | none =>
    refine ⟨hJ, I.df, I.sz, I.fr, fun j hj hl => ?_⟩
    show PV j (gVal ops a j) w'
    by_cases hij : i = j
    · subst hij
      unfold gOut at hv
      unfold gVal
      rw [hsl] at hv ⊢
      exact hv
    · rw [getD_set_ne true hij] at hl
      exact hst j _ hij (I.pv j hj hl)
  | some d =>
    obtain ⟨hdn, hne⟩ := hdN d hsl
    refine ⟨hJ, by simpa [Act.put] using I.df, by simpa [Act.put] using I.sz, fun t ht => ?_, fun j hj hl => ?_⟩
    · have hti : d ≠ t := by
        unfold growFree at ht
        simp only [List.all_eq_true, List.mem_range, decide_eq_true_eq] at ht
        intro e
        exact ht i hin (by rw [hsl, e])
      rw [show (a.put (some d) v).tmps = a.tmps.setIfInBounds d v from rfl, Array.getElem?_setIfInBounds_ne hti]
      exact I.fr t ht
    · by_cases hij : i = j
      · subst hij
        unfold gOut at hv
        unfold gVal
        rw [hsl] at hv ⊢
        dsimp only at hv ⊢
        rw [show (a.put (some d) v).tmps = a.tmps.setIfInBounds d v from rfl, Array.getElem?_setIfInBounds_self_of_lt (by rw [I.sz]; exact hdn)]
        exact hv
      · have h1 : gVal ops (a.put (some d) v) j = gVal ops a j := by
          unfold gVal
          cases hsj : gSlot ops j with
          | none => rfl
          | some d' =>
            dsimp only
            have : d ≠ d' := fun e => hne j hj hij (by rw [hsj, e])
            rw [show (a.put (some d) v).tmps = a.tmps.setIfInBounds d v from rfl, Array.getElem?_setIfInBounds_ne this]
        rw [h1]
        rw [getD_set_ne true hij] at hl
        exact hst j _ hij (I.pv j hj hl)
theorem growJ_main (hB : growB ops fl n N = true) (hJR : ∀ i listed w w', i < n → listed.size = ops.size → listed.getD i true = false → J listed w → R i w w' → J (listed.setIfInBounds i true) w') (hQ : ∀ d c a v w, Q (.panic c) (Act.put a (some d) v) w → Q (.panic c) a w) (hst : ∀ i j v w1 w2, i ≠ j → PV j v w1 → R i w1 w2 → PV j v w2) (hstep : ∀ i, i < n → GrowStepJ J R P ops Q n N a0 PV i)
    (hRr : ∀ i w, R i w w) (hfl : ∀ i, i ∈ fl → i < n ∧ ∀ (listed : Array Bool) (a : Act) (w : World), J listed w → (∀ t, growFree ops n t = true → a.tmps[t]?.getD undef = a0.tmps[t]?.getD undef) → (∀ j, Region.waitsFor .any ops i j = true → PV j (gVal ops a j) w) → ((ops[i]?).map fun o => ∃ v, PV i (gOut ops i v) w ∧ Yields P ops o v a).getD False)
    (htail : ∀ listed a w, (∀ i, i < n → listed.getD i true = true) → J listed w → a.defers = a0.defers → a.tmps.size = N → (∀ t, growFree ops n t = true → a.tmps[t]? = a0.tmps[t]?) → (∀ j, j < n → PV j (gVal ops a j) w) → wpList P ops Q (ops.toList.drop n) a w) :
    ∀ (f : Nat) (listed : Array Bool) (a : Act) (w : World), HeadInv .any ops n listed → cntU listed n = f → GrowJ J ops n N a0 PV listed a w → wpAny P .any ops Q (f + (ops.size - n)) listed a w := by
  have hB' := hB
  unfold growB at hB'
  simp only [Bool.and_eq_true, decide_eq_true_eq] at hB'
  obtain ⟨⟨⟨⟨-, hn⟩, ⟨hs, hF⟩, hsel⟩, hc⟩, hq⟩ := hB'
  intro f
  induction f with
  | zero =>
    intro listed a w inv h0 I
    have hall := cntU_zero h0
    have hl : listed = Array.replicate n true ++ Array.replicate (ops.size - n) false := by
      apply Array.ext
      · rw [inv.size]; simp; omega
      · intro i h1 h2
        have hi : i < ops.size := by rw [← inv.size]; exact h1
        by_cases hin : i < n
        · have := hall i hin
          rw [Array.getElem_append_left (by simpa using hin), Array.getElem_replicate]
          simpa [h1] using this
        · have := inv.tail i (by omega) hi
          rw [Array.getElem_append_right (by simpa using hin), Array.getElem_replicate]
          simpa [h1] using this
    have hdl : (ops.toList.drop n).length = ops.size - n := by simp
    have := wpAny_of_seq (P := P) (md := .any) (ops := ops) (Q' := Q) (ops.toList.drop n) n listed a w (fun j => by simp [List.getElem?_drop]) (by rw [hdl, hl]; exact hq) (htail listed a w hall I.kp I.df I.sz I.fr fun j hj => I.pv j hj (hall j hj))
    rw [hdl] at this
    simpa using this
  | succ f ih =>
    intro listed a w inv hf I
    obtain ⟨m, hm, hmu, hmin⟩ := cntU_pos (listed := listed) (n := n) (by omega)
    have hmr : m ∈ Region.ready .any ops listed := by
      obtain ⟨o, ho, -, -, hb⟩ := growB_dst hB hm
      exact mem_ready.2 ⟨hmu, o, ho, fun e he hbn => by
        have h1 := hmin e.on (hb e he hbn)
        have h2 : e.on < listed.size := by rw [inv.size]; have := hb e he hbn; omega
        simpa [h2] using h1⟩
    have hdeps : ∀ i, i ∈ Region.ready .any ops listed → i < n → ∀ j, Region.waitsFor .any ops i j = true → PV j (gVal ops a j) w := by
      intro i hi hin j hj
      obtain ⟨o, ho, -, -, hb⟩ := growB_dst hB hin
      obtain ⟨hun, o', ho', hall⟩ := mem_ready.1 hi
      obtain rfl : o = o' := Option.some.inj (ho.symm.trans ho')
      obtain ⟨oj, hoj, e, he, hbn, hon⟩ := waits_mem hj
      obtain rfl : o = oj := Option.some.inj (ho.symm.trans hoj)
      have hl := hall _ he hbn
      rw [hon] at hl
      have hjn : j < n := by have := hb _ he hbn; omega
      refine I.pv j hjn ?_
      have h2 : j < listed.size := by rw [inv.size]; omega
      simpa [h2] using hl
    rw [show f + 1 + (ops.size - n) = (f + (ops.size - n)) + 1 by omega]
    by_cases hA : ∃ i, i < n ∧ i ∉ fl ∧ listed.getD i true = false
    · obtain ⟨x, hx, hxf, hxu⟩ := hA
      refine ⟨fun h0 => (by rw [h0] at hmr; cases hmr), fun i hi => ?_⟩
      have hin : i < n := by
        rcases Nat.lt_or_ge i n with h | h
        · exact h
        · exact absurd hi (tailWaits hs hc inv _ x rfl hx hxf hxu i h)
      obtain ⟨o, ho, hd, hdN, hb⟩ := growB_dst hB hin
      obtain ⟨hun, o', ho', hall⟩ := mem_ready.1 hi
      refine wpOp_step ho fun K' hK => ?_
      have h1 := hstep i hin listed a w I.kp hun (fun t ht => by rw [I.fr t ht]) (hdeps i hi hin) K' (hid fun v w' hk hv => hK _ _ (ih _ _ _ (inv.set hi hin) (by have := (cntU_set hun (n := n)).1 hin; omega) (growJ_put hB (fun j v hij h => hst i j v _ _ hij h hk) I hin (hJR i listed w w' hin inv.size hun I.kp hk) hv)))
      rw [ho] at h1
      exact h1
    · have hmf : m ∈ fl := by
        by_cases h : m ∈ fl
        · exact h
        · exact absurd ⟨m, hm, h, hmu⟩ hA
      obtain ⟨o, ho, hd, hdN, hb⟩ := growB_dst hB hm
      have h1 := (hfl m hmf).2 listed a w I.kp (fun t ht => by rw [I.fr t ht]) (hdeps m hmr hm)
      rw [ho] at h1
      obtain ⟨v, hv, hy⟩ : ∃ v, PV m (gOut ops m v) w ∧ Yields P ops o v a := h1
      refine wpAny_first ho (Region.noSelect_spec hsel) (fun c a w h => ?_) _ listed a w (fun j oj hoj hji hju hno => ?_) hmr hy ?_
      · cases hdd : o.dst with
        | none => rw [hdd] at h; exact h
        | some d => rw [hdd] at h; exact hQ d c a v w h
      · unfold floatB at hF
        simp only [List.all_eq_true, List.mem_range, Bool.or_eq_true, decide_eq_true_eq] at hF
        rcases hF m hmf j (Array.getElem?_eq_some_iff.1 hoj).1 with ((h2 | h2) | h2) | h2
        · exact absurd h2 hji
        · obtain ⟨oj', hoj', e, he, hbn, hon⟩ := waits_mem h2
          obtain rfl : oj = oj' := Option.some.inj (hoj.symm.trans hoj')
          exact absurd hon (hno e he hbn)
        · obtain ⟨om, hom, e, he, hbn, hon⟩ := waits_mem h2
          obtain rfl : o = om := Option.some.inj (ho.symm.trans hom)
          have h3 := hmin e.on (hb e he hbn)
          rw [hon, hju] at h3
          cases h3
        · rw [ho, hoj] at h2
          simpa using h2
      · rw [hd]
        exact ih _ _ _ (inv.set hmr hm) (by have := (cntU_set hmu (n := n)).1 hm; omega) (growJ_put hB (fun j v hij h => hst m j v _ _ hij h (hRr m w)) I hm (hJR m listed w w hm inv.size hmu I.kp (hRr m w)) hv)
theorem wp_region_growJ (J : Array Bool → World → Prop) (R : Nat → World → World → Prop) {id : Nat} {a : Act} {w : World} {l : List Oper} (fl : List Nat) (n N : Nat) (PV : Nat → Value → World → Prop) (hm : P.follows .mixedOrders = true) (hB : growB l.toArray fl n N = true) (hN : a.tmps.size = N)
    (hJ0 : J (Array.replicate l.toArray.size false) w.drew) (hJR : ∀ i listed w w', i < n → listed.size = l.toArray.size → listed.getD i true = false → J listed w → R i w w' → J (listed.setIfInBounds i true) w')
    (hQ : ∀ d c a v w, Q (.panic c) (Act.put a (some d) v) w → Q (.panic c) a w) (hst : ∀ i j v w1 w2, i ≠ j → PV j v w1 → R i w1 w2 → PV j v w2) (hstep : ∀ i, i < n → GrowStepJ J R P l.toArray Q n N a PV i)
    (hRr : ∀ i w, R i w w) (hfl : ∀ i, i ∈ fl → i < n ∧ ∀ (listed : Array Bool) (a' : Act) (w : World), J listed w → (∀ t, growFree l.toArray n t = true → a'.tmps[t]?.getD undef = a.tmps[t]?.getD undef) → (∀ j, Region.waitsFor .any l.toArray i j = true → PV j (gVal l.toArray a' j) w) → ((l.toArray[i]?).map fun o => ∃ v, PV i (gOut l.toArray i v) w ∧ Yields P l.toArray o v a').getD False)
    (htail : ∀ (v : Nat → Value) listed w', (∀ i, i < n → listed.getD i true = true) → J listed w' → (∀ j, j < n → PV j (gOut l.toArray j (v j)) w') → wpList P l.toArray Q (l.drop n) { a with tmps := growPut l.toArray v a.tmps n } w') : (Code.region id l.toArray true).wp P Q a w := by
  refine wp_region_any hm ?_
  have hB' := hB
  unfold growB at hB'
  simp only [Bool.and_eq_true, decide_eq_true_eq] at hB'
  obtain ⟨⟨⟨⟨-, hn⟩, -⟩, hc⟩, hq⟩ := hB'
  have inv0 : HeadInv .any l.toArray n (Array.replicate l.toArray.size false) :=
    ⟨by simp, fun j oj _ hl => (by rw [getD_replicate_false] at hl; cases hl), fun t _ ht => getD_in (by simpa using ht) (getD_replicate_false _ _)⟩
  have := growJ_main (P := P) (Q := Q) (a0 := a) (PV := PV) (J := J) (R := R) hB hJR hQ hst hstep hRr hfl (fun listed a' w' hall hk hd hz hf hv => by
    have e : a' = { a with tmps := growPut l.toArray (gVal l.toArray a') a.tmps n } := by
      have e1 : growPut l.toArray (gVal l.toArray a') a.tmps n = a'.tmps := by
        apply Array.ext_getElem?
        intro t
        refine growPut_get _ a.tmps a'.tmps (fun j d hjd => by unfold gVal; rw [hjd]) (by omega) n t ?_
        cases ht : growFree l.toArray n t with
        | true => exact .inr (hf t ht).symm
        | false =>
          left
          unfold growFree at ht
          rw [List.all_eq_false] at ht
          obtain ⟨j, hj, hne⟩ := ht
          exact ⟨j, List.mem_range.1 hj, by simpa using hne⟩
      rw [e1]
      cases a'
      simp only at hd
      rw [hd]
    rw [e]
    have := htail (gVal l.toArray a') listed w' hall hk (fun j hj => by
      have h1 := hv j hj
      unfold gOut gVal
      unfold gVal at h1
      cases hsl : gSlot l.toArray j with
      | none => rw [hsl] at h1; exact h1
      | some d => rw [hsl] at h1; exact h1)
    simpa using this) n (Array.replicate l.toArray.size false) a _ inv0 (cntU_new _ _ (by omega)) ⟨hJ0, rfl, hN, fun _ _ => rfl, fun j hj hl => by
      have hjs : j < l.toArray.size := by omega
      simp only [Array.getD_eq_getD_getElem?, Array.getElem?_replicate] at hl
      rw [if_pos hjs] at hl
      simp at hl⟩
  rw [show n + (l.toArray.size - n) = l.toArray.size by omega] at this
  exact this
end
end Go.Proofs.Ytcddllaljgfjbaa.G2
