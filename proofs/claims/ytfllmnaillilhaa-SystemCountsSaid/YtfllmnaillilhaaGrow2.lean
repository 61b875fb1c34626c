
/-
Regions that draw their order: each operation is looked at once, whatever comes before it. Nothing here speaks of the program.
-/
import Derived.Test.YtfllmnaillilhaaGA
namespace Go.Proofs.Ytfllmnaillilhaa.G2
set_option linter.unusedSimpArgs false
set_option linter.unusedVariables false
open Go.RowKit

/-- the slot of an operation -/
def gSlot (ops : Array Oper) (i : Nat) : Option Nat := (ops[i]?).bind (·.dst)
/-- what stands in it -/
def gVal (ops : Array Oper) (a : Act) (i : Nat) : Value := match gSlot ops i with | some d => a.tmps[d]?.getD undef | none => undef
def gOut (ops : Array Oper) (i : Nat) (v : Value) : Value := match gSlot ops i with | some _ => v | none => undef
def sinkF (ops : Array Oper) (fl : List Nat) (n : Nat) : Bool := (List.range n).all fun i => fl.contains i || (List.range (n + 1)).any fun j => decide (i < j) && Region.waitsFor .any ops j i && (decide (j = n) || !fl.contains j)
def floatB (ops : Array Oper) (fl : List Nat) : Bool := fl.all fun i => (List.range ops.size).all fun j => decide (j = i) || Region.waitsFor .any ops j i || Region.waitsFor .any ops i j || ((ops[i]?).bind fun oi => (ops[j]?).map fun oj => oi.apart ops oj).getD false
def slotB (ops : Array Oper) (n N i : Nat) : Bool := match gSlot ops i with | some d => decide (d < N) && (List.range n).all fun j => decide (i = j) || decide (gSlot ops j ≠ some d) | none => true
def growB (ops : Array Oper) (fl : List Nat) (n N : Nat) : Bool :=
  ((List.range n).all fun i => ((ops[i]?).map fun o => o.after.all fun e => !Region.binds .any e || decide (e.on < i)).getD false && slotB ops n N i) &&
    decide (n < ops.size) && (sinkF ops fl n && floatB ops fl && Region.noSelect ops) && Region.chainB .any ops n && Region.seqB .any ops (ops.size - n) n (Array.replicate n true ++ Array.replicate (ops.size - n) false)
/-- no operation of the head writes this slot -/
def growFree (ops : Array Oper) (n t : Nat) : Bool := (List.range n).all fun i => decide (gSlot ops i ≠ some t)
/-- how many of the first operations have not come up yet -/
def cntU (listed : Array Bool) : Nat → Nat
  | 0 => 0
  | n + 1 => cntU listed n + if listed.getD n true then 0 else 1
theorem cntU_zero {listed : Array Bool} : ∀ {n : Nat}, cntU listed n = 0 → ∀ i, i < n → listed.getD i true = true
  | n + 1, h, i, hi => by
    unfold cntU at h
    by_cases hin : i = n
    · subst hin
      cases hl : listed.getD i true with
      | true => rfl
      | false => rw [hl] at h; simp at h
    · exact cntU_zero (n := n) (by omega) i (by omega)
theorem cntU_pos {listed : Array Bool} : ∀ {n : Nat}, 0 < cntU listed n → ∃ i, i < n ∧ listed.getD i true = false ∧ ∀ j, j < i → listed.getD j true = true
  | n + 1, h => by
    by_cases h0 : 0 < cntU listed n
    · obtain ⟨i, h1, h2, h3⟩ := cntU_pos h0
      exact ⟨i, by omega, h2, h3⟩
    · unfold cntU at h
      refine ⟨n, by omega, ?_, fun j hj => cntU_zero (n := n) (by omega) j hj⟩
      cases hl : listed.getD n true with
      | true => rw [hl] at h; simp at h; omega
      | false => rfl
theorem getD_set_self {listed : Array Bool} {i : Nat} (h : listed.getD i true = false) : (listed.setIfInBounds i true).getD i true = true := by
  rcases Nat.lt_or_ge i listed.size with h' | h'
  · simp [h']
  · simp [Array.getElem?_eq_none h'] at h
theorem cntU_set {listed : Array Bool} {i : Nat} (h : listed.getD i true = false) : ∀ {n : Nat}, (i < n → cntU listed n = cntU (listed.setIfInBounds i true) n + 1) ∧ (n ≤ i → cntU listed n = cntU (listed.setIfInBounds i true) n)
  | 0 => ⟨fun h => absurd h (by omega), fun _ => rfl⟩
  | n + 1 => by
    obtain ⟨h1, h2⟩ := cntU_set h (n := n)
    unfold cntU
    refine ⟨fun hi => ?_, fun hi => ?_⟩
    · by_cases hin : i = n
      · subst hin
        rw [h2 (Nat.le_refl _), h, getD_set_self h]
        simp
      · rw [h1 (by omega), getD_set_ne true hin]
        omega
    · rw [h2 (by omega), getD_set_ne true (by omega)]
theorem cntU_new (m : Nat) : ∀ n, n ≤ m → cntU (Array.replicate m false) n = n
  | 0, _ => rfl
  | n + 1, h => by
    unfold cntU
    rw [cntU_new m n (by omega)]
    simp [show n < m by omega]
section
variable {P : Program} {ops : Array Oper} {Q : Exit → Act → World → Prop} {fl : List Nat} {n N : Nat} {a0 : Act} {w0 : World} {PV : Nat → Value → World → Prop} {G : World → World → Prop}
theorem growB_dst (h : growB ops fl n N = true) {i : Nat} (hi : i < n) : ∃ o, ops[i]? = some o ∧ o.dst = gSlot ops i ∧ (∀ d, gSlot ops i = some d → d < N ∧ ∀ j, j < n → i ≠ j → gSlot ops j ≠ some d) ∧ (∀ e ∈ o.after, Region.binds .any e = true → e.on < i) := by
  unfold growB at h
  simp only [Bool.and_eq_true, List.all_eq_true, List.mem_range, decide_eq_true_eq, Bool.or_eq_true] at h
  obtain ⟨h1, h2⟩ := h.1.1.1.1 i hi
  cases ho : ops[i]? with
  | none => rw [ho] at h1; simp at h1
  | some o =>
    rw [ho] at h1
    simp only [Option.map_some, Option.getD_some, Array.all_eq_true_iff_forall_mem, Bool.or_eq_true, Bool.not_eq_true', decide_eq_true_eq] at h1
    refine ⟨o, rfl, ?_, fun d hd => ?_, fun e he hb => (h1 e he).resolve_left (by rw [hb]; simp)⟩
    · unfold gSlot
      rw [ho]
      rfl
    · unfold slotB at h2
      rw [hd] at h2
      simp only [Bool.and_eq_true, decide_eq_true_eq, List.all_eq_true, List.mem_range, Bool.or_eq_true] at h2
      exact ⟨h2.1, fun j hj hne => (h2.2 j hj).resolve_left hne⟩
structure GrowI (G : World → World → Prop) (ops : Array Oper) (n N : Nat) (a0 : Act) (w0 : World) (PV : Nat → Value → World → Prop) (listed : Array Bool) (a : Act) (w : World) : Prop where
  kp : G w0 w
  df : a.defers = a0.defers
  sz : a.tmps.size = N
  fr : ∀ t, growFree ops n t = true → a.tmps[t]? = a0.tmps[t]?
  pv : ∀ j, j < n → listed.getD j true = true → PV j (gVal ops a j) w
/-- what one operation owes -/
def GrowStepG (G : World → World → Prop) (P : Program) (ops : Array Oper) (Q : Exit → Act → World → Prop) (n N : Nat) (a0 : Act) (w0 : World) (PV : Nat → Value → World → Prop) (i : Nat) : Prop :=
  ∀ (a : Act) (w : World), G w0 w → (∀ t, growFree ops n t = true → a.tmps[t]?.getD undef = a0.tmps[t]?.getD undef) → (∀ j, Region.waitsFor .any ops i j = true → PV j (gVal ops a j) w) →
    ∀ K : Act → World → Prop, Hid (∀ v w', G w w' → PV i (gOut ops i v) w' → K (a.put (gSlot ops i) v) w') → ((ops[i]?).map fun o => if Region.wanted o (yielded ops a.tmps) = true then Oper.wp P o a w K Q else K (a.put o.dst undef) w).getD False
abbrev GrowStep := GrowStepG Kp
theorem waitsFor_mem {i : Nat} {oi : Oper} (ho : ops[i]? = some oi) {e : Edge} (he : e ∈ oi.after) (hb : Region.binds .any e = true) : Region.waitsFor .any ops i e.on = true := by
  unfold Region.waitsFor
  rw [ho]
  simp only [Option.map_some, Option.getD_some]
  simp only [Array.any_eq_true, Bool.and_eq_true, beq_iff_eq]
  obtain ⟨k, hk, rfl⟩ := Array.getElem_of_mem he
  exact ⟨k, hk, hb, rfl⟩
theorem waits_mem {i j : Nat} (h : Region.waitsFor .any ops j i = true) : ∃ oj, ops[j]? = some oj ∧ ∃ e ∈ oj.after, Region.binds .any e = true ∧ e.on = i := by
  unfold Region.waitsFor at h
  cases ho : ops[j]? with
  | none => rw [ho] at h; simp at h
  | some oj =>
    rw [ho] at h
    simp only [Array.any_eq_true, Bool.and_eq_true, beq_iff_eq] at h
    obtain ⟨k, hk, hb, he⟩ := h
    exact ⟨oj, rfl, _, Array.getElem_mem hk, hb, he⟩
theorem tailWaits {listed : Array Bool} (hs : sinkF ops fl n = true) (hc : Region.chainB .any ops n = true) (inv : HeadInv .any ops n listed) :
    ∀ (d i : Nat), n - i = d → i < n → i ∉ fl → listed.getD i true = false → ∀ t, n ≤ t → t ∉ Region.ready .any ops listed := by
  intro d
  induction d using Nat.strongRecOn with
  | _ d ih =>
    intro i hd hi hfl hun t ht hr
    have h0 := hs
    unfold sinkF at h0
    simp only [List.all_eq_true, List.mem_range, Bool.or_eq_true, List.any_eq_true, Bool.and_eq_true, decide_eq_true_eq, Bool.not_eq_true'] at h0
    rcases h0 i hi with h1 | ⟨j, hj, ⟨hij, hw⟩, hjf⟩
    · exact hfl (by simpa using h1)
    · obtain ⟨oj, hoj, e, he, hb, hon⟩ := waits_mem hw
      by_cases hjn : j = n
      · subst hjn
        obtain ⟨htu, ot, hot, hall⟩ := mem_ready.1 hr
        by_cases htn : t = j
        · subst htn
          rw [hoj] at hot
          injection hot with hot
          subst hot
          have := hall e he hb
          rw [hon, getD_both hun] at this
          cases this
        · have hts : t < ops.size := (Array.getElem?_eq_some_iff.1 hot).1
          unfold Region.chainB at hc
          simp only [List.all_eq_true, List.mem_range, Bool.or_eq_true, decide_eq_true_eq] at hc
          rcases hc t hts with h2 | h2
          · omega
          · obtain ⟨ot', hot', e', he', hb', hon'⟩ := waits_mem h2
            rw [hot] at hot'
            injection hot' with hot'
            subst hot'
            have h3 := hall e' he' hb'
            rw [hon', getD_both (inv.tail (t - 1) (by omega) (by omega))] at h3
            cases h3
      · have hjl : j < n := by have := hj; omega
        have hju : listed.getD j true = false := by
          cases hl : listed.getD j true with
          | false => rfl
          | true =>
            have hjs : j < listed.size := by rw [inv.size]; exact (Array.getElem?_eq_some_iff.1 hoj).1
            have h3 := inv.closed j oj hoj (by simpa [hjs] using hl) e he hb
            rw [hon, getD_both hun] at h3
            cases h3
        exact ih (n - j) (by omega) j rfl hjl (by rcases hjf with h | h; exact absurd h hjn; simpa using h) hju t ht hr
theorem grow_put {i : Nat} {listed : Array Bool} {a : Act} {w w' : World} {v : Value} (hB : growB ops fl n N = true) (htr : ∀ x y z, G x y → G y z → G x z) (hst : ∀ j v w1 w2, PV j v w1 → G w1 w2 → PV j v w2) (I : GrowI G ops n N a0 w0 PV listed a w) (hin : i < n) (hk : G w w') (hv : PV i (gOut ops i v) w') :
    GrowI G ops n N a0 w0 PV (listed.setIfInBounds i true) (a.put (gSlot ops i) v) w' := by
  obtain ⟨o, ho, hd, hdN, hb⟩ := growB_dst hB hin
  cases hsl : gSlot ops i with
  | none =>
    refine ⟨htr _ _ _ I.kp hk, I.df, I.sz, I.fr, fun j hj hl => ?_⟩
    show PV j (gVal ops a j) w'
    by_cases hij : i = j
    · subst hij
      unfold gOut at hv
      unfold gVal
      rw [hsl] at hv ⊢
      exact hv
    · rw [getD_set_ne true hij] at hl
      exact hst j _ _ _ (I.pv j hj hl) hk
  | some d =>
    obtain ⟨hdn, hne⟩ := hdN d hsl
    refine ⟨htr _ _ _ I.kp hk, by simpa [Act.put] using I.df, by simpa [Act.put] using I.sz, fun t ht => ?_, fun j hj hl => ?_⟩
    · have hti : d ≠ t := by
        unfold growFree at ht
        simp only [List.all_eq_true, List.mem_range, decide_eq_true_eq] at ht
        intro e
        exact ht i hin (by rw [hsl, e])
      rw [show (a.put (some d) v).tmps = a.tmps.setIfInBounds d v from rfl, Array.getElem?_setIfInBounds_ne hti]
      exact I.fr t ht
    · by_cases hij : i = j
      · subst hij
        unfold gOut at hv
        unfold gVal
        rw [hsl] at hv ⊢
        dsimp only at hv ⊢
        rw [show (a.put (some d) v).tmps = a.tmps.setIfInBounds d v from rfl, Array.getElem?_setIfInBounds_self_of_lt (by rw [I.sz]; exact hdn)]
        exact hv
      · have h1 : gVal ops (a.put (some d) v) j = gVal ops a j := by
          unfold gVal
          cases hsj : gSlot ops j with
          | none => rfl
          | some d' =>
            dsimp only
            have : d ≠ d' := fun e => hne j hj hij (by rw [hsj, e])
            rw [show (a.put (some d) v).tmps = a.tmps.setIfInBounds d v from rfl, Array.getElem?_setIfInBounds_ne this]
        rw [h1]
        rw [getD_set_ne true hij] at hl
        exact hst j _ _ _ (I.pv j hj hl) hk
theorem grow_main (hB : growB ops fl n N = true) (hrf : ∀ x, G x x) (htr : ∀ x y z, G x y → G y z → G x z) (hQ : ∀ d c a v w, Q (.panic c) (Act.put a (some d) v) w → Q (.panic c) a w) (hst : ∀ j v w1 w2, PV j v w1 → G w1 w2 → PV j v w2) (hstep : ∀ i, i < n → GrowStepG G P ops Q n N a0 w0 PV i)
    (hfl : ∀ i, i ∈ fl → i < n ∧ ∀ (a : Act) (w : World), G w0 w → (∀ t, growFree ops n t = true → a.tmps[t]?.getD undef = a0.tmps[t]?.getD undef) → (∀ j, Region.waitsFor .any ops i j = true → PV j (gVal ops a j) w) → ((ops[i]?).map fun o => ∃ v, PV i (gOut ops i v) w ∧ Yields P ops o v a).getD False)
    (htail : ∀ a w, G w0 w → a.defers = a0.defers → a.tmps.size = N → (∀ t, growFree ops n t = true → a.tmps[t]? = a0.tmps[t]?) → (∀ j, j < n → PV j (gVal ops a j) w) → wpList P ops Q (ops.toList.drop n) a w) :
    ∀ (f : Nat) (listed : Array Bool) (a : Act) (w : World), HeadInv .any ops n listed → cntU listed n = f → GrowI G ops n N a0 w0 PV listed a w → wpAny P .any ops Q (f + (ops.size - n)) listed a w := by
  have hB' := hB
  unfold growB at hB'
  simp only [Bool.and_eq_true, decide_eq_true_eq] at hB'
  obtain ⟨⟨⟨⟨-, hn⟩, ⟨hs, hF⟩, hsel⟩, hc⟩, hq⟩ := hB'
  intro f
  induction f with
  | zero =>
    intro listed a w inv h0 I
    have hall := cntU_zero h0
    have hl : listed = Array.replicate n true ++ Array.replicate (ops.size - n) false := by
      apply Array.ext
      · rw [inv.size]; simp; omega
      · intro i h1 h2
        have hi : i < ops.size := by rw [← inv.size]; exact h1
        by_cases hin : i < n
        · have := hall i hin
          rw [Array.getElem_append_left (by simpa using hin), Array.getElem_replicate]
          simpa [h1] using this
        · have := inv.tail i (by omega) hi
          rw [Array.getElem_append_right (by simpa using hin), Array.getElem_replicate]
          simpa [h1] using this
    have hdl : (ops.toList.drop n).length = ops.size - n := by simp
    have := wpAny_of_seq (P := P) (md := .any) (ops := ops) (Q' := Q) (ops.toList.drop n) n listed a w (fun j => by simp [List.getElem?_drop]) (by rw [hdl, hl]; exact hq) (htail a w I.kp I.df I.sz I.fr fun j hj => I.pv j hj (hall j hj))
    rw [hdl] at this
    simpa using this
  | succ f ih =>
    intro listed a w inv hf I
    obtain ⟨m, hm, hmu, hmin⟩ := cntU_pos (listed := listed) (n := n) (by omega)
    have hmr : m ∈ Region.ready .any ops listed := by
      obtain ⟨o, ho, -, -, hb⟩ := growB_dst hB hm
      exact mem_ready.2 ⟨hmu, o, ho, fun e he hbn => by
        have h1 := hmin e.on (hb e he hbn)
        have h2 : e.on < listed.size := by rw [inv.size]; have := hb e he hbn; omega
        simpa [h2] using h1⟩
    have hdeps : ∀ i, i ∈ Region.ready .any ops listed → i < n → ∀ j, Region.waitsFor .any ops i j = true → PV j (gVal ops a j) w := by
      intro i hi hin j hj
      obtain ⟨o, ho, -, -, hb⟩ := growB_dst hB hin
      obtain ⟨hun, o', ho', hall⟩ := mem_ready.1 hi
      obtain rfl : o = o' := Option.some.inj (ho.symm.trans ho')
      obtain ⟨oj, hoj, e, he, hbn, hon⟩ := waits_mem hj
      obtain rfl : o = oj := Option.some.inj (ho.symm.trans hoj)
      have hl := hall _ he hbn
      rw [hon] at hl
      have hjn : j < n := by have := hb _ he hbn; omega
      refine I.pv j hjn ?_
      have h2 : j < listed.size := by rw [inv.size]; omega
      simpa [h2] using hl
    rw [show f + 1 + (ops.size - n) = (f + (ops.size - n)) + 1 by omega]
    by_cases hA : ∃ i, i < n ∧ i ∉ fl ∧ listed.getD i true = false
    · obtain ⟨x, hx, hxf, hxu⟩ := hA
      refine ⟨fun h0 => (by rw [h0] at hmr; cases hmr), fun i hi => ?_⟩
      have hin : i < n := by
        rcases Nat.lt_or_ge i n with h | h
        · exact h
        · exact absurd hi (tailWaits hs hc inv _ x rfl hx hxf hxu i h)
      obtain ⟨o, ho, hd, hdN, hb⟩ := growB_dst hB hin
      obtain ⟨hun, o', ho', hall⟩ := mem_ready.1 hi
      refine wpOp_step ho fun K' hK => ?_
      have h1 := hstep i hin a w I.kp (fun t ht => by rw [I.fr t ht]) (hdeps i hi hin) K' (hid fun v w' hk hv => hK _ _ (ih _ _ _ (inv.set hi hin) (by have := (cntU_set hun (n := n)).1 hin; omega) (grow_put hB htr hst I hin hk hv)))
      rw [ho] at h1
      exact h1
    · have hmf : m ∈ fl := by
        by_cases h : m ∈ fl
        · exact h
        · exact absurd ⟨m, hm, h, hmu⟩ hA
      obtain ⟨o, ho, hd, hdN, hb⟩ := growB_dst hB hm
      have h1 := (hfl m hmf).2 a w I.kp (fun t ht => by rw [I.fr t ht]) (hdeps m hmr hm)
      rw [ho] at h1
      obtain ⟨v, hv, hy⟩ : ∃ v, PV m (gOut ops m v) w ∧ Yields P ops o v a := h1
      refine wpAny_first ho (Region.noSelect_spec hsel) (fun c a w h => ?_) _ listed a w (fun j oj hoj hji hju hno => ?_) hmr hy ?_
      · cases hdd : o.dst with
        | none => rw [hdd] at h; exact h
        | some d => rw [hdd] at h; exact hQ d c a v w h
      · unfold floatB at hF
        simp only [List.all_eq_true, List.mem_range, Bool.or_eq_true, decide_eq_true_eq] at hF
        rcases hF m hmf j (Array.getElem?_eq_some_iff.1 hoj).1 with ((h2 | h2) | h2) | h2
        · exact absurd h2 hji
        · obtain ⟨oj', hoj', e, he, hbn, hon⟩ := waits_mem h2
          obtain rfl : oj = oj' := Option.some.inj (hoj.symm.trans hoj')
          exact absurd hon (hno e he hbn)
        · obtain ⟨om, hom, e, he, hbn, hon⟩ := waits_mem h2
          obtain rfl : o = om := Option.some.inj (ho.symm.trans hom)
          have h3 := hmin e.on (hb e he hbn)
          rw [hon, hju] at h3
          cases h3
        · rw [ho, hoj] at h2
          simpa using h2
      · rw [hd]
        exact ih _ _ _ (inv.set hmr hm) (by have := (cntU_set hmu (n := n)).1 hm; omega) (grow_put hB htr hst I hm (hrf _) hv)
/-- the slots of the head filled -/
def growPut (ops : Array Oper) (v : Nat → Value) (T : Array Value) : Nat → Array Value
  | 0 => T
  | n + 1 => match gSlot ops n with | some d => (growPut ops v T n).setIfInBounds d (v n) | none => growPut ops v T n
theorem growPut_size (v : Nat → Value) (T : Array Value) : ∀ n, (growPut ops v T n).size = T.size
  | 0 => rfl
  | n + 1 => by
    unfold growPut
    split
    · simp [growPut_size v T n]
    · exact growPut_size v T n
theorem growPut_get (v : Nat → Value) (T S : Array Value) (hv : ∀ j d, gSlot ops j = some d → v j = S[d]?.getD undef) (hs : S.size = T.size) : ∀ n t, ((∃ j, j < n ∧ gSlot ops j = some t) ∨ T[t]? = S[t]?) → (growPut ops v T n)[t]? = S[t]?
  | 0, t, h => by
    rcases h with ⟨j, hj, -⟩ | h
    · omega
    · exact h
  | n + 1, t, h => by
    have ih := growPut_get v T S hv hs n t
    unfold growPut
    cases hsl : gSlot ops n with
    | none =>
      dsimp only
      refine ih ?_
      rcases h with ⟨j, hj, hjt⟩ | h
      · refine .inl ⟨j, ?_, hjt⟩
        rcases Nat.lt_or_ge j n with h | h
        · exact h
        · rw [show j = n by omega, hsl] at hjt
          cases hjt
      · exact .inr h
    | some d =>
      dsimp only
      by_cases hd : d = t
      · subst hd
        by_cases hlt : d < T.size
        · rw [Array.getElem?_setIfInBounds_self_of_lt (by rw [growPut_size]; exact hlt), hv n d hsl, Array.getElem?_eq_getElem (by omega)]
          rfl
        · rw [Array.getElem?_eq_none (by simp [growPut_size]; omega), Array.getElem?_eq_none (by omega)]
      · rw [Array.getElem?_setIfInBounds_ne hd]
        refine ih ?_
        rcases h with ⟨j, hj, hjt⟩ | h
        · refine .inl ⟨j, ?_, hjt⟩
          rcases Nat.lt_or_ge j n with h | h
          · exact h
          · rw [show j = n by omega, hsl] at hjt
            injection hjt with hjt
            exact absurd hjt hd
        · exact .inr h
theorem wp_region_growG (G : World → World → Prop) {id : Nat} {a : Act} {w : World} {l : List Oper} (fl : List Nat) (n N : Nat) (PV : Nat → Value → World → Prop) (hm : P.follows .mixedOrders = true) (hB : growB l.toArray fl n N = true) (hN : a.tmps.size = N)
    (hrf : ∀ x, G x x) (htr : ∀ x y z, G x y → G y z → G x z) (hdr : G w w.drew)
    (hQ : ∀ d c a v w, Q (.panic c) (Act.put a (some d) v) w → Q (.panic c) a w) (hst : ∀ j v w1 w2, PV j v w1 → G w1 w2 → PV j v w2) (hstep : ∀ i, i < n → GrowStepG G P l.toArray Q n N a w PV i)
    (hfl : ∀ i, i ∈ fl → i < n ∧ ∀ (a' : Act) (w' : World), G w w' → (∀ t, growFree l.toArray n t = true → a'.tmps[t]?.getD undef = a.tmps[t]?.getD undef) → (∀ j, Region.waitsFor .any l.toArray i j = true → PV j (gVal l.toArray a' j) w') → ((l.toArray[i]?).map fun o => ∃ v, PV i (gOut l.toArray i v) w' ∧ Yields P l.toArray o v a').getD False)
    (htail : ∀ (v : Nat → Value) w', G w w' → (∀ j, j < n → PV j (gOut l.toArray j (v j)) w') → wpList P l.toArray Q (l.drop n) { a with tmps := growPut l.toArray v a.tmps n } w') : (Code.region id l.toArray true).wp P Q a w := by
  refine wp_region_any hm ?_
  have hB' := hB
  unfold growB at hB'
  simp only [Bool.and_eq_true, decide_eq_true_eq] at hB'
  obtain ⟨⟨⟨⟨-, hn⟩, -⟩, hc⟩, hq⟩ := hB'
  have inv0 : HeadInv .any l.toArray n (Array.replicate l.toArray.size false) :=
    ⟨by simp, fun j oj _ hl => (by rw [getD_replicate_false] at hl; cases hl), fun t _ ht => getD_in (by simpa using ht) (getD_replicate_false _ _)⟩
  have := grow_main (P := P) (Q := Q) (a0 := a) (w0 := w) (PV := PV) (G := G) hB hrf htr hQ hst hstep hfl (fun a' w' hk hd hz hf hv => by
    have e : a' = { a with tmps := growPut l.toArray (gVal l.toArray a') a.tmps n } := by
      have e1 : growPut l.toArray (gVal l.toArray a') a.tmps n = a'.tmps := by
        apply Array.ext_getElem?
        intro t
        refine growPut_get _ a.tmps a'.tmps (fun j d hjd => by unfold gVal; rw [hjd]) (by omega) n t ?_
        cases ht : growFree l.toArray n t with
        | true => exact .inr (hf t ht).symm
        | false =>
          left
          unfold growFree at ht
          rw [List.all_eq_false] at ht
          obtain ⟨j, hj, hne⟩ := ht
          exact ⟨j, List.mem_range.1 hj, by simpa using hne⟩
      rw [e1]
      cases a'
      simp only at hd
      rw [hd]
    rw [e]
    have := htail (gVal l.toArray a') w' hk (fun j hj => by
      have h1 := hv j hj
      unfold gOut gVal
      unfold gVal at h1
      cases hsl : gSlot l.toArray j with
      | none => rw [hsl] at h1; exact h1
      | some d => rw [hsl] at h1; exact h1)
    simpa using this) n (Array.replicate l.toArray.size false) a _ inv0 (cntU_new _ _ (by omega)) ⟨hdr, rfl, hN, fun _ _ => rfl, fun j hj hl => by
      have hjs : j < l.toArray.size := by omega
      simp only [Array.getD_eq_getD_getElem?, Array.getElem?_replicate] at hl
      rw [if_pos hjs] at hl
      simp at hl⟩
  rw [show n + (l.toArray.size - n) = l.toArray.size by omega] at this
  exact this
theorem wp_region_grow {id : Nat} {a : Act} {w : World} {l : List Oper} (fl : List Nat) (n N : Nat) (PV : Nat → Value → World → Prop) (hm : P.follows .mixedOrders = true) (hB : growB l.toArray fl n N = true) (hN : a.tmps.size = N)
    (hQ : ∀ d c a v w, Q (.panic c) (Act.put a (some d) v) w → Q (.panic c) a w) (hst : ∀ j v w1 w2, PV j v w1 → Kp w1 w2 → PV j v w2) (hstep : ∀ i, i < n → GrowStep P l.toArray Q n N a w PV i)
    (hfl : ∀ i, i ∈ fl → i < n ∧ ∀ (a' : Act) (w' : World), Kp w w' → (∀ t, growFree l.toArray n t = true → a'.tmps[t]?.getD undef = a.tmps[t]?.getD undef) → (∀ j, Region.waitsFor .any l.toArray i j = true → PV j (gVal l.toArray a' j) w') → ((l.toArray[i]?).map fun o => ∃ v, PV i (gOut l.toArray i v) w' ∧ Yields P l.toArray o v a').getD False)
    (htail : ∀ (v : Nat → Value) w', Kp w w' → (∀ j, j < n → PV j (gOut l.toArray j (v j)) w') → wpList P l.toArray Q (l.drop n) { a with tmps := growPut l.toArray v a.tmps n } w') : (Code.region id l.toArray true).wp P Q a w :=
  wp_region_growG Kp fl n N PV hm hB hN Kp.refl (fun _ _ _ h k => h.trans k) (Kp.refl w).drew hQ hst hstep hfl htail
end
end Go.Proofs.Ytfllmnaillilhaa.G2
