
/-
Drawn regions in which two operations change rows that lie apart, in any order.
-/
import Derived.Test.YtbcekihjcgnhkaaBkQ
namespace Go.Proofs.Ytbcekihjcgnhkaa
set_option linter.unusedSimpArgs false
set_option linter.unusedVariables false
open Go.RowKit

theorem getD_self {listed : Array Bool} {i : Nat} (h : listed.getD i true = false) : (listed.setIfInBounds i true).getD i false = true := by
  rcases Nat.lt_or_ge i listed.size with h' | h'
  · simp [h']
  · simp [Array.getElem?_eq_none h'] at h
def GrowStepD (c d : Nat) (X Y : Nat → Prop) (P : Program) (ops : Array Oper) (Q : Exit → Act → World → Prop) (n N : Nat) (a0 : Act) (w0 : World) (PV : Nat → Value → World → Prop) (i : Nat) : Prop :=
  ∀ (a : Act) (w : World), (if i = c then Fx Y w0 w else if i = d then Fx X w0 w else Fx (fun k => X k ∨ Y k) w0 w) → (∀ t, G2.growFree ops n t = true → a.tmps[t]?.getD undef = a0.tmps[t]?.getD undef) → (∀ j, Region.waitsFor .any ops i j = true → PV j (G2.gVal ops a j) w) →
    ∀ K : Act → World → Prop, Hid (∀ v w', (if i = c then Fx X w w' else if i = d then Fx Y w w' else Kp w w') → PV i (G2.gOut ops i v) w' → K (a.put (G2.gSlot ops i) v) w') → ((ops[i]?).map fun o => if Region.wanted o (yielded ops a.tmps) = true then Oper.wp P o a w K Q else K (a.put o.dst undef) w).getD False
/-- what two changing operations have changed so far -/
def seenD (c d : Nat) (X Y : Nat → Prop) (listed : Array Bool) (k : Nat) : Prop := (listed.getD c false = true ∧ X k) ∨ (listed.getD d false = true ∧ Y k)
theorem wp_region_growD {P : Program} {Q : Exit → Act → World → Prop} (c d : Nat) (X Y : Nat → Prop) {id : Nat} {a : Act} {w : World} {l : List Oper} (fl : List Nat) (n N : Nat) (ps : List (Value → World → Prop)) (hm : P.follows .mixedOrders = true) (hB : G2.growB l.toArray fl n N = true) (hN : a.tmps.size = N) (hcd : c ≠ d) (hcn : c < n) (hdn : d < n)
    (hQ : ∀ d c a v w, Q (.panic c) (Act.put a (some d) v) w → Q (.panic c) a w)
    (hstc : ∀ v w1 w2, G2.pvL ps c v w1 → Fx Y w1 w2 → G2.pvL ps c v w2) (hstd : ∀ v w1 w2, G2.pvL ps d v w1 → Fx X w1 w2 → G2.pvL ps d v w2)
    (hst : ∀ j, j ≠ c → j ≠ d → ∀ v w1 w2, G2.pvL ps j v w1 → Fx (fun k => X k ∨ Y k) w1 w2 → G2.pvL ps j v w2)
    (hstep : ∀ i, i < n → GrowStepD c d X Y P l.toArray Q n N a w (G2.pvL ps) i)
    (hfl : ∀ i, i ∈ fl → i < n ∧ ∀ (a' : Act) (w' : World), Fx (fun k => X k ∨ Y k) w w' → (∀ t, G2.growFree l.toArray n t = true → a'.tmps[t]?.getD undef = a.tmps[t]?.getD undef) → (∀ j, Region.waitsFor .any l.toArray i j = true → G2.pvL ps j (G2.gVal l.toArray a' j) w') → ((l.toArray[i]?).map fun o => ∃ v, G2.pvL ps i (G2.gOut l.toArray i v) w' ∧ Yields P l.toArray o v a').getD False)
    (htail : ∀ (v : Nat → Value) w', Fx (fun k => X k ∨ Y k) w w' → (∀ j, j < n → G2.pvL ps j (G2.gOut l.toArray j (v j)) w') → wpList P l.toArray Q (l.drop n) { a with tmps := G2.growPut l.toArray v a.tmps n } w') : (Code.region id l.toArray true).wp P Q a w := by
  have hall : ∀ (listed : Array Bool) k, seenD c d X Y listed k → X k ∨ Y k := fun listed k h => by
    rcases h with h | h
    · exact .inl h.2
    · exact .inr h.2
  refine G2.wp_region_growJ (fun listed w' => Fx (seenD c d X Y listed) w w') (fun i w1 w2 => if i = c then Fx X w1 w2 else if i = d then Fx Y w1 w2 else Kp w1 w2) fl n N (G2.pvL ps) hm hB hN ?_ ?_ hQ ?_ ?_ (fun i w' => by
      by_cases h : i = c
      · simp only [h, if_true]; exact Fx.refl _ _
      · by_cases h2 : i = d
        · simp only [h2, Ne.symm hcd, if_true, if_false]; exact Fx.refl _ _
        · simp only [h, h2, if_false]; exact Kp.refl _) ?_ ?_
  · exact ((Kp.refl w).drew).fx _
  · intro i listed w1 w2 hin hls hun hJ hR
    have h1 : Fx (seenD c d X Y (listed.setIfInBounds i true)) w w1 := hJ.mono fun k _ hk => by
      rcases hk with hk | hk
      · exact .inl ⟨getD_set_true hk.1, hk.2⟩
      · exact .inr ⟨getD_set_true hk.1, hk.2⟩
    refine h1.trans ?_
    by_cases hic : i = c
    · subst hic
      rw [if_pos rfl] at hR
      exact hR.mono fun k _ hk => .inl ⟨getD_self hun, hk⟩
    · rw [if_neg hic] at hR
      by_cases hid : i = d
      · subst hid
        rw [if_pos rfl] at hR
        exact hR.mono fun k _ hk => .inr ⟨getD_self hun, hk⟩
      · rw [if_neg hid] at hR
        exact hR.fx _
  · intro i j v w1 w2 hij hp hR
    by_cases hjc : j = c
    · subst hjc
      rw [if_neg hij] at hR
      refine hstc v w1 w2 hp ?_
      by_cases hid : i = d
      · rw [if_pos hid] at hR; exact hR
      · rw [if_neg hid] at hR; exact hR.fx _
    · by_cases hjd : j = d
      · subst hjd
        rw [if_neg hij] at hR
        refine hstd v w1 w2 hp ?_
        by_cases hic : i = c
        · rw [if_pos hic] at hR; exact hR
        · rw [if_neg hic] at hR; exact hR.fx _
      · refine hst j hjc hjd v w1 w2 hp ?_
        by_cases hic : i = c
        · rw [if_pos hic] at hR; exact hR.mono fun k _ hk => .inl hk
        · rw [if_neg hic] at hR
          by_cases hid : i = d
          · rw [if_pos hid] at hR; exact hR.mono fun k _ hk => .inr hk
          · rw [if_neg hid] at hR; exact hR.fx _
  · intro i hin listed a' w' hJ hun hF hD K hK
    refine hstep i hin a' w' ?_ hF hD K hK
    have hun' := getD_both hun
    by_cases hic : i = c
    · rw [if_pos hic]
      subst hic
      exact hJ.mono fun k _ hk => by
        rcases hk with hk | hk
        · rw [hun'] at hk; exact absurd hk.1 (by decide)
        · exact hk.2
    · rw [if_neg hic]
      by_cases hid : i = d
      · rw [if_pos hid]
        subst hid
        exact hJ.mono fun k _ hk => by
          rcases hk with hk | hk
          · exact hk.2
          · rw [hun'] at hk; exact absurd hk.1 (by decide)
      · rw [if_neg hid]
        exact hJ.mono fun k _ hk => hall _ k hk
  · intro i hi
    refine ⟨(hfl i hi).1, fun listed a' w' hJ hF hD => (hfl i hi).2 a' w' (hJ.mono fun k _ hk => hall _ k hk) hF hD⟩
  · intro v listed w' hl hJ hv
    exact htail v w' (hJ.mono fun k _ hk => hall _ k hk) hv
/-- stability of the properties but those of the two -/
def StabDL (G : World → World → Prop) (c d : Nat) (ps : List (Value → World → Prop)) : Prop := ∀ j p, ps[j]? = some p → j ≠ c → j ≠ d → StabG G p
theorem stabD_list {G : World → World → Prop} {c d : Nat} {ps : List (Value → World → Prop)} (h : StabDL G c d ps) : ∀ j, j ≠ c → j ≠ d → ∀ v w1 w2, G2.pvL ps j v w1 → G w1 w2 → G2.pvL ps j v w2 := fun j hc hd v w1 w2 hp hg => by
  unfold G2.pvL at hp ⊢
  cases hpj : ps[j]? with
  | none => trivial
  | some p =>
    rw [hpj] at hp
    exact h j p hpj hc hd v w1 w2 hp hg
/-! appending, at an operation -/
theorem wp_append_flat {P : Program} {α : Type} {enc : α → List Value} {t e size bytes base : Nat} {w : World} {v : Value} {l : List α} {o : Oper} {a : Act} {K : Act → World → Prop} {Q : Exit → Act → World → Prop} (s x : Operand)
    (ho : o.op = .call { callee := .builtin .append, args := #[s, x], argTypes := #[t, t] }) (hT : SliceT P t e size bytes) (he : ∀ x, (enc x).length = size) (h1 : ∀ x, ∀ u ∈ enc x, u.oneCell' = true)
    (hs : a.eval s = v) (hown : Own enc e size base w v l)
    {v2 : Value} {m : List α} (hx : a.eval x = v2) (hsrc : Sl (Pl enc) size w v2 m) (hlen : l.length + m.length ≤ 4611686018427387904) (hby : (l.length + m.length) * bytes ≤ 140737488355328) (hbase : base ≤ w.heap.size)
    (h : ∀ v' w', Own enc e size base w' v' (l ++ m) → w.grownBy w' v.ownBlock → (v'.ownBlock = v.ownBlock ∨ v'.ownBlock = some w.heap.size) → K (a.put o.dst v') w') : Oper.wp P o a w K Q := by
  obtain ⟨v', w', hr, h2, h3, h4, h5⟩ := run_append_flat hT he h1 o.type hown hsrc hlen hby hbase
  unfold Oper.wp execOp
  simp only [ho, resolve, invoke, builtin, Sem.run_bind, Sem.run_pure, Result.andThen_ok, List.map_toArray, List.map_cons, List.map_nil, hs, hx, hr]
  exact h v' w' h2 h3 h4
end Go.Proofs.Ytbcekihjcgnhkaa
