
/-
The requests of the others that have needs, by priority: the walk.
-/
import Derived.Test.YtbcekihjcgnhkaaBkI
import Derived.Maps.RangeWalk
namespace Go.Proofs.Ytbcekihjcgnhkaa
set_option linter.unusedSimpArgs false
set_option linter.unusedVariables false
set_option linter.unusedSectionVars false
open Go.RowKit

/-! ranging over a map, at the operations -/
/-- how many entries are left -/
def leftN (w : World) (b r : Nat) : Nat :=
  match w.heap[b]?, w.heap[r]? with
  | some (.map es _), some (.mapIter _ _ seen _) => (leftOf es seen).size
  | _, _ => 0
section
variable {κ : Type} [DecidableEq κ] {encK : κ → Value} {w : World} {mb it : Nat} {l left : List (κ × Value)} {kt mt et : TypeId} {ops : Array Oper} {rest : List Oper} {o : Oper} {a : Act} {Q : Exit → Act → World → Prop}
theorem Rng.leftN (h : Rng encK w mb it l left) : leftN w mb it = left.length := by
  obtain ⟨es, clock, zs, since, seen, c0, hb, h1, rfl, hr, hold, hsc, hcl, rfl⟩ := h
  unfold Proofs.Ytbcekihjcgnhkaa.leftN
  rw [hb, hr]
  dsimp only
  have hleft : (leftOf es seen).toList = (zs.filter fun z => !seen.contains z.1.born).map (·.1) := by
    unfold leftOf
    rw [Array.toList_filter, ← h1.ent, List.filter_map]
    rfl
  have h2 := congrArg List.length hleft
  rw [Array.length_toList] at h2
  rw [h2]
  simp
theorem wpl_range (hgd : o.guard = none) (t : TypeId) (m : Operand) (ho : o.op = Op.range t m) (hm : a.eval m = .map (some mb)) (h : MapL encK w mb l) (ht : Try.prog.underlying t = some (.map kt et))
    (hk : ∀ ob, Rng encK (w.alloc ob) mb w.heap.size l l → wpList Try.prog ops Q rest (a.put o.dst (.pointer (some ⟨w.heap.size, 0, none⟩))) (w.alloc ob)) : wpList Try.prog ops Q (o :: rest) a w := by
  refine wpList_plain hgd fun K hK => ?_
  obtain ⟨ob, hrun, hr⟩ := h.range ht
  unfold Oper.wp
  simp [execOp, ho, hm, hrun, Result.andThen]
  exact hK _ _ (hk ob hr)
theorem wpl_next (hgd : o.guard = none) (i : Operand) (ho : o.op = Op.next i false) (hi : a.eval i = .pointer (some ⟨it, 0, none⟩)) (h : Rng encK w mb it l left)
    (h0 : left = [] → wpList Try.prog ops Q rest (a.put o.dst (.tuple #[.bool false])) w)
    (hk : ∀ k v left' w', left.Perm ((k, v) :: left') → (k, v) ∈ l → Rng encK w' mb it l left' → Kg w w' it → w'.heap.size = w.heap.size → Sem.run Try.prog (Instr.entry (.pointer (some ⟨it, 0, none⟩))) w' = .ok (.tuple #[encK k, v]) w' → wpList Try.prog ops Q rest (a.put o.dst (.tuple #[.bool true, encK k, v])) w') : wpList Try.prog ops Q (o :: rest) a w := by
  refine wpList_plain hgd fun K hK => ?_
  unfold Oper.wp
  rcases h.next o.type with ⟨h1, hrun⟩ | ⟨k, v, left', w', h1, h2, hrun, h3, h4, h5, h6⟩
  · simp [execOp, ho, hi, hrun, Result.andThen]
    exact hK _ _ (h0 h1)
  · simp [execOp, ho, hi, hrun, Result.andThen]
    exact hK _ _ (hk k v left' w' h1 h2 h3 h4 h5 h6)
end
/-! rows of requests -/
/-- requests in a row of the call's own, each with a row of needs of its own -/
structure AR (base : Nat) (w : World) (v : Value) (l : List AV) : Prop where
  own : Own encAV 29 6 base w v l
  nds : ∀ x ∈ l, Own encNd 41 4 base w x.v x.a.needs
  apart : l.Pairwise fun x y => x.v.ownBlock ≠ y.v.ownBlock
  row : ∀ x ∈ l, x.v.ownBlock ≠ v.ownBlock ∧ x.v.ownBlock ≠ none
section
variable {base : Nat} {w w' : World} {v : Value} {l : List AV}
theorem AR.nil (base : Nat) (w : World) : AR base w (.slice none 0 0) [] := ⟨Own.nil _ _ _ _ _, by simp, .nil, by simp⟩
theorem AR.kp (h : AR base w v l) (k : Kp w w') : AR base w' v l := ⟨h.own.kp k, fun x hx => (h.nds x hx).kp k, h.apart, h.row⟩
theorem AR.kg {g : Nat} (h : AR base w v l) (k : Kg w w' g) (hg : g < base) : AR base w' v l := ⟨h.own.kg k hg, fun x hx => (h.nds x hx).kg k hg, h.apart, h.row⟩
theorem AR.less {base' : Nat} (h : AR base w v l) (hb : base' ≤ base) : AR base' w v l := ⟨h.own.less hb, fun x hx => (h.nds x hx).less hb, h.apart, h.row⟩
theorem Own.some {α : Type} {enc : α → List Value} {e size base : Nat} {w : World} {v : Value} {l : List α} (h : Own enc e size base w v l) (hl : 0 < l.length) : v.ownBlock ≠ none := by
  obtain ⟨g, c, rfl, -⟩ := h.row hl
  simp [Value.ownBlock]
end
/-- the requests with needs among some entries -/
def askOf (H : Int → Option Ak) (l : List (Int × Value)) : List Ak := l.filterMap fun p => (H p.1).filter hasN
theorem askOf_append (H : Int → Option Ak) (l m : List (Int × Value)) : askOf H (l ++ m) = askOf H l ++ askOf H m := List.filterMap_append
theorem mem_askOf (H : Int → Option Ak) (l : List (Int × Value)) (x : Ak) : x ∈ askOf H l ↔ ∃ p ∈ l, H p.1 = some x ∧ hasN x = true := by
  unfold askOf
  simp only [List.mem_filterMap, Option.filter_eq_some_iff]
theorem askOf_len (H : Int → Option Ak) (l : List (Int × Value)) : (askOf H l).length ≤ l.length := List.length_filterMap_le _ _
theorem nodup_bound : ∀ (n : Nat) (l : List Int), l.Nodup → (∀ x ∈ l, 0 ≤ x ∧ x < n) → l.length ≤ n
  | 0, [], _, _ => Nat.le_refl _
  | 0, x :: l, _, h => by have := h x (by simp); omega
  | n + 1, l, hn, h => by
    have h1 := nodup_bound n (l.filter fun x => x != (n : Int)) (hn.sublist List.filter_sublist) fun x hx => by
      simp only [List.mem_filter, bne_iff_ne] at hx
      have := h x hx.1
      omega
    have h2 : l.length ≤ (l.filter fun x => x != (n : Int)).length + 1 := by
      clear h h1
      induction l with
      | nil => simp
      | cons y l ih =>
        rw [List.nodup_cons] at hn
        by_cases hy : y = n
        · subst hy
          have : l.filter (fun x => x != (n : Int)) = l := List.filter_eq_self.2 fun z hz => by
            have : z ≠ n := fun e => hn.1 (e ▸ hz)
            simpa using this
          rw [List.filter_cons_of_neg (by simp), this]
          simp
        · rw [List.filter_cons_of_pos (by simpa using hy)]
          have := ih hn.2
          simp only [List.length_cons]
          omega
    omega
theorem stask : SliceT Try.prog 49 29 6 64 := SliceT.mk' Try.underlying49 (z := .agg #[.int .i64 0, .int .i64 0, .int .i64 0, .int .i64 0, .int .i64 0, .slice none 0 0]) (by kernel_rfl) rfl (by omega)
/-- a row of requests, sorted, is the one that is asked for -/
theorem reqs_eq {S : Nat → Prop} {w : World} {s : Bk} {L done : List (Int × Value)} {l' : List AV} {la : List Ak} (ok : OkB s) (hh : HeardR S w L s.heard) (hnd : (L.map (·.1)).Nodup) (hp : done.Perm L) (hl : la = askOf s.heard done) (hl' : (l'.map (·.a)).Perm la)
    (hs : l'.Pairwise fun x y => lessB y.a.pri x.a.pri = false) : l'.map (·.a) = reqL s := by
  have hkeys : ∀ k a, s.heard k = some a → k ∈ L.map (·.1) := fun k a hk => by
    rcases hh k with ⟨h1, h2⟩ | ⟨a', v', h1, h2, -⟩
    · rw [hk] at h2; cases h2
    · exact List.mem_map.2 ⟨_, getL_mem h1, rfl⟩
  have hmem : ∀ x, x ∈ l'.map (·.a) ↔ x ∈ reqL s := fun x => by
    rw [hl'.mem_iff, hl, mem_askOf, mem_reqL ok]
    constructor
    · rintro ⟨p, hp', h1, h2⟩
      have := (validA_of (ok.key _ _ h1).2.2.2 h2).1
      exact ⟨h2, by rw [this]; exact h1⟩
    · rintro ⟨h1, h2⟩
      obtain ⟨p, hp1, hp2⟩ := List.mem_map.1 (hkeys _ _ h2)
      exact ⟨p, hp.mem_iff.2 hp1, by rw [hp2]; exact h2, h1⟩
  have hnd2 : (done.map (·.1)).Nodup := (hp.map _).nodup_iff.2 hnd
  have hap : (askOf s.heard done).Pairwise fun a c => a.pri ≠ c.pri := by
    clear hl hp hmem hl' hs hkeys hnd hh
    induction done with
    | nil => exact .nil
    | cons p d ih =>
      rw [List.map_cons, List.nodup_cons] at hnd2
      have ih := ih hnd2.2
      cases hf : (s.heard p.1).filter hasN with
      | none =>
        have : askOf s.heard (p :: d) = askOf s.heard d := by unfold askOf; rw [List.filterMap_cons, hf]
        rw [this]
        exact ih
      | some x =>
        have : askOf s.heard (p :: d) = x :: askOf s.heard d := by unfold askOf; rw [List.filterMap_cons, hf]
        rw [this]
        refine List.pairwise_cons.2 ⟨fun y hy e => ?_, ih⟩
        rw [Option.filter_eq_some_iff] at hf
        obtain ⟨q, hq, h1, h2⟩ := (mem_askOf _ _ _).1 hy
        have e1 := (validA_of (ok.key _ _ hf.1).2.2.2 hf.2).1
        have e2 := (validA_of (ok.key _ _ h1).2.2.2 h2).1
        rw [e, e2] at e1
        exact hnd2.1 (by rw [← e1]; exact List.mem_map.2 ⟨q, hq, rfl⟩)
  have hap2 : (l'.map (·.a)).Pairwise fun a c => a.pri ≠ c.pri := by
    rw [← hl] at hap
    exact (hl'.pairwise_iff (fun {_ _} h => Ne.symm h)).2 hap
  have hsort : SortA (l'.map (·.a)) := by
    unfold SortA
    have h2 : (l'.map (·.a)).Pairwise fun a c => lessB c.pri a.pri = false := by rw [List.pairwise_map]; exact hs
    refine (hap2.and h2).imp ?_
    intro a c hab
    cases h3 : lessB a.pri c.pri with
    | true => rfl
    | false => exact absurd (lessB_total h3 hab.2) hab.1
  exact sort_ext hsort (reqL_sort ok) hmem
end Go.Proofs.Ytbcekihjcgnhkaa
