
/-
What a broker gives away: plain; a map's entries that are changed.
-/
import Derived.Test.YtbcekihjcgnhkaaBkL
namespace Go.Proofs.Ytbcekihjcgnhkaa
set_option linter.unusedSimpArgs false
set_option linter.unusedVariables false
set_option linter.unusedSectionVars false
open Go.RowKit

section
variable {κ : Type} [DecidableEq κ] {encK : κ → Value} {w w' : World} {mb it : Nat} {l left : List (κ × Value)} {kt mt et : TypeId}
theorem MapL.entry2 (h : MapL encK w mb l) (K : KeyT encK kt) (ht : Try.prog.underlying mt = some (.map kt et)) (x : κ) {v0 : Value} (hx : getL x l = some v0) :
    ∃ n : Nat, ∀ w2 : World, w2.heap[mb]? = w.heap[mb]? → Sem.run Try.prog (Instr.mapEntry mt (.map (some mb)) (encK x)) w2 = .ok (.tuple #[v0, .int .i64 (n : Int)]) w2 ∧
      ∀ v, ∃ w', Sem.run Try.prog (Instr.entryStore mt (.map (some mb)) (.int .i64 (n : Int)) v) w2 = .ok () w' ∧ MapL encK w' mb (putL x v l) ∧ Kg w2 w' mb ∧ w'.heap.size = w2.heap.size := by
  have hnd := fun v => putL_nodup (x := x) (v := v) h.nodup
  obtain ⟨es, clock, zs, hb, h1, rfl⟩ := h
  have hq := findL_get x (zs.map (·.2)) 0
  rw [hx] at hq
  cases hq2 : findL x (zs.map (·.2)) 0 with
  | none => rw [hq2] at hq; cases hq
  | some q =>
    rw [hq2] at hq
    obtain ⟨i, v1⟩ := q
    simp only [Option.map_some, Option.some.injEq] at hq
    subst hq
    obtain ⟨k, hk, hkl, h2, h3⟩ := findL_some hq2
    rw [Nat.zero_add] at hk
    subst hk
    have hkz : i < zs.length := by simpa using hkl
    have hz2 : zs[i].2 = (x, v1) := by simpa using h2
    have hlen : zs.length = es.size := by have := congrArg List.length h1.ent; simpa using this
    have hie : i < es.size := by omega
    have he : es[i] = zs[i].1 := by
      have h4 : (zs.map (·.1))[i]'(by simpa using hkz) = es.toList[i]'(by simpa using hie) := by simp only [h1.ent]
      simpa using h4.symm
    have hek : es[i].key = encK x := by rw [he, (h1.kv _ (List.getElem_mem hkz)).1, hz2]
    have hks : ((es[i]?).map (·.key)).getD (encK x) = encK x := by rw [Array.getElem?_eq_getElem hie]; exact hek
    have hsame : (es.modify i fun e => { e with key := encK x }) = es := by
      apply Array.ext
      · simp
      · intro j h5 h6
        rw [Array.getElem_modify]
        split
        · rename_i hij
          subst hij
          generalize es[i] = e0 at *
          obtain ⟨k0, v0, b0⟩ := e0
          dsimp only at hek
          subst hek
          rfl
        · rfl
    refine ⟨es[i].born, fun w2 hw2 => ?_⟩
    have hb := hw2.trans hb
    have hmb := (Array.getElem?_eq_some_iff.1 hb).1
    have hf := K.find x w2 zs h1.kv
    rw [h1.ent, hq2] at hf
    have hput : putO w2 mb (.map es clock) = w2 := by
      unfold putO
      have : w2.heap.setIfInBounds mb (.map es clock) = w2.heap := by
        apply Array.ext_getElem?
        intro j
        rw [Array.getElem?_setIfInBounds]
        split
        · rename_i hij
          subst hij
          simp [hb]
        · rfl
      rw [this]
    refine ⟨?_, fun v => ?_⟩
    · unfold Instr.mapEntry
      simp only [run_underlying ht, getMap hb, K.ck, hf, Sem.run_bind, Sem.run_pure, Result.andThen_ok]
      rw [hks]
      simp only [Instr.keyThatStays, K.bits, if_true, Sem.run_bind, Sem.run_pure, Result.andThen_ok, hsame, setMap _ hb, hput]
      rw [Array.getElem?_eq_getElem hie]
      rfl
    · have hfi : es.findIdx? (fun e => (e.born : Int) == (es[i].born : Int)) = some i := by
        rw [Array.findIdx?_eq_some_iff_getElem]
        refine ⟨hie, by simp, fun j hj => ?_⟩
        have hjz : j < zs.length := by omega
        have hej : es[j] = zs[j].1 := by
          have h4 : (zs.map (·.1))[j]'(by simpa using hjz) = es.toList[j]'(by simp; omega) := by simp only [h1.ent]
          simpa using h4.symm
        have hne := (List.pairwise_iff_getElem.1 h1.nod) j i (by simpa using hjz) (by simpa using hkz) hj
        simp only [List.getElem_map] at hne
        rw [hej, he]
        simp only [beq_iff_eq]
        intro e
        exact hne (by omega)
      refine ⟨putO w2 mb (.map (es.modify i fun e => { e with val := v }) clock), ?_, ?_, putO_kg _ _ _, by simp [putO]⟩
      · unfold Instr.entryStore
        simp only [getMap hb, Sem.run_bind, Sem.run_pure, Result.andThen_ok, asInt, asIntOf, hfi]
        exact setMap _ hb
      · have hnd := hnd v
        rw [h3 v] at hnd
        refine ⟨_, _, zs.set i (⟨zs[i].1.key, v, zs[i].1.born⟩, x, v), putO_get _ _ _ hmb, ⟨?_, fun z hz => ?_, fun z hz => ?_, ?_, ?_⟩, by rw [h3]; simp [List.map_set]⟩
        · rw [List.map_set, h1.ent]
          refine List.ext_getElem? fun j => ?_
          simp only [List.getElem?_set, Array.getElem?_toList, Array.getElem?_modify]
          by_cases hj : i = j
          · subst hj
            rw [if_pos rfl, if_pos rfl, if_pos (by simpa using hie), Array.getElem?_eq_getElem hie, Option.map_some, he]
          · rw [if_neg hj, if_neg hj]
        · rcases List.mem_or_eq_of_mem_set hz with hz | rfl
          · exact h1.kv z hz
          · exact ⟨by dsimp only; rw [(h1.kv _ (List.getElem_mem hkz)).1, hz2], rfl⟩
        · rcases List.mem_or_eq_of_mem_set hz with hz | rfl
          · exact h1.old z hz
          · exact (show zs[i].1.born < clock from h1.old _ (List.getElem_mem hkz))
        · have e1 : (zs.set i (⟨zs[i].1.key, v, zs[i].1.born⟩, x, v)).map (·.1.born) = zs.map (·.1.born) := by
            rw [List.map_set]
            dsimp only
            refine List.ext_getElem? fun j => ?_
            rw [List.getElem?_set]
            by_cases hj : i = j
            · subst hj
              simp [hkz]
            · rw [if_neg hj]
          rw [e1]
          exact h1.nod
        · simpa [List.map_set, Function.comp_def] using hnd
end
theorem MapF.entry {w : World} {mb : Nat} {z : Value} {f : Rt → Value} {mt et : TypeId} (h : MapF w mb z f) (ht : Try.prog.underlying mt = some (.map 39 et)) (x : Rt) (hx : f x ≠ z) :
    ∃ n : Nat, ∀ w2 : World, w2.heap[mb]? = w.heap[mb]? → Sem.run Try.prog (Instr.mapEntry mt (.map (some mb)) (rtV x)) w2 = .ok (.tuple #[f x, .int .i64 (n : Int)]) w2 ∧
      ∀ v, ∃ w', Sem.run Try.prog (Instr.entryStore mt (.map (some mb)) (.int .i64 (n : Int)) v) w2 = .ok () w' ∧ MapF w' mb z (fun y => if y = x then v else f y) ∧ Kg w2 w' mb ∧ w'.heap.size = w2.heap.size := by
  obtain ⟨L, h1, h2⟩ := h
  have hg : getL x L = some (f x) := by
    have h3 := h2 x
    cases hq : getL x L with
    | none => rw [hq] at h3; exact absurd h3.symm hx
    | some v => rw [hq] at h3; exact congrArg some h3
  obtain ⟨n, h3⟩ := h1.entry2 keyRt ht x hg
  refine ⟨n, fun w2 hw => ⟨(h3 w2 hw).1, fun v => ?_⟩⟩
  obtain ⟨w', h4, h5, h6, h7⟩ := (h3 w2 hw).2 v
  refine ⟨w', h4, ⟨_, h5, fun y => ?_⟩, h6, h7⟩
  rw [getL_put]
  by_cases hy : y = x
  · simp [hy]
  · simp [hy, h2]
/-- a store into an entry, at the operation -/
theorem wpl_entrystore {ops : Array Oper} {rest : List Oper} {o : Oper} {a : Act} {Q : Exit → Act → World → Prop} {w w' : World} (hgd : o.guard = none) (t : TypeId) (m k v : Operand) (ho : o.op = Op.entryStore t m k v)
    {vm vk vv : Value} (hm : a.eval m = vm) (hk : a.eval k = vk) (hv : a.eval v = vv) (hrun : Sem.run Try.prog (Instr.entryStore t vm vk vv) w = .ok () w') (h : wpList Try.prog ops Q rest (a.put o.dst undef) w') : wpList Try.prog ops Q (o :: rest) a w := by
  refine wpList_plain hgd fun K hK => ?_
  unfold Oper.wp
  simp [execOp, ho, hm, hk, hv, hrun, Result.andThen]
  exact hK _ _ h
/-! plain -/
theorem amt_cons (z : Nd) (l : List Nd) (y : Rt) : amt (z :: l) y = if z.1 = y then z.2 else amt l y := rfl
theorem amt_rev (l : List Nd) (h : (l.map (·.1)).Nodup) (y : Rt) : amt l.reverse y = amt l y := by
  have key : ∀ (l m : List Nd) (y : Rt), amt (l ++ m) y = if y ∈ l.map (·.1) then amt l y else amt m y := by
    intro l
    induction l with
    | nil => intro m y; simp
    | cons x l ih =>
      intro m y
      rw [List.cons_append, amt_cons, amt_cons]
      by_cases hx : x.1 = y
      · simp [hx]
      · rw [if_neg hx, if_neg hx, ih]
        have : y ≠ x.1 := fun e => hx e.symm
        by_cases h2 : y ∈ l.map (·.1)
        · rw [if_pos h2, if_pos (by simp only [List.map_cons, List.mem_cons]; exact .inr h2)]
        · rw [if_neg h2, if_neg (by simp only [List.map_cons, List.mem_cons, not_or]; exact ⟨this, h2⟩)]
  induction l with
  | nil => rfl
  | cons x l ih =>
    rw [List.map_cons, List.nodup_cons] at h
    rw [List.reverse_cons, key, ih h.2, amt_cons, amt_cons]
    by_cases hx : x.1 = y
    · subst hx
      rw [if_neg (by simpa using h.1), if_pos rfl, if_pos rfl]
    · rw [if_neg hx, if_neg hx]
      by_cases hy : y ∈ l.reverse.map (·.1)
      · rw [if_pos hy]
      · rw [if_neg hy]
        have h0 : ∀ l : List Nd, y ∉ l.map (·.1) → amt l y = 0 := by
          intro l
          induction l with
          | nil => intro _; rfl
          | cons z l ih =>
            intro hz
            simp only [List.map_cons, List.mem_cons, not_or] at hz
            rw [amt_cons, if_neg (fun e => hz.1 e.symm), ih hz.2]
        rw [h0 l (by simpa using hy)]
        rfl
theorem amt_snoc (l : List Nd) (k : Nat) (hk : k < l.length) (y : Rt) : amt (l.take (k + 1)).reverse y = if y = l[k].1 then l[k].2 else amt (l.take k).reverse y := by
  rw [List.take_succ_eq_append_getElem hk, List.reverse_append]
  simp only [List.reverse_cons, List.reverse_nil, List.nil_append, List.cons_append]
  rw [amt_cons]
  by_cases h : l[k].1 = y
  · rw [if_pos h, if_pos h.symm]
  · rw [if_neg h, if_neg (fun e => h e.symm)]
theorem okNd_amt {x : Nd} (h : okNd x = true) : 1 ≤ x.2 ∧ x.2 ≤ 1000000 := by
  unfold okNd btw at h
  simp only [Bool.and_eq_true, decide_eq_true_eq] at h
  exact h.2
theorem amt_bound {l : List Nd} (h : ∀ x ∈ l, okNd x = true) (y : Rt) : 0 ≤ amt l y ∧ amt l y ≤ 1000000 := by
  induction l with
  | nil => simp [amt]
  | cons x l ih =>
    rw [amt_cons]
    split
    · have := okNd_amt (h x (by simp))
      omega
    · exact ih fun z hz => h z (by simp [hz])
theorem keeps_bound {s : Bk} (h : OkB s) (x : Rt) (p : Pr) : 0 ≤ keeps s.own x p ∧ keeps s.own x p ≤ 1000000 := by
  unfold keeps
  cases ho : s.own with
  | none => simp
  | some q =>
    obtain ⟨q, l⟩ := q
    dsimp only
    split
    · exact amt_bound ((validL_iff l).1 (h.own q l ho).2).1 x
    · simp
theorem give1_le {kp : Rt → Int} {tg : Int} {f : Rt → Int} {x : Nd} {l : List Nd} (h : min (f x.1 - kp x.1) x.2 ≤ 0) : give1 kp tg f (x :: l) = ((give1 kp tg f l).1, x :: (give1 kp tg f l).2.1, (give1 kp tg f l).2.2) := by
  conv => lhs; unfold give1
  dsimp only
  rw [if_pos h]
theorem give1_gt {kp : Rt → Int} {tg : Int} {f : Rt → Int} {x : Nd} {l : List Nd} {m : Int} (hm : min (f x.1 - kp x.1) x.2 = m) (h : ¬ m ≤ 0) :
    give1 kp tg f (x :: l) = ((give1 kp tg (setF f x.1 (f x.1 - m)) l).1, (x.1, x.2 - m) :: (give1 kp tg (setF f x.1 (f x.1 - m)) l).2.1, (tg, x.1, m) :: (give1 kp tg (setF f x.1 (f x.1 - m)) l).2.2) := by
  conv => lhs; unfold give1
  dsimp only
  rw [hm, if_neg h]
/-- the needs that are left: as many, with the same rights, and smaller amounts -/
theorem give1_needs (kp : Rt → Int) (tg : Int) : ∀ (l : List Nd) (f : Rt → Int), ((give1 kp tg f l).2.1.map (·.1)) = l.map (·.1) ∧ ((∀ x ∈ l, okNd x = true) → ∀ x ∈ (give1 kp tg f l).2.1, x.2 ≠ 0 → okNd x = true)
  | [], f => ⟨rfl, fun _ => by simp [give1]⟩
  | x :: l, f => by
    by_cases h : min (f x.1 - kp x.1) x.2 ≤ 0
    · rw [give1_le h]
      obtain ⟨h1, h2⟩ := give1_needs kp tg l f
      refine ⟨by simp [h1], fun hk y hy hz => ?_⟩
      rcases List.mem_cons.1 hy with rfl | hy
      · exact hk y (by simp)
      · exact h2 (fun z hz => hk z (by simp [hz])) y hy hz
    · rw [give1_gt rfl h]
      obtain ⟨h1, h2⟩ := give1_needs kp tg l (setF f x.1 (f x.1 - min (f x.1 - kp x.1) x.2))
      refine ⟨by simp [h1], fun hk y hy hz => ?_⟩
      rcases List.mem_cons.1 hy with rfl | hy
      · have hx := hk x (by simp)
        have hx2 := okNd_amt hx
        unfold okNd btw at hx ⊢
        simp only [Bool.and_eq_true, decide_eq_true_eq] at hx hz ⊢
        refine ⟨hx.1, ?_⟩
        omega
      · exact h2 (fun z hz => hk z (by simp [hz])) y hy hz
theorem noZ_valid {kp : Rt → Int} {tg : Int} {l : List Nd} {f : Rt → Int} (h : validL l = true) : validL (noZ (give1 kp tg f l).2.1) = true := by
  rw [validL_iff] at h ⊢
  obtain ⟨h1, h2, h3⟩ := h
  obtain ⟨g1, g2⟩ := give1_needs kp tg l f
  refine ⟨fun x hx => ?_, ?_, ?_⟩
  · unfold noZ at hx
    simp only [List.mem_filter, Bool.not_eq_true', beq_eq_false_iff_ne] at hx
    exact g2 h1 x hx.1 hx.2
  · rw [← g1] at h2
    exact h2.sublist (List.Sublist.map _ List.filter_sublist)
  · have h4 := congrArg List.length g1
    rw [List.length_map, List.length_map] at h4
    have h5 : (noZ (give1 kp tg f l).2.1).length ≤ (give1 kp tg f l).2.1.length := List.length_filter_le _ _
    omega
theorem okB_give {s : Bk} {H : Int → Option Ak} {a : Ak} {kp : Rt → Int} {tg : Int} {f : Rt → Int} (h : OkB { s with heard := H }) (ok : OkB s) (ha : a ∈ reqL s) : OkB { s with heard := setH H a.pri.2.2.1 { a with needs := noZ (give1 kp tg f a.needs).2.1 } } := by
  obtain ⟨hn, hh⟩ := (mem_reqL ok a).1 ha
  have hk := ok.key _ _ hh
  refine ⟨ok.n1, ok.i1, ok.num, ok.own, fun k c hc => ?_⟩
  dsimp only [setH] at hc ⊢
  by_cases e : k = a.pri.2.2.1
  · rw [if_pos e] at hc
    injection hc with hc
    subst e hc
    refine ⟨hk.1, hk.2.1, hk.2.2.1, ?_⟩
    have hv := hk.2.2.2
    have ho := (validA_of hv hn).2
    unfold validA at hv ⊢
    simp only [Bool.and_eq_true] at hv ⊢
    refine ⟨⟨hv.1.1, noZ_valid hv.1.2⟩, ?_⟩
    rw [ho]
    rfl
  · rw [if_neg e] at hc
    exact h.key k c hc
end Go.Proofs.Ytbcekihjcgnhkaa
