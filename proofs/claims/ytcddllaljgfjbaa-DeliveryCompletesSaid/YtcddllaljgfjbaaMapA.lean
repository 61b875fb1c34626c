
/-
Maps as lists of entries: what a look-up, a store and a range over a map do. Nothing here speaks of the program.
-/
import Derived.Test.YtcddllaljgfjbaaGM
import Derived.Maps.RangeRun
namespace Go.Proofs.Ytcddllaljgfjbaa
set_option linter.unusedSimpArgs false
set_option linter.unusedVariables false
open Go.RowKit

/-- another object in a block -/
abbrev putO (w : World) (b : Nat) (o : Obj) : World := { w with heap := w.heap.setIfInBounds b o }
theorem putO_kg (w : World) (b : Nat) (o : Obj) : Kg w (putO w b o) b :=
  ⟨rfl, rfl, rfl, by simp [putO], fun i hi hn => by
    have : b ≠ i := fun e => hn (by rw [e])
    simp [putO, Array.getElem?_setIfInBounds, this]⟩
theorem putO_get (w : World) (b : Nat) (o : Obj) (h : b < w.heap.size) : (putO w b o).heap[b]? = some o := by simp [putO, h]
theorem getMap {w : World} {r clock : Nat} {es : Array MapEntry} (hm : w.heap[r]? = some (.map es clock)) : Sem.run Try.prog (getObj r) w = .ok (.map es clock) w := by simp [getObj, Sem.run, hm]
theorem setMap {w : World} {r clock : Nat} {es : Array MapEntry} (o : Obj) (hm : w.heap[r]? = some (.map es clock)) : Sem.run Try.prog (setObj r o) w = .ok () (putO w r o) := by simp [setObj, Sem.run, hm]

section
set_option linter.unusedSectionVars false
variable {κ : Type} [DecidableEq κ]
/-! lists of entries -/
def findL (x : κ) : List (κ × Value) → Nat → Option (Nat × Value)
  | [], _ => none
  | p :: l, i => if x = p.1 then some (i, p.2) else findL x l (i + 1)
def getL (x : κ) : List (κ × Value) → Option Value
  | [] => none
  | p :: l => if x = p.1 then some p.2 else getL x l
def putL (x : κ) (v : Value) : List (κ × Value) → List (κ × Value)
  | [] => [(x, v)]
  | p :: l => if x = p.1 then (x, v) :: l else p :: putL x v l
theorem findL_get (x : κ) : ∀ (l : List (κ × Value)) (i : Nat), (findL x l i).map (·.2) = getL x l
  | [], _ => rfl
  | p :: l, i => by
    unfold findL getL
    by_cases h : x = p.1
    · rw [if_pos h, if_pos h]; rfl
    · rw [if_neg h, if_neg h]; exact findL_get x l (i + 1)
theorem findL_some {x : κ} : ∀ {l : List (κ × Value)} {n i : Nat} {v0 : Value}, findL x l n = some (i, v0) → ∃ k, i = n + k ∧ ∃ h : k < l.length, l[k] = (x, v0) ∧ ∀ v, putL x v l = l.set k (x, v)
  | [], n, i, v0, h => by simp [findL] at h
  | p :: l, n, i, v0, h => by
    unfold findL at h
    by_cases hp : x = p.1
    · rw [if_pos hp] at h
      injection h with h
      injection h with h1 h2
      exact ⟨0, h1.symm, by simp, by simp [hp, ← h2], fun v => by simp [putL, hp]⟩
    · rw [if_neg hp] at h
      obtain ⟨k, hk, hkl, h1, h2⟩ := findL_some h
      exact ⟨k + 1, by omega, by simp; omega, by simpa using h1, fun v => by simp [putL, hp, h2 v]⟩
theorem findL_none {x : κ} : ∀ {l : List (κ × Value)} {n : Nat}, findL x l n = none → (∀ p ∈ l, p.1 ≠ x) ∧ ∀ v, putL x v l = l ++ [(x, v)]
  | [], n, _ => ⟨by simp, fun v => rfl⟩
  | p :: l, n, h => by
    unfold findL at h
    by_cases hp : x = p.1
    · rw [if_pos hp] at h
      cases h
    · rw [if_neg hp] at h
      obtain ⟨h1, h2⟩ := findL_none h
      refine ⟨fun q hq => ?_, fun v => by simp [putL, hp, h2 v]⟩
      rcases List.mem_cons.1 hq with rfl | hq
      · exact fun e => hp e.symm
      · exact h1 q hq
theorem putL_keys (x : κ) (v : Value) : ∀ l : List (κ × Value), (putL x v l).map (·.1) = if x ∈ l.map (·.1) then l.map (·.1) else l.map (·.1) ++ [x]
  | [] => rfl
  | p :: l => by
    unfold putL
    by_cases h : x = p.1
    · rw [if_pos h, if_pos (by simp [h])]; simp [h]
    · rw [if_neg h, List.map_cons, putL_keys x v l]
      by_cases h2 : x ∈ l.map (·.1)
      · rw [if_pos h2, if_pos (by simp [h2])]; simp
      · rw [if_neg h2, if_neg (by simp [h]; simpa using h2)]; simp
theorem putL_nodup {x : κ} {v : Value} {l : List (κ × Value)} (h : (l.map (·.1)).Nodup) : ((putL x v l).map (·.1)).Nodup := by
  rw [putL_keys]
  split
  · exact h
  · rename_i h2
    rw [List.nodup_append]
    exact ⟨h, by simp, fun a ha b hb e => h2 (by simp at hb; rw [← hb, ← e]; exact ha)⟩
theorem getL_put (x y : κ) (v : Value) : ∀ l : List (κ × Value), getL y (putL x v l) = if y = x then some v else getL y l
  | [] => by unfold putL getL getL; rfl
  | p :: l => by
    unfold putL
    by_cases h : x = p.1
    · rw [if_pos h]
      unfold getL
      by_cases h2 : y = x
      · rw [if_pos h2, if_pos h2]
      · rw [if_neg h2, if_neg h2, if_neg (fun e => h2 (e.trans h.symm))]
    · rw [if_neg h]
      unfold getL
      by_cases h2 : y = p.1
      · have : y ≠ x := fun e => h (e.symm.trans h2)
        rw [if_pos h2, if_pos h2, if_neg this]
      · rw [if_neg h2, if_neg h2, getL_put x y v l]
theorem getL_mem {x : κ} {v : Value} : ∀ {l : List (κ × Value)}, getL x l = some v → (x, v) ∈ l
  | [], h => by simp [getL] at h
  | p :: l, h => by
    unfold getL at h
    by_cases hp : x = p.1
    · rw [if_pos hp] at h
      injection h with h
      rw [hp, ← h]; simp
    · rw [if_neg hp] at h
      exact List.mem_cons_of_mem _ (getL_mem h)
theorem getL_of {x : κ} {v : Value} : ∀ {l : List (κ × Value)}, (l.map (·.1)).Nodup → (x, v) ∈ l → getL x l = some v
  | [], _, h => by simp at h
  | p :: l, hn, h => by
    unfold getL
    rw [List.map_cons, List.nodup_cons] at hn
    rcases List.mem_cons.1 h with rfl | h
    · rw [if_pos rfl]
    · rw [if_neg (fun e => hn.1 (by rw [← e]; exact List.mem_map.2 ⟨_, h, rfl⟩))]
      exact getL_of hn.2 h
theorem getL_none {x : κ} : ∀ {l : List (κ × Value)}, getL x l = none ↔ ∀ p ∈ l, p.1 ≠ x
  | [] => by simp [getL]
  | p :: l => by
    unfold getL
    by_cases hp : x = p.1
    · rw [if_pos hp]; simp [hp]
    · rw [if_neg hp, getL_none]
      simp only [List.mem_cons, forall_eq_or_imp]
      exact ⟨fun h => ⟨fun e => hp e.symm, h⟩, fun h => h.2⟩

/-! the entries of a map -/
variable (encK : κ → Value)
structure MapZ (es : Array MapEntry) (clock : Nat) (zs : List (MapEntry × κ × Value)) : Prop where
  ent : zs.map (·.1) = es.toList
  kv : ∀ z ∈ zs, z.1.key = encK z.2.1 ∧ z.1.val = z.2.2
  old : ∀ z ∈ zs, z.1.born < clock
  nod : (zs.map (·.1.born)).Nodup
  key : (zs.map (·.2.1)).Nodup
/-- a block is a map with these entries -/
def MapL (w : World) (mb : Nat) (l : List (κ × Value)) : Prop := ∃ es clock zs, w.heap[mb]? = some (.map es clock) ∧ MapZ encK es clock zs ∧ zs.map (·.2) = l
/-- a range over a map under way: what is left -/
def Rng (w : World) (mb it : Nat) (l left : List (κ × Value)) : Prop := ∃ es clock zs since seen c0, w.heap[mb]? = some (.map es clock) ∧ MapZ encK es clock zs ∧ zs.map (·.2) = l ∧
  w.heap[it]? = some (.mapIter (some mb) since seen c0) ∧ (∀ z ∈ zs, z.1.born < since) ∧ since ≤ c0 ∧ since ≤ clock ∧ left = (zs.filter fun z => !seen.contains z.1.born).map (·.2)
/-- keys of a type -/
structure KeyT (kt : TypeId) : Prop where
  find : ∀ (x : κ) (w : World) (zs : List (MapEntry × κ × Value)), (∀ z ∈ zs, z.1.key = encK z.2.1 ∧ z.1.val = z.2.2) → Sem.run Try.prog (Instr.findKey kt (encK x) (zs.map (·.1))) w = .ok (findL x (zs.map (·.2)) 0) w
  ck : ∀ e x w, Sem.run Try.prog (Instr.checkKey e 10000 kt (encK x)) w = .ok () w
  bits : ∀ x, Instr.sameBits 10000 (encK x) (encK x) = true
variable {encK} {w w' : World} {mb it : Nat} {l left : List (κ × Value)} {kt mt et : TypeId}
theorem MapL.lt (h : MapL encK w mb l) : mb < w.heap.size := by
  obtain ⟨es, clock, zs, hb, -, -⟩ := h
  exact (Array.getElem?_eq_some_iff.1 hb).1
theorem MapL.keep (h : MapL encK w mb l) (k : w'.heap[mb]? = w.heap[mb]?) : MapL encK w' mb l := by
  obtain ⟨es, clock, zs, hb, h1, h2⟩ := h
  exact ⟨es, clock, zs, k.trans hb, h1, h2⟩
theorem MapL.kp (h : MapL encK w mb l) (k : Kp w w') : MapL encK w' mb l := h.keep (k.block h.lt)
theorem MapL.nodup (h : MapL encK w mb l) : (l.map (·.1)).Nodup := by
  obtain ⟨es, clock, zs, hb, h1, rfl⟩ := h
  simpa [Function.comp_def] using h1.key
theorem MapL.new (w : World) : MapL encK (w.alloc (.map #[] 0)) w.heap.size ([] : List (κ × Value)) := ⟨#[], 0, [], heap_alloc_new w _, ⟨rfl, by simp, by simp, by simp, by simp⟩, rfl⟩
theorem MapL.look (h : MapL encK w mb l) (K : KeyT encK kt) (ht : Try.prog.underlying mt = some (.map kt et)) {z : Value} (hz : Sem.run Try.prog (zeroValue et) w = .ok z w) (x : κ) (ok : Bool) :
    Sem.run Try.prog (Instr.lookup mt (.map (some mb)) (encK x) ok) w = .ok (if ok then .tuple #[(getL x l).getD z, .bool (getL x l).isSome] else (getL x l).getD z) w := by
  obtain ⟨es, clock, zs, hb, h1, rfl⟩ := h
  have hf := K.find x w zs h1.kv
  rw [h1.ent] at hf
  unfold Instr.lookup
  simp only [run_underlying ht, getMap hb, K.ck, hf, hz, Sem.run_bind, Sem.run_pure, Result.andThen_ok]
  rw [← findL_get x (zs.map (·.2)) 0]
  cases hq : findL x (zs.map (·.2)) 0 with
  | none => cases ok <;> simp [hz]
  | some k => cases ok <;> simp
theorem MapL.put (h : MapL encK w mb l) (K : KeyT encK kt) (ht : Try.prog.underlying mt = some (.map kt et)) (x : κ) (v : Value) :
    ∃ w', Sem.run Try.prog (Instr.mapUpdate mt (.map (some mb)) (encK x) v) w = .ok () w' ∧ MapL encK w' mb (putL x v l) ∧ Kg w w' mb ∧ w'.heap.size = w.heap.size := by
  have hmb := h.lt
  have hnd := putL_nodup (x := x) (v := v) h.nodup
  obtain ⟨es, clock, zs, hb, h1, rfl⟩ := h
  have hf := K.find x w zs h1.kv
  rw [h1.ent] at hf
  unfold Instr.mapUpdate
  simp only [run_underlying ht, getMap hb, K.ck, hf, Sem.run_bind, Sem.run_pure, Result.andThen_ok]
  cases hq : findL x (zs.map (·.2)) 0 with
  | none =>
    obtain ⟨-, h3⟩ := findL_none hq
    refine ⟨_, setMap _ hb, ?_, putO_kg _ _ _, by simp [putO]⟩
    rw [h3 v] at hnd
    refine ⟨_, _, zs ++ [(⟨encK x, v, clock⟩, x, v)], putO_get _ _ _ hmb, ⟨by simp [h1.ent], fun z hz => ?_, fun z hz => ?_, ?_, ?_⟩, by rw [h3]; simp⟩
    · rcases List.mem_append.1 hz with hz | hz
      · exact h1.kv z hz
      · simp only [List.mem_singleton] at hz
        subst hz
        exact ⟨rfl, rfl⟩
    · rcases List.mem_append.1 hz with hz | hz
      · exact Nat.lt_succ_of_lt (h1.old z hz)
      · simp only [List.mem_singleton] at hz
        subst hz
        exact Nat.lt_succ_self _
    · rw [List.map_append, List.nodup_append]
      refine ⟨h1.nod, by simp, fun a ha b hb' e => ?_⟩
      obtain ⟨z, hz, rfl⟩ := List.mem_map.1 ha
      simp at hb'
      have := h1.old z hz
      omega
    · simpa [Function.comp_def] using hnd
  | some q =>
    obtain ⟨i, v0⟩ := q
    obtain ⟨k, hk, hkl, h2, h3⟩ := findL_some hq
    rw [Nat.zero_add] at hk
    subst hk
    have hkz : i < zs.length := by simpa using hkl
    have hz2 : zs[i].2 = (x, v0) := by simpa using h2
    have hlen : zs.length = es.size := by have := congrArg List.length h1.ent; simpa using this
    have hie : i < es.size := by omega
    have he : es[i] = zs[i].1 := by
      have h4 : (zs.map (·.1))[i]'(by simpa using hkz) = es.toList[i]'(by simpa using hie) := by simp only [h1.ent]
      simpa using h4.symm
    have hek : es[i].key = encK x := by rw [he, (h1.kv _ (List.getElem_mem hkz)).1, hz2]
    have hks : ((es[i]?).map (·.key)).getD (encK x) = encK x := by rw [Array.getElem?_eq_getElem hie]; exact hek
    refine ⟨putO w mb (.map (es.modify i fun e => { e with key := encK x, val := v }) clock), ?_, ?_, putO_kg _ _ _, by simp [putO]⟩
    · dsimp only
      rw [hks]
      simp only [Instr.keyThatStays, K.bits, if_true, Sem.run_bind, Sem.run_pure, Result.andThen_ok]
      exact setMap _ hb
    · rw [h3 v] at hnd
      refine ⟨_, _, zs.set i (⟨encK x, v, zs[i].1.born⟩, x, v), putO_get _ _ _ hmb, ⟨?_, fun z hz => ?_, fun z hz => ?_, ?_, ?_⟩, by rw [h3]; simp [List.map_set]⟩
      · rw [List.map_set, h1.ent]
        refine List.ext_getElem? fun j => ?_
        simp only [List.getElem?_set, Array.getElem?_toList, Array.getElem?_modify]
        by_cases hj : i = j
        · subst hj
          rw [if_pos rfl, if_pos rfl, if_pos (by simpa using hie), Array.getElem?_eq_getElem hie, Option.map_some, he]
        · rw [if_neg hj, if_neg hj]
      · rcases List.mem_or_eq_of_mem_set hz with hz | rfl
        · exact h1.kv z hz
        · exact ⟨rfl, rfl⟩
      · rcases List.mem_or_eq_of_mem_set hz with hz | rfl
        · exact h1.old z hz
        · exact (show zs[i].1.born < clock from h1.old _ (List.getElem_mem hkz))
      · have e1 : (zs.set i (⟨encK x, v, zs[i].1.born⟩, x, v)).map (·.1.born) = zs.map (·.1.born) := by
          rw [List.map_set]
          dsimp only
          refine List.ext_getElem? fun j => ?_
          rw [List.getElem?_set]
          by_cases hj : i = j
          · subst hj
            simp [hkz]
          · rw [if_neg hj]
        rw [e1]
        exact h1.nod
      · simpa [List.map_set, Function.comp_def] using hnd
theorem MapL.entry (h : MapL encK w mb l) (K : KeyT encK kt) (ht : Try.prog.underlying mt = some (.map kt et)) (x : κ) {v0 : Value} (hx : getL x l = some v0) :
    ∃ n : Nat, Sem.run Try.prog (Instr.mapEntry mt (.map (some mb)) (encK x)) w = .ok (.tuple #[v0, .int .i64 (n : Int)]) w ∧
      ∀ v, ∃ w', Sem.run Try.prog (Instr.entryStore mt (.map (some mb)) (.int .i64 (n : Int)) v) w = .ok () w' ∧ MapL encK w' mb (putL x v l) ∧ Kg w w' mb ∧ w'.heap.size = w.heap.size := by
  have hmb := h.lt
  have hnd := fun v => putL_nodup (x := x) (v := v) h.nodup
  obtain ⟨es, clock, zs, hb, h1, rfl⟩ := h
  have hf := K.find x w zs h1.kv
  rw [h1.ent] at hf
  have hq := findL_get x (zs.map (·.2)) 0
  rw [hx] at hq
  cases hq2 : findL x (zs.map (·.2)) 0 with
  | none => rw [hq2] at hq; cases hq
  | some q =>
    rw [hq2] at hq hf
    obtain ⟨i, v1⟩ := q
    simp only [Option.map_some, Option.some.injEq] at hq
    subst hq
    obtain ⟨k, hk, hkl, h2, h3⟩ := findL_some hq2
    rw [Nat.zero_add] at hk
    subst hk
    have hkz : i < zs.length := by simpa using hkl
    have hz2 : zs[i].2 = (x, v1) := by simpa using h2
    have hlen : zs.length = es.size := by have := congrArg List.length h1.ent; simpa using this
    have hie : i < es.size := by omega
    have he : es[i] = zs[i].1 := by
      have h4 : (zs.map (·.1))[i]'(by simpa using hkz) = es.toList[i]'(by simpa using hie) := by simp only [h1.ent]
      simpa using h4.symm
    have hek : es[i].key = encK x := by rw [he, (h1.kv _ (List.getElem_mem hkz)).1, hz2]
    have hks : ((es[i]?).map (·.key)).getD (encK x) = encK x := by rw [Array.getElem?_eq_getElem hie]; exact hek
    have hsame : (es.modify i fun e => { e with key := encK x }) = es := by
      apply Array.ext
      · simp
      · intro j h5 h6
        rw [Array.getElem_modify]
        split
        · rename_i hij
          subst hij
          generalize es[i] = e0 at *
          obtain ⟨k0, v0, b0⟩ := e0
          dsimp only at hek
          subst hek
          rfl
        · rfl
    have hput : putO w mb (.map es clock) = w := by
      unfold putO
      have : w.heap.setIfInBounds mb (.map es clock) = w.heap := by
        apply Array.ext_getElem?
        intro j
        rw [Array.getElem?_setIfInBounds]
        split
        · rename_i hij
          subst hij
          simp [hb]
        · rfl
      rw [this]
    refine ⟨es[i].born, ?_, fun v => ?_⟩
    · unfold Instr.mapEntry
      simp only [run_underlying ht, getMap hb, K.ck, hf, Sem.run_bind, Sem.run_pure, Result.andThen_ok]
      rw [hks]
      simp only [Instr.keyThatStays, K.bits, if_true, Sem.run_bind, Sem.run_pure, Result.andThen_ok, hsame, setMap _ hb, hput]
      rw [Array.getElem?_eq_getElem hie]
      rfl
    · have hfi : es.findIdx? (fun e => (e.born : Int) == (es[i].born : Int)) = some i := by
        rw [Array.findIdx?_eq_some_iff_getElem]
        refine ⟨hie, by simp, fun j hj => ?_⟩
        have hjz : j < zs.length := by omega
        have hej : es[j] = zs[j].1 := by
          have h4 : (zs.map (·.1))[j]'(by simpa using hjz) = es.toList[j]'(by simp; omega) := by simp only [h1.ent]
          simpa using h4.symm
        have hne := (List.pairwise_iff_getElem.1 h1.nod) j i (by simpa using hjz) (by simpa using hkz) hj
        simp only [List.getElem_map] at hne
        rw [hej, he]
        simp only [beq_iff_eq]
        intro e
        exact hne (by omega)
      refine ⟨putO w mb (.map (es.modify i fun e => { e with val := v }) clock), ?_, ?_, putO_kg _ _ _, by simp [putO]⟩
      · unfold Instr.entryStore
        simp only [getMap hb, Sem.run_bind, Sem.run_pure, Result.andThen_ok, asInt, asIntOf, hfi]
        exact setMap _ hb
      · have hnd := hnd v
        rw [h3 v] at hnd
        refine ⟨_, _, zs.set i (⟨zs[i].1.key, v, zs[i].1.born⟩, x, v), putO_get _ _ _ hmb, ⟨?_, fun z hz => ?_, fun z hz => ?_, ?_, ?_⟩, by rw [h3]; simp [List.map_set]⟩
        · rw [List.map_set, h1.ent]
          refine List.ext_getElem? fun j => ?_
          simp only [List.getElem?_set, Array.getElem?_toList, Array.getElem?_modify]
          by_cases hj : i = j
          · subst hj
            rw [if_pos rfl, if_pos rfl, if_pos (by simpa using hie), Array.getElem?_eq_getElem hie, Option.map_some, he]
          · rw [if_neg hj, if_neg hj]
        · rcases List.mem_or_eq_of_mem_set hz with hz | rfl
          · exact h1.kv z hz
          · exact ⟨by dsimp only; rw [(h1.kv _ (List.getElem_mem hkz)).1, hz2], rfl⟩
        · rcases List.mem_or_eq_of_mem_set hz with hz | rfl
          · exact h1.old z hz
          · exact (show zs[i].1.born < clock from h1.old _ (List.getElem_mem hkz))
        · have e1 : (zs.set i (⟨zs[i].1.key, v, zs[i].1.born⟩, x, v)).map (·.1.born) = zs.map (·.1.born) := by
            rw [List.map_set]
            dsimp only
            refine List.ext_getElem? fun j => ?_
            rw [List.getElem?_set]
            by_cases hj : i = j
            · subst hj
              simp [hkz]
            · rw [if_neg hj]
          rw [e1]
          exact h1.nod
        · simpa [List.map_set, Function.comp_def] using hnd
theorem Rng.map (h : Rng encK w mb it l left) : MapL encK w mb l := by
  obtain ⟨es, clock, zs, since, seen, c0, h1, h2, h3, -⟩ := h
  exact ⟨es, clock, zs, h1, h2, h3⟩
theorem Rng.lt (h : Rng encK w mb it l left) : it < w.heap.size := by
  obtain ⟨es, clock, zs, since, seen, c0, h1, h2, h3, h4, -⟩ := h
  exact (Array.getElem?_eq_some_iff.1 h4).1
theorem Rng.ne (h : Rng encK w mb it l left) : it ≠ mb := by
  obtain ⟨es, clock, zs, since, seen, c0, h1, h2, h3, h4, -⟩ := h
  rintro rfl
  rw [h1] at h4
  cases h4
theorem Rng.keep (h : Rng encK w mb it l left) (k1 : w'.heap[mb]? = w.heap[mb]?) (k2 : w'.heap[it]? = w.heap[it]?) : Rng encK w' mb it l left := by
  obtain ⟨es, clock, zs, since, seen, c0, h1, h2, h3, h4, h5⟩ := h
  exact ⟨es, clock, zs, since, seen, c0, k1.trans h1, h2, h3, k2.trans h4, h5⟩
theorem MapL.range (h : MapL encK w mb l) (ht : Try.prog.underlying mt = some (.map kt et)) :
    ∃ o, Sem.run Try.prog (Instr.range mt (.map (some mb))) w = .ok (.pointer (some ⟨w.heap.size, 0, none⟩)) (w.alloc o) ∧ Rng encK (w.alloc o) mb w.heap.size l l := by
  have hmb := h.lt
  obtain ⟨es, clock, zs, hb, h1, rfl⟩ := h
  refine ⟨.mapIter (some mb) clock #[] clock, run_range_map w mt kt et mb es clock ht hb, es, clock, zs, clock, #[], clock, (heap_alloc_old _ _ hmb).trans hb, h1, rfl, heap_alloc_new w _, h1.old, Nat.le_refl _, Nat.le_refl _, ?_⟩
  have : (zs.filter fun z => !(#[] : Array Nat).contains z.1.born) = zs := List.filter_eq_self.2 fun z _ => by simp
  rw [this]
theorem perm_filter_ne {α : Type} (f : α → Nat) : ∀ (L : List α) (e : α), e ∈ L → (L.map f).Nodup → L.Perm (e :: L.filter fun z => !(f z == f e))
  | [], e, h, _ => by simp at h
  | a :: L, e, h, hn => by
    rw [List.map_cons, List.nodup_cons] at hn
    rcases List.mem_cons.1 h with rfl | h
    · have e1 : (e :: L).filter (fun z => !(f z == f e)) = L := by
        rw [List.filter_cons_of_neg (by simp)]
        refine List.filter_eq_self.2 fun z hz => ?_
        have : f z ≠ f e := fun e2 => hn.1 (by rw [← e2]; exact List.mem_map.2 ⟨z, hz, rfl⟩)
        simpa using this
      rw [e1]
    · have hne : f a ≠ f e := fun e2 => hn.1 (by rw [e2]; exact List.mem_map.2 ⟨e, h, rfl⟩)
      rw [List.filter_cons_of_pos (by simpa using hne)]
      exact ((perm_filter_ne f L e h hn.2).cons a).trans (List.Perm.swap e a _)
theorem Rng.next (h : Rng encK w mb it l left) (ty : TypeId) :
    (left = [] ∧ Sem.run Try.prog (Instr.next (.pointer (some ⟨it, 0, none⟩)) false ty) w = .ok (.tuple #[.bool false]) w) ∨
    ∃ k v left' w', left.Perm ((k, v) :: left') ∧ (k, v) ∈ l ∧ Sem.run Try.prog (Instr.next (.pointer (some ⟨it, 0, none⟩)) false ty) w = .ok (.tuple #[.bool true, encK k, v]) w' ∧ Rng encK w' mb it l left' ∧ Kg w w' it ∧ w'.heap.size = w.heap.size ∧
      Sem.run Try.prog (Instr.entry (.pointer (some ⟨it, 0, none⟩))) w' = .ok (.tuple #[encK k, v]) w' := by
  have hne := h.ne
  have hit := h.lt
  obtain ⟨es, clock, zs, since, seen, c0, hb, h1, rfl, hr, hold, hsc, hcl, rfl⟩ := h
  have hold' : ∀ x ∈ es.toList, x.born < since := fun x hx => by
    rw [← h1.ent] at hx
    obtain ⟨z, hz, rfl⟩ := List.mem_map.1 hx
    exact hold z hz
  have hleft : (leftOf es seen).toList = (zs.filter fun z => !seen.contains z.1.born).map (·.1) := by
    unfold leftOf
    rw [Array.toList_filter, ← h1.ent, List.filter_map]
    rfl
  have hnb : (es.toList.map (·.born)).Nodup := by
    rw [← h1.ent]
    simpa [Function.comp_def] using h1.nod
  rcases run_next_at (P := Try.prog) w ty it mb since c0 seen es clock hr hb hold' hsc with ⟨h0, hrun⟩ | ⟨e, he, w1, hal, hrun⟩
  · refine .inl ⟨?_, hrun⟩
    have h2 := congrArg List.length hleft
    rw [Array.length_toList, h0, List.length_map] at h2
    rw [List.eq_nil_of_length_eq_zero h2.symm]
    rfl
  · rw [hleft] at he
    obtain ⟨z, hz, rfl⟩ := List.mem_map.1 he
    have hzz := (List.mem_filter.1 hz).1
    obtain ⟨hk, hv⟩ := h1.kv z hzz
    rw [hk, hv] at hrun
    have hw1 : w1.heap = w.heap ∧ w1.os = w.os ∧ w1.output = w.output ∧ w1.tape = w.tape := by rcases hal with rfl | rfl <;> exact ⟨rfl, rfl, rfl, rfl⟩
    have hset : (Go.ChangeMaps.setBlock w1 it (.mapIter (some mb) since (seen.push z.1.born) clock)).heap = w.heap.setIfInBounds it (.mapIter (some mb) since (seen.push z.1.born) clock) := by
      unfold Go.ChangeMaps.setBlock
      simp [hw1.1, Array.setIfInBounds, hit, Array.set!]
    have hb2 : (Go.ChangeMaps.setBlock w1 it (.mapIter (some mb) since (seen.push z.1.born) clock)).heap[mb]? = some (.map es clock) := by
      rw [hset, Array.getElem?_setIfInBounds, if_neg hne]; exact hb
    have hr2 : (Go.ChangeMaps.setBlock w1 it (.mapIter (some mb) since (seen.push z.1.born) clock)).heap[it]? = some (.mapIter (some mb) since (seen.push z.1.born) clock) := by
      rw [hset]; simp [hit]
    refine .inr ⟨z.2.1, z.2.2, ((zs.filter fun z => !seen.contains z.1.born).filter fun y => !(y.1.born == z.1.born)).map (·.2), _, ?_, List.mem_map.2 ⟨z, hzz, rfl⟩, hrun, ?_, ?_, ?_, ?_⟩
    · have hp := perm_filter_ne (fun y : MapEntry × κ × Value => y.1.born) _ z hz (List.Nodup.sublist (List.Sublist.map _ List.filter_sublist) h1.nod)
      simpa using hp.map (·.2)
    · refine ⟨es, clock, zs, since, seen.push z.1.born, clock, hb2, h1, rfl, hr2, hold, hcl, hcl, ?_⟩
      rw [List.filter_filter]
      congr 1
      refine List.filter_congr fun y _ => ?_
      rw [contains_push]
      cases seen.contains y.1.born <;> cases (y.1.born == z.1.born) <;> rfl
    · refine ⟨?_, ?_, ?_, by rw [hset]; simp, fun i hi hn => ?_⟩
      · exact hw1.2.1
      · exact hw1.2.2.2
      · exact hw1.2.2.1
      · rw [hset, Array.getElem?_setIfInBounds, if_neg (fun e => hn (by rw [e]))]
    · rw [hset]; simp
    · have := run_entry_at (P := Try.prog) _ it mb since seen es clock z.1 hr2 hb2 (by rw [← h1.ent]; exact List.mem_map.2 ⟨z, hzz, rfl⟩) hnb
      rw [hk, hv] at this
      exact this
end
end Go.Proofs.Ytcddllaljgfjbaa
