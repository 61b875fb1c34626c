
/-
Search: what a run keeps: boxes stay fine and become smaller; a closed end has a step; an open end is fixed: plain.
-/
import Derived.Test.YtlbhidiliogflaaGreatSfB
import Derived.Test.YtlbhidiliogflaaGreatSeN
namespace Go.Proofs.YtlbhidiliogflaaGreat
set_option linter.unusedSimpArgs false
set_option linter.unusedVariables false
open Go.RowKit

/-- what is asked is about cells of the box -/
def TskOk (n : Nat) : Tsk → Prop
  | .dead _ => True
  | .row _ r c => fitsB n r = true ∧ ∃ j : Nat, c = (j : Int) ∧ j < n
  | .gr _ g k => ∃ f : Nat, g.first = (f : Int) ∧ f + k < n
theorem rowsT_mem {t : Tsk} : ∀ (rows : List Row) (i : Nat), t ∈ rowsT i rows → ∃ j, ∃ h : j < rows.length, t ∈ rowT (i + j) rows[j]
  | [], _, h => absurd h (by simp [rowsT])
  | r :: rows, i, h => by
    rw [rowsT, List.mem_append] at h
    rcases h with h | h
    · exact ⟨0, by simp, h⟩
    · obtain ⟨j, hj, h⟩ := rowsT_mem rows (i + 1) h
      exact ⟨j + 1, by simpa using hj, by simpa [Nat.add_assoc, Nat.add_comm 1] using h⟩
theorem grsT_mem {t : Tsk} : ∀ (grs : List Gr) (i : Nat), t ∈ grsT i grs → ∃ j, ∃ h : j < grs.length, t ∈ grT (i + j) grs[j]
  | [], _, h => absurd h (by simp [grsT])
  | g :: grs, i, h => by
    rw [grsT, List.mem_append] at h
    rcases h with h | h
    · exact ⟨0, by simp, h⟩
    · obtain ⟨j, hj, h⟩ := grsT_mem grs (i + 1) h
      exact ⟨j + 1, by simpa using hj, by simpa [Nat.add_assoc, Nat.add_comm 1] using h⟩
theorem rowT_mem {t : Tsk} {i : Nat} {r : Row} (h : t ∈ rowT i r) : (t = .dead i ∧ r.terms = [] ∧ r.bound < 0) ∨ ∃ u ∈ r.terms, t = .row i r u.cell := by
  unfold rowT at h
  rw [List.mem_append] at h
  rcases h with h | h
  · split at h
    · rename_i hc
      rw [Bool.and_eq_true, List.isEmpty_iff, decide_eq_true_eq] at hc
      exact .inl ⟨by simpa using h, hc⟩
    · simp at h
  · rw [List.mem_map] at h
    obtain ⟨u, hu, rfl⟩ := h
    exact .inr ⟨u, hu, rfl⟩
theorem grT_mem {t : Tsk} {i : Nat} {g : Gr} (h : t ∈ grT i g) : ∃ k, k < g.least.length ∧ t = .gr i g k := by
  unfold grT at h
  rw [List.mem_map] at h
  obtain ⟨k, hk, rfl⟩ := h
  exact ⟨k, by simpa using hk, rfl⟩
theorem grOk_parts {n : Nat} {g : Gr} (h : grOk n g = true) : ∃ f m : Nat, g.first = (f : Int) ∧ g.size = (m : Int) ∧ 1 ≤ m ∧ m ≤ 6 ∧ g.least.length = m * m ∧ f + m * m ≤ n ∧ ∀ x ∈ g.least, farI x = false := by
  unfold grOk at h
  rw [Bool.and_eq_true, decide_eq_true_eq, Bool.not_eq_true'] at h
  obtain ⟨⟨h1, h2, h3, h4, h5⟩, h6⟩ := h
  obtain ⟨f, hf⟩ := Int.eq_ofNat_of_zero_le h3
  obtain ⟨m, hm⟩ := Int.eq_ofNat_of_zero_le (show 0 ≤ g.size by omega)
  have hmm : (m : Int) * (m : Int) = ((m * m : Nat) : Int) := by push_cast; rfl
  rw [hm, hmm] at h5 h4
  refine ⟨f, m, hf, hm, by omega, by omega, by omega, by omega, fun x hx => ?_⟩
  have := List.any_eq_false.1 h6 x hx
  simpa using this
theorem tasks_ok {n : Nat} {rows : List Row} {grs : List Gr} (hr : ∀ r ∈ rows, fitsB n r = true) (hg : ∀ g ∈ grs, grOk n g = true) : ∀ t ∈ tasks rows grs, TskOk n t := by
  intro t ht
  unfold tasks at ht
  rw [List.mem_append] at ht
  rcases ht with ht | ht
  · obtain ⟨j, hj, ht⟩ := rowsT_mem rows 0 ht
    have h1 := hr _ (List.getElem_mem hj)
    rcases rowT_mem ht with ⟨rfl, -⟩ | ⟨u, hu, rfl⟩
    · exact trivial
    · obtain ⟨⟨h0, h2, -, -⟩, -⟩ := fitsn_all h1 u hu
      obtain ⟨c, hc⟩ := Int.eq_ofNat_of_zero_le h0
      exact ⟨h1, c, hc, by omega⟩
  · obtain ⟨j, hj, ht⟩ := grsT_mem grs 0 ht
    obtain ⟨k, hk, rfl⟩ := grT_mem ht
    obtain ⟨f, m, h1, h2, h3, h4, h5, h6, -⟩ := grOk_parts (hg _ (List.getElem_mem hj))
    exact ⟨f, h1, by omega⟩
/-- the range that a task gives its cell -/
def tskR (box : List Rng) : Tsk → Nat × Rng
  | .dead _ => (0, ⟨0, -1⟩)
  | .row _ r c => (c.toNat, tightenB r box c)
  | .gr _ g k => ((g.first + (k : Int)).toNat, cutG g box k)
theorem tight_sub' {n : Nat} {box : List Rng} (hf : fineBox n box) (hn : n ≤ 128) {t : Tsk} (ht : TskOk n t) (he : emptyR (tskR box t).2 = false) : (tskR box t).1 < n ∧ (pick box (tskR box t).1).lo ≤ (tskR box t).2.lo ∧ (tskR box t).2.lo ≤ (tskR box t).2.hi ∧ (tskR box t).2.hi ≤ (pick box (tskR box t).1).hi := by
  cases t with
  | dead i => simp [tskR, emptyR] at he
  | row i r c =>
    obtain ⟨h1, j, rfl, hj⟩ := ht
    simp only [tskR, Int.toNat_natCast] at he ⊢
    rw [tighten_eq hf hn h1 j hj] at he ⊢
    exact ⟨hj, tight_sub r box j he⟩
  | gr i g k =>
    obtain ⟨f, h1, hj⟩ := ht
    have e : g.first + (k : Int) = ((f + k : Nat) : Int) := by rw [h1]; push_cast; rfl
    obtain ⟨h3, h2⟩ := cut_sub g box k
    rw [e] at h3 h2
    simp only [tskR, e, Int.toNat_natCast] at he ⊢
    exact ⟨hj, by omega, by unfold emptyR at he; simpa using he, h2⟩
/-- a task changes nothing -/
def NoOp (box : List Rng) : Tsk → Prop
  | .dead _ => False
  | .row _ r c => sameR (tightenB r box c) (pick box c) = true
  | .gr _ g k => sameR (cutG g box k) (pick box (g.first + (k : Int))) = true
/-- how a task goes: nothing; the budget is used up; it closes; it makes the range of a cell smaller -/
theorem doT_cases {n : Nat} {b : Nat} {x : PX} (ho : x.opn = true) (hfi : x.fine = true) (hf : fineBox n x.box) (hn : n ≤ 128) {t : Tsk} (ht : TskOk n t) :
    (NoOp x.box t ∧ doT b x t = x) ∨ (b ≤ x.steps.length ∧ doT b x t = ⟨x.steps, x.box, false, false⟩) ∨
    (emptyR (tskR x.box t).2 = true ∧ ¬ NoOp x.box t ∧ ∃ s, doT b x t = ⟨x.steps ++ [s], x.box, false, true⟩) ∨
    (emptyR (tskR x.box t).2 = false ∧ ¬ NoOp x.box t ∧ ∃ s, doT b x t = ⟨x.steps ++ [s], x.box.set (tskR x.box t).1 (tskR x.box t).2, true, true⟩) := by
  obtain ⟨ss, box, o, fi⟩ := x
  dsimp only at ho hfi hf ⊢
  subst ho hfi
  cases t with
  | dead i =>
    by_cases hb : b ≤ ss.length
    · exact .inr (.inl ⟨hb, dead_out i hb⟩)
    · exact .inr (.inr (.inl ⟨by simp [tskR, emptyR], fun h => h, _, dead_on i hb⟩))
  | row i r c =>
    obtain ⟨h1, j, rfl, hj⟩ := ht
    rw [doT_row]
    dsimp only
    cases hs : sameR (tightenB r box j) (pick box j) with
    | true => exact .inl ⟨hs, step_same hs⟩
    | false =>
      by_cases hb : b ≤ ss.length
      · exact .inr (.inl ⟨hb, step_out hs hb⟩)
      · cases he : emptyR (tightenB r box j) with
        | true => exact .inr (.inr (.inl ⟨he, (fun h => Bool.noConfusion (hs.symm.trans h)), _, step_end hs hb he⟩))
        | false => exact .inr (.inr (.inr ⟨he, (fun h => Bool.noConfusion (hs.symm.trans h)), _, step_on hs hb he (by omega)⟩))
  | gr i g k =>
    obtain ⟨f, h1, hj⟩ := ht
    rw [doT_gr]
    dsimp only
    cases hs : sameR (cutG g box k) (pick box (g.first + (k : Int))) with
    | true => exact .inl ⟨hs, step_same hs⟩
    | false =>
      by_cases hb : b ≤ ss.length
      · exact .inr (.inl ⟨hb, step_out hs hb⟩)
      · cases he : emptyR (cutG g box k) with
        | true => exact .inr (.inr (.inl ⟨he, (fun h => Bool.noConfusion (hs.symm.trans h)), _, step_end hs hb he⟩))
        | false => exact .inr (.inr (.inr ⟨he, (fun h => Bool.noConfusion (hs.symm.trans h)), _, step_on hs hb he (by omega)⟩))
theorem sub_set {L : List Rng} {j : Nat} {x : Rng} (h1 : (pick L j).lo ≤ x.lo) (h2 : x.hi ≤ (pick L j).hi) : Sub (L.set j x) L := by
  refine ⟨by rw [List.length_set], fun k hk => ?_⟩
  rw [pick_set L j k _ hk]
  by_cases hjk : j = k
  · subst hjk; rw [if_pos rfl]; exact ⟨h1, h2⟩
  · rw [if_neg hjk]; exact ⟨Int.le_refl _, Int.le_refl _⟩
/-- what tasks keep -/
structure Kept (n : Nat) (x y : PX) : Prop where
  fb : fineBox n y.box
  sub : Sub y.box x.box
  shut : x.opn = true → x.fine = true → y.opn = false → y.fine = true → x.steps.length < y.steps.length
  same : y.opn = true → y.steps.length = x.steps.length → y = x
theorem doT_kept {n b : Nat} {x : PX} (hf : fineBox n x.box) (hn : n ≤ 128) (hfi : x.fine = true) {t : Tsk} (ht : TskOk n t) : Kept n x (doT b x t) := by
  cases ho : x.opn with
  | false =>
    rw [doT_shut ho]
    exact ⟨hf, Sub.refl _, (fun h => by rw [ho] at h; cases h), fun _ _ => rfl⟩
  | true =>
    rcases doT_cases (b := b) ho hfi hf hn ht with ⟨-, e⟩ | ⟨-, e⟩ | ⟨he, -, s, e⟩ | ⟨he, -, s, e⟩
    · rw [e]
      exact ⟨hf, Sub.refl _, (fun _ _ h => by rw [ho] at h; cases h), fun _ _ => rfl⟩
    · rw [e]
      exact ⟨hf, Sub.refl _, (fun _ _ _ h => by cases h), fun h => by cases h⟩
    · rw [e]
      exact ⟨hf, Sub.refl _, (fun _ _ _ _ => by simp), fun h => by cases h⟩
    · rw [e]
      obtain ⟨g1, g2, g3, g4⟩ := tight_sub' hf hn ht he
      exact ⟨fineBox_set hf g1 g2 g3 g4, sub_set g2 g4, (fun _ _ h => by cases h), fun _ h => by simp at h⟩
theorem doT_fine {b : Nat} {x : PX} (h : x.fine = true) (t : Tsk) : (doT b x t).fine = true ∨ (doT b x t).opn = false := by
  cases hf : (doT b x t).fine with
  | true => exact .inl rfl
  | false => exact .inr ((doT_len b x t).2 hf h)
theorem runT_kept {n b : Nat} (hn : n ≤ 128) : ∀ (l : List Tsk) (x : PX), (∀ t ∈ l, TskOk n t) → fineBox n x.box → x.fine = true → Kept n x (runT b x l) ∧ ((runT b x l).opn = true → (runT b x l).steps.length = x.steps.length → ∀ t ∈ l, NoOp x.box t)
  | [], x, _, hf, _ => ⟨⟨hf, Sub.refl _, (fun h _ h2 => by rw [show runT b x [] = x from rfl, h] at h2; cases h2), fun _ _ => rfl⟩, fun _ _ t ht => absurd ht (by simp)⟩
  | t :: l, x, hl, hf, hfi => by
    rw [runT_cons]
    have k1 := doT_kept (b := b) hf hn hfi (hl t (by simp))
    rcases doT_fine (b := b) hfi t with h1 | h1
    · obtain ⟨k2, k3⟩ := runT_kept hn l (doT b x t) (fun u hu => hl u (by simp [hu])) k1.fb h1
      have n1 := (doT_len b x t).1
      have n2 := (runT_len b l (doT b x t)).1
      refine ⟨⟨k2.fb, k2.sub.trans k1.sub, fun h2 h3 h4 h5 => ?_, fun h2 h3 => ?_⟩, fun h2 h3 => ?_⟩
      · cases ho : (doT b x t).opn with
        | false => exact Nat.lt_of_lt_of_le (k1.shut h2 h3 ho h1) n2
        | true => exact Nat.lt_of_le_of_lt n1 (k2.shut ho h1 h4 h5)
      · have e2 := k2.same h2 (by omega)
        rw [e2] at h2 h3 ⊢
        exact k1.same h2 h3
      · have e2 := k2.same h2 (by omega)
        have h2' := h2
        rw [e2] at h2 h3
        have e1 := k1.same h2 h3
        intro u hu
        rcases List.mem_cons.1 hu with rfl | hu
        · rw [e1] at h2
          rcases doT_cases (b := b) h2 hfi hf hn (hl u (by simp)) with ⟨h, -⟩ | ⟨-, e⟩ | ⟨-, -, s, e⟩ | ⟨-, -, s, e⟩
          · exact h
          · rw [e] at e1; rw [← e1] at h2; cases h2
          · rw [e] at e1; rw [← e1] at h2; cases h2
          · have := congrArg (fun y : PX => y.steps.length) (e.symm.trans e1)
            simp at this
        · have := k3 h2' (by rw [e2]) u hu
          rw [e1] at this
          exact this
    · rw [runT_shut h1]
      exact ⟨k1, fun h2 => by rw [h1] at h2; cases h2⟩
/-- no task changes the box -/
def Fixed (rows : List Row) (grs : List Gr) (box : List Rng) : Prop := ∀ t ∈ tasks rows grs, NoOp box t
theorem runX_kept {n b : Nat} (hn : n ≤ 128) {rows : List Row} {grs : List Gr} (hok : ∀ t ∈ tasks rows grs, TskOk n t) : ∀ (N : Nat) (x : PX), fineBox n x.box → x.fine = true → x.opn = true → b - x.steps.length < N → x.steps.length ≤ b →
    fineBox n (runX b rows grs N x).box ∧ Sub (runX b rows grs N x).box x.box ∧ ((runX b rows grs N x).opn = false → (runX b rows grs N x).fine = true → x.steps.length < (runX b rows grs N x).steps.length) ∧ ((runX b rows grs N x).opn = true → (runX b rows grs N x).fine = true ∧ Fixed rows grs (runX b rows grs N x).box)
  | 0, x, _, _, _, h, _ => by omega
  | N + 1, x, hf, hfi, ho, hN, hb => by
    obtain ⟨k1, k2⟩ := runT_kept (b := b) hn (tasks rows grs) x hok hf hfi
    have hl := runT_len b (tasks rows grs) x
    by_cases hs : (runT b x (tasks rows grs)).opn = true ∧ (runT b x (tasks rows grs)).steps.length ≠ x.steps.length
    · rw [runX_go rfl hs.1 hs.2]
      have hfi2 : (runT b x (tasks rows grs)).fine = true := by
        cases hF : (runT b x (tasks rows grs)).fine with
        | true => rfl
        | false => have := hl.2 hF hfi; rw [hs.1] at this; cases this
      have hb2 : (runT b x (tasks rows grs)).steps.length ≤ b := by
        rcases runT_alike (Nat.le_refl b) (tasks rows grs) x hfi hb with ⟨-, -, h⟩ | ⟨h, -, -⟩
        · exact h
        · rw [hfi2] at h; cases h
      obtain ⟨h1, h2, h3, h4⟩ := runX_kept hn hok N _ k1.fb hfi2 hs.1 (by omega) hb2
      exact ⟨h1, h2.trans k1.sub, fun a c => Nat.lt_of_le_of_lt hl.1 (h3 a c), h4⟩
    · have hs' : (runT b x (tasks rows grs)).opn = false ∨ (runT b x (tasks rows grs)).steps.length = x.steps.length := by
        cases ho : (runT b x (tasks rows grs)).opn with
        | false => exact .inl rfl
        | true => exact .inr (Classical.not_not.1 fun e => hs ⟨ho, e⟩)
      rw [runX_stop rfl hs']
      refine ⟨k1.fb, k1.sub, fun a c => k1.shut ho hfi a c, fun a => ?_⟩
      have hse : (runT b x (tasks rows grs)).steps.length = x.steps.length := by
        rcases hs' with h | h
        · rw [h] at a; cases a
        · exact h
      have e := k1.same a hse
      have h2 := k2 a hse
      rw [e]
      exact ⟨hfi, h2⟩
theorem runB_kept {n : Nat} (hn : n ≤ 128) (b : Nat) {rows : List Row} {grs : List Gr} (hr : ∀ r ∈ rows, fitsB n r = true) (hg : ∀ g ∈ grs, grOk n g = true) {box : List Rng} (hf : fineBox n box) :
    fineBox n (runB b rows grs box).box ∧ Sub (runB b rows grs box).box box ∧ ((runB b rows grs box).opn = false → (runB b rows grs box).fine = true → 0 < (runB b rows grs box).steps.length) ∧ ((runB b rows grs box).opn = true → (runB b rows grs box).fine = true ∧ Fixed rows grs (runB b rows grs box).box) :=
  runX_kept hn (tasks_ok hr hg) (b + 1) ⟨[], box, true, true⟩ hf rfl rfl (by simp) (Nat.zero_le _)
end Go.Proofs.YtlbhidiliogflaaGreat
