
/-
What slices.Clone and slices.Reverse of rows return, for any input.
-/
import Derived.Test.YtmecjjfpgjpeoaaRef8
namespace Go.Proofs.Ytmecjjfpgjpeoaa
open Go.RowKit

/-- a row as it lies: the slice of its terms, and the bound -/
structure RawRow where
  terms : Value
  bound : Int
def encRaw (r : RawRow) : List Value := [r.terms, .int .i64 r.bound]
theorem encRaw_len (r : RawRow) : (encRaw r).length = 2 := rfl
/-- raw rows whose terms are slices -/
def encS (r : RawRow) : List Value := [match r.terms with | .slice a n c => .slice a n c | _ => .slice none 0 0, .int .i64 r.bound]
theorem encS_len (r : RawRow) : (encS r).length = 2 := rfl
theorem encS_one (r : RawRow) : ∀ u ∈ encS r, u.oneCell' = true := by
  intro u hu
  simp only [encS, List.mem_cons, List.not_mem_nil, or_false] at hu
  rcases hu with rfl | rfl
  · split <;> rfl
  · rfl
abbrev Raws := Sl (Pl encS) 2
/-- what raw rows read as -/
def Reads (w : World) (raw : RawRow) (r : Row) : Prop := (∃ A c, raw.terms = .slice A r.terms.length c) ∧ raw.bound = r.bound ∧ Terms w raw.terms r.terms
theorem Reads.keep {w w' : World} {x : RawRow} {r : Row} (h : Reads w x r) (hk : Kp w w') : Reads w' x r := ⟨h.1, h.2.1, h.2.2.keep (pl_stable _) hk⟩
theorem Reads.enc {w : World} {x : RawRow} {r : Row} (h : Reads w x r) : encS x = [x.terms, .int .i64 r.bound] := by
  obtain ⟨⟨A, c, h1⟩, h2, -⟩ := h
  unfold encS
  rw [h1, h2]
def ReadsL (w : World) (raws : List RawRow) (rows : List Row) : Prop := raws.length = rows.length ∧ ∀ k : Nat, ∀ h1 : k < raws.length, ∀ h2 : k < rows.length, Reads w raws[k] rows[k]
theorem ReadsL.keep {w w' : World} {x : List RawRow} {r : List Row} (h : ReadsL w x r) (hk : Kp w w') : ReadsL w' x r := ⟨h.1, fun k h1 h2 => (h.2 k h1 h2).keep hk⟩
theorem ReadsL.reverse {w : World} {x : List RawRow} {r : List Row} (h : ReadsL w x r) : ReadsL w x.reverse r.reverse := by
  refine ⟨by simpa using h.1, fun k h1 h2 => ?_⟩
  have e := h.1
  rw [List.length_reverse] at h1 h2
  rw [List.getElem_reverse, List.getElem_reverse]
  have := h.2 (x.length - 1 - k) (by omega) (by omega)
  simpa [e] using this
theorem Raws.rows {w : World} {v : Value} {x : List RawRow} {r : List Row} (h : Raws w v x) (hr : ReadsL w x r) : RowsL w v r := by
  obtain ⟨A, c, rfl, h1, h2, h3⟩ := h
  obtain ⟨e, hk⟩ := hr
  rw [e] at h1 ⊢
  refine ⟨A, c, rfl, h1, h2, fun k hkr => ?_⟩
  obtain ⟨b, o, cs, hA, had, hcs, hc, hp⟩ := h3 k (by omega)
  have h4 := hk k (by omega) hkr
  unfold Pl at hp
  rw [h4.enc] at hp
  exact ⟨b, o, cs, hA, had, hcs, hc, _, hp, h4.2.2⟩
theorem RowsL.raws {w : World} {v : Value} {r : List Row} (h : RowsL w v r) : ∃ x, Raws w v x ∧ ReadsL w x r := by
  obtain ⟨A, c, rfl, h1, h2, h3⟩ := h
  have h4 : ∀ k, ∃ x : RawRow, ∀ hk : k < r.length, Reads w x r[k] ∧ ∃ b o cs, A = some ⟨b, o, none⟩ ∧ b < w.heap.size ∧ cs.length = 2 ∧ (∀ j u, cs[j]? = some u → w.cell? ⟨b, o + k * 2 + j, none⟩ = some u) ∧ cs = [x.terms, .int .i64 r[k].bound] := by
    intro k
    by_cases hk : k < r.length
    · obtain ⟨b, o, cs, hA, had, hcs, hc, tv, hp, ht⟩ := h3 k hk
      refine ⟨⟨tv, r[k].bound⟩, fun _ => ⟨⟨?_, rfl, ht⟩, b, o, cs, hA, had, hcs, hc, hp⟩⟩
      obtain ⟨A', c', e, -, -⟩ := ht.form
      exact ⟨A', c', e⟩
    · exact ⟨⟨.slice none 0 0, 0⟩, fun h => absurd h hk⟩
  refine ⟨(List.range r.length).map fun k => Classical.choose (h4 k), ⟨A, c, by simp, by simpa using h1, h2, fun k hk => ?_⟩, by simp, fun k hk1 hk2 => ?_⟩
  · have hk' : k < r.length := by simpa using hk
    obtain ⟨hr, b, o, cs, hA, had, hcs, hc, hp⟩ := Classical.choose_spec (h4 k) hk'
    refine ⟨b, o, cs, hA, had, hcs, hc, ?_⟩
    unfold Pl
    rw [hp, List.getElem_map, List.getElem_range, hr.enc]
  · have := (Classical.choose_spec (h4 k) hk2).1
    simpa using this

theorem stRow : SliceT Try.prog 23 41 2 32 := SliceT.mk' Try.underlying23 (z := .agg #[.slice none 0 0, .int .i64 0]) (by kernel_rfl) rfl (by omega)
set_option maxHeartbeats 1000000 in
theorem CloneRow_any (v : Value) (l : List RawRow) (w : World) (hS : Raws w v l) (hl : l.length ≤ 1000000000) :
    Calls Try.prog 37 #[v] w fun e w' => ∃ v', e = .returned v' ∧ Own encS 41 2 w.heap.size w' v' l ∧ Kp w w' := by
  obtain ⟨A, c, rfl, hc, hm⟩ := hS.form
  rcases A with _ | A
  · have hl0 : l = [] := by
      cases l with
      | nil => rfl
      | cons x l =>
        obtain ⟨_, _, _, hA, _⟩ := hS.at_ (k := 0) (by simp)
        cases hA
    subst hl0
    rw [List.length_nil]
    have hnil := fun (W : World) => Lib.run_eql_slice_nil (P := Try.prog) W 23 41 none 0 c 0 0 Try.underlying23
    go_enter Try.func37, Try.ntmps37
    go_wp2
    go_ret
    exact ⟨_, rfl, Own.nil _ _ _ _ _, Kp.refl _⟩
  · have hnil := fun (W : World) => Lib.run_eql_slice_nil (P := Try.prog) W 23 41 (some A) l.length c 0 0 Try.underlying23
    go_enter Try.func37, Try.ntmps37
    go_wp2_with (at_builtin; refine wpl_append_flat rfl (.tmp 5) (.tmp 6) rfl stRow encS_len encS_one rfl (Own.lit (base := w.heap.size) encS w #[] [] (Nat.le_refl _) (by simp) rfl rfl) rfl (hS.keep (pl_stable _) ((Kp.refl w).alloc _)) (by simp; omega) (by simp; omega) (by simp) ?_; intro v' w' hown hgrow hat hnil')
    go_ret
    exact ⟨_, rfl, by simpa using hown, ((Kp.refl w).alloc _).grown hgrow (fun k hk => by cases hk; exact Nat.le_refl _)⟩
end Go.Proofs.Ytmecjjfpgjpeoaa
