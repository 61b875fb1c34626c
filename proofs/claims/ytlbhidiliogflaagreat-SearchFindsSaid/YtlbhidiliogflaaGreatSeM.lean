
/-
Search: the root: what its cases' walk keeps; the rows of a case.
-/
import Derived.Test.YtlbhidiliogflaaGreatSeN
namespace Go.Proofs.YtlbhidiliogflaaGreat
set_option linter.unusedSimpArgs false
set_option linter.unusedVariables false
open Go.RowKit

/-- the cases' rows, their cells known -/
def CRaw (csC : List (Elm 1)) (cssC : Nat → List (Elm 2)) (vc : Value) (cases : List (List Row)) (w : World) : Prop :=
  Sl (Pl encC) 1 w vc csC ∧ csC.length = cases.length ∧ ∀ k (h1 : k < csC.length) (h2 : k < cases.length), ∃ v, csC[k].val = [v] ∧ RawL rdRow 2 (cssC k) w v cases[k]
theorem rdRows_one {w : World} (cs : List Value) (l : List Row) (h : rdRows w cs l) : ∀ u ∈ cs, u.oneCell' = true := by
  obtain ⟨v, rfl, h⟩ := h
  obtain ⟨A, c, rfl, -⟩ := h.form
  simp [Value.oneCell']
theorem CRaw.of {w : World} {vc : Value} {cases : List (List Row)} (h : CasesL w vc cases) : ∃ csC cssC, ∀ w', Kp w w' → CRaw csC cssC vc cases w' := by
  obtain ⟨csC, hC⟩ := RawL.of h rdRows_stable rdRows_one
  have h0 := hC w (Kp.refl w)
  have hx : ∀ k : Nat, ∃ css : List (Elm 2), ∀ (h1 : k < csC.length) (h2 : k < cases.length), ∃ v, csC[k].val = [v] ∧ ∀ w', Kp w w' → RawL rdRow 2 css w' v cases[k] := fun k => by
    by_cases hk : k < csC.length
    · have hk2 : k < cases.length := by rw [← h0.2.1]; exact hk
      obtain ⟨v, e, hv⟩ := h0.2.2 k hk hk2
      obtain ⟨css, hcss⟩ := RawL.of hv rdRow_stable rdRow_one
      exact ⟨css, fun _ _ => ⟨v, e, hcss⟩⟩
    · exact ⟨[], fun h1 => absurd h1 hk⟩
  obtain ⟨f, hf⟩ := Classical.axiomOfChoice hx
  refine ⟨csC, f, fun w' k => ⟨(hC w' k).1, h0.2.1, fun i h1 h2 => ?_⟩⟩
  obtain ⟨v, e, hv⟩ := hf i h1 h2
  exact ⟨v, e, hv w' k⟩
theorem CRaw.at {csC : List (Elm 1)} {cssC : Nat → List (Elm 2)} {A : Option Addr} {n c : Nat} {cases : List (List Row)} {w : World} (h : CRaw csC cssC (.slice A n c) cases w) {k : Nat} (hk : k < cases.length) :
    ∃ b o A' c', A = some ⟨b, o, none⟩ ∧ w.cell? ⟨b, o + k, none⟩ = some (.slice A' (cssC k).length c') ∧ (cssC k).length = cases[k].length ∧ ∀ w' v', CRaw csC cssC v' cases w' → RawL rdRow 2 (cssC k) w' (.slice A' (cssC k).length c') cases[k] := by
  have hk' : k < csC.length := by rw [h.2.1]; exact hk
  obtain ⟨b, o, cs, hA, hb, hcs, hc, hr⟩ := h.1.at_ hk'
  unfold Pl encC at hr
  subst hr
  obtain ⟨v, e, ht⟩ := h.2.2 k hk' hk
  obtain ⟨A', c', rfl, -, -⟩ := ht.1.form
  rw [e] at hc
  refine ⟨b, o, A', c', hA, by simpa using hc 0 _ rfl, ht.2.1, fun w' v' h' => ?_⟩
  obtain ⟨v2, e2, ht2⟩ := h'.2.2 k hk' hk
  rw [e] at e2
  injection e2 with e2 _
  rw [e2]
  exact ht2
/-- two lists' cells behind one another -/
theorem RawL.app {α : Type} {R : Rd α} {e base : Nat} {css cst : List (Elm 2)} {w : World} {v v1 v2 : Value} {l m : List α} (hO : Own encC e 2 base w v (css ++ cst)) (h1 : RawL R 2 css w v1 l) (h2 : RawL R 2 cst w v2 m) : RawL R 2 (css ++ cst) w v (l ++ m) := by
  have hl := h1.2.1
  refine ⟨hO.sl encC_len, by simp [h1.2.1, h2.2.1], fun k k1 k2 => ?_⟩
  by_cases hk : k < css.length
  · rw [List.getElem_append_left hk, List.getElem_append_left (by rw [← hl]; exact hk)]
    exact h1.2.2 k hk (by rw [← hl]; exact hk)
  · have hk' : css.length ≤ k := Nat.le_of_not_lt hk
    have h3 : k - css.length < cst.length := by rw [List.length_append] at k1; omega
    have h4 : k - l.length < m.length := by rw [← h2.2.1]; omega
    rw [List.getElem_append_right hk', List.getElem_append_right (by omega)]
    have := h2.2.2 (k - css.length) h3 (by omega)
    simpa [hl] using this
/-- how the root ends -/
def RootR (w : World) (n b c : Nat) (vb : Value) (bw : Nat) (x0 x1 x2 x3 : Value) (F : NR) (e : Ending) (w' : World) : Prop :=
  match F with
  | .out => e = .panicked Pn ∧ Fx (PW bw vb) w w'
  | .sol vs i d => c + d ≤ b ∧ Fx (PW bw vb) w w' ∧ (∃ x4, Bx w' bw [x0, x1, x2, x3, x4, .int .i64 (b : Int), .int .i64 ((c + d : Nat) : Int)]) ∧
      ∃ g cp, e = .returned (.agg #[.slice (some ⟨g, 0, none⟩) vs.length cp, .int .i64 (i : Int), .int .i64 0, .slice none 0 0, .int .i64 0, .int .i64 0, .slice none 0 0]) ∧ Own encInt 3 1 w.heap.size w' (.slice (some ⟨g, 0, none⟩) vs.length cp) vs
  | .ref t d => c + d ≤ b ∧ Fx (PW bw vb) w w' ∧ (∃ x4, Bx w' bw [x0, x1, x2, x3, x4, .int .i64 (b : Int), .int .i64 ((c + d : Nat) : Int)]) ∧
      ∃ y0 y1 y2 y3 y4, e = .returned (.agg #[.slice none 0 0, .int .i64 0, y0, y1, y2, y3, y4]) ∧ OwF (fun q => q < w.heap.size) w' fun w2 => rdTr n w2 [y0, y1, y2, y3, y4] t
theorem nodeF_idx (rows : List Row) (grs : List Gr) (n : Nat) (box : List Rng) (b : Nat) {vs : List Int} {i d : Nat} (h : nodeF rows grs n box b = .sol vs i d) : i = 0 := by
  cases n with
  | zero => simp [nodeF] at h
  | succ n =>
    rw [nodeF] at h
    split at h
    · cases h
    split at h
    · cases h
    split at h
    · cases h
    split at h
    · cases h
      rfl
    split at h
    · cases h
    · cases h
      rfl
    · split at h
      · cases h
      · cases h
        rfl
      · cases h
theorem NodeR.root {w w' : World} {n b c : Nat} {ch : Int} {vb : Value} {bw : Nat} {x0 x1 x2 x3 x4 : Value} {F : NR} {e : Ending} (h : NodeR w n b c ch vb bw x0 x1 x2 x3 x4 F e w') (hc : ch ≤ 0) (hF : ∀ vs i d, F = .sol vs i d → i = 0) : RootR w n b c vb bw x0 x1 x2 x3 F e w' := by
  cases F with
  | out => exact h
  | sol vs i d =>
    obtain ⟨h1, h2, h3, g, cp, h4, h5⟩ := h
    have := hF vs i d rfl
    subst this
    refine ⟨h1, h2, ⟨_, h3⟩, g, cp, ?_, h5⟩
    rw [h4, show max ch 0 = 0 by omega]
    rfl
  | ref t d =>
    obtain ⟨h1, h2, h3, h4⟩ := h
    exact ⟨h1, h2, ⟨_, h3⟩, h4⟩
section
variable {s : Sys} {b : Nat} {F : PX}
theorem rootF_zero (hc : s.cases.isEmpty = false) (h : b = 0) : rootF s b = .out := by rw [rootF, if_neg (by rw [hc]; simp), if_pos h]
theorem rootF_out (hc : s.cases.isEmpty = false) (hb : b ≠ 0) (hF : runB (b - 1) s.rows s.graphs s.box = F) (h : F.fine = false) : rootF s b = .out := by rw [rootF, if_neg (by rw [hc]; simp), if_neg hb, hF, if_pos h]
theorem rootF_shut (hc : s.cases.isEmpty = false) (hb : b ≠ 0) (hF : runB (b - 1) s.rows s.graphs s.box = F) (h : F.fine = true) (ho : F.opn = false) : rootF s b = .ref (.mk 0 F.steps 0 0 []) (1 + F.steps.length) := by
  rw [rootF, if_neg (by rw [hc]; simp), if_neg hb, hF, if_neg (by rw [h]; simp), if_pos ho]
theorem rootF_cases (hc : s.cases.isEmpty = false) (hb : b ≠ 0) (hF : runB (b - 1) s.rows s.graphs s.box = F) (h : F.fine = true) (ho : F.opn = true) : rootF s b = casesF s F.steps F.box b 0 s.cases (1 + F.steps.length) [] := by
  rw [rootF, if_neg (by rw [hc]; simp), if_neg hb, hF, if_neg (by rw [h]; simp), if_neg (by rw [ho]; simp)]
end
theorem casesF_drop (s : Sys) (ss : List Stp) (box : List Rng) (b k : Nat) (c : Nat) (ts : List Tr) (hk : k < s.cases.length) :
    casesF s ss box b k (s.cases.drop k) c ts = kidF (nodeF (s.rows ++ s.cases[k]) s.graphs (b - c) box (b - c)) k c fun t c' => casesF s ss box b (k + 1) (s.cases.drop (k + 1)) c' (ts ++ [t]) := by
  rw [List.drop_eq_getElem_cons hk, casesF_next]
theorem casesF_end (s : Sys) (ss : List Stp) (box : List Rng) (b k : Nat) (c : Nat) (ts : List Tr) (hk : s.cases.length ≤ k) : casesF s ss box b k (s.cases.drop k) c ts = .ref (.mk 2 ss 0 0 ts) c := by
  rw [List.drop_eq_nil_of_le hk, casesF]
end Go.Proofs.YtlbhidiliogflaaGreat
