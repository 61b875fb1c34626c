
/-
Search: the shape of a refutation's tree: plain.
-/
import Derived.Test.YtlbhidiliogflaaSfP
import Derived.Test.YtlbhidiliogflaaSeG
namespace Go.Proofs.Ytlbhidiliogflaa
set_option linter.unusedSimpArgs false
set_option linter.unusedVariables false
open Go.RowKit

/-- a right tree -/
def RT (s : Sys) : Nat → Tr → Bool → Int → Prop
  | 0, _, _, _ => False
  | n + 1, .mk k ss c a ks, root, least => (k = 0 ∧ ks = [] ∧ 0 < ss.length ∧ c = 0 ∧ a = 0) ∨ (k = 2 ∧ root = true ∧ ks.length = s.cases.length ∧ ∀ t ∈ ks, RT s n t false 0) ∨
      (k = 1 ∧ (root = true → s.cases = []) ∧ ks.length = 2 ∧ least ≤ c ∧ 0 ≤ c ∧ c < s.box.length ∧ (pick s.box c).lo ≤ a ∧ a < (pick s.box c).hi ∧ ∀ t ∈ ks, RT s n t false c)
theorem RT_succ {s : Sys} : ∀ (n : Nat) (t : Tr) (root : Bool) (least : Int), RT s n t root least → RT s (n + 1) t root least
  | 0, _, _, _, h => absurd h (fun h => h)
  | n + 1, .mk k ss c a ks, root, least, h => by
    rcases h with h | ⟨h1, h2, h3, h4⟩ | ⟨h1, h2, h3, h4, h5, h6, h7, h8, h9⟩
    · exact .inl h
    · exact .inr (.inl ⟨h1, h2, h3, fun t ht => RT_succ n t _ _ (h4 t ht)⟩)
    · exact .inr (.inr ⟨h1, h2, h3, h4, h5, h6, h7, h8, fun t ht => RT_succ n t _ _ (h9 t ht)⟩)
theorem RT_le {s : Sys} {n m : Nat} (h : n ≤ m) {t : Tr} {root : Bool} {least : Int} (ht : RT s n t root least) : RT s m t root least := by
  induction h with
  | refl => exact ht
  | step _ ih => exact RT_succ _ _ _ _ ih
theorem kid_ref {F : NR} {i c : Nat} {K : Tr → Nat → NR} {t : Tr} {d : Nat} (h : kidF F i c K = .ref t d) : ∃ u e, F = .ref u e ∧ K u (c + e) = .ref t d := by
  unfold kidF at h
  cases F with
  | out => cases h
  | sol vs j e => cases h
  | ref u e => exact ⟨u, e, rfl, h⟩
theorem node_tree {s : Sys} (hn : s.box.length ≤ 128) (hg : ∀ g ∈ s.graphs, grOk s.box.length g = true) : ∀ (N : Nat) (rows : List Row) (box : List Rng) (b : Nat) (root : Bool) (least : Int) (t : Tr) (c : Nat), (∀ r ∈ rows, fitsB s.box.length r = true) → fineBox s.box.length box → Sub box s.box →
    (∀ i : Nat, (i : Int) < least → i < s.box.length → (pick box i).lo = (pick box i).hi) → 0 ≤ least → (root = true → s.cases = []) → nodeF rows s.graphs N box b = .ref t c → RT s N t root least
  | 0, rows, box, b, root, least, t, c, _, _, _, _, _, _, h => by cases h
  | N + 1, rows, box, b, root, least, t, c, hr, hf, hS, hL, hl0, hroot, h => by
    by_cases hb0 : b = 0
    · rw [nodeF_zero hb0] at h; cases h
    obtain ⟨F, hF⟩ : ∃ F, runB (b - 1) rows s.graphs box = F := ⟨_, rfl⟩
    obtain ⟨k1, k2, k3, k4⟩ := runB_kept hn (b - 1) hr hg hf
    rw [hF] at k1 k2 k3 k4
    cases hfi : F.fine with
    | false => rw [nodeF_out hb0 hF hfi] at h; cases h
    | true =>
      cases ho : F.opn with
      | false =>
        rw [nodeF_shut hb0 hF hfi ho] at h
        injection h with h1 h2
        subst h1
        exact .inl ⟨rfl, rfl, k3 ho hfi, rfl, rfl⟩
      | true =>
        rcases idxF_cases wideR 0 F.box with ⟨hi, -⟩ | ⟨j, hj, hi, hw, hlow⟩
        · rw [nodeF_sol hb0 hF hfi ho (by omega)] at h
          cases h
        · rw [nodeF_split hb0 hF hfi ho (by omega)] at h
          rw [Nat.zero_add] at hi
          rw [hi] at h
          have hjn : j < s.box.length := by rw [← k1.1]; exact hj
          have hp := pick_at F.box j hj
          have hm := mid_bounds (k1.2.1 F.box[j] (List.getElem_mem hj)) hw
          have hwj : F.box[j].lo < F.box[j].hi := by unfold wideR at hw; simpa using hw
          have hSF := k2.trans hS
          have hs2 := hSF.2 j hjn
          rw [splitF_next] at h
          obtain ⟨u1, e1, h1, h⟩ := kid_ref h
          rw [splitF_next] at h
          obtain ⟨u2, e2, h2, h⟩ := kid_ref h
          rw [splitF] at h
          injection h with h3 h4
          subst h3
          simp only [Int.toNat_natCast] at h1 h2
          have hsing : ∀ i : Nat, (i : Int) < least → i < s.box.length → (pick F.box i).lo = (pick F.box i).hi := fun i i1 i2 => by
            have i3 : i < F.box.length := by rw [k1.1]; exact i2
            have a1 := k2.2 i (by rw [hf.1]; exact i2)
            have a2 := hL i i1 i2
            have a3 := k1.2.2 F.box[i] (List.getElem_mem i3)
            rw [pick_at F.box i i3] at a1 ⊢
            omega
          have hkid : ∀ k : Nat, fineBox s.box.length (F.box.set j (halfR F.box (j : Int) (middle (pick F.box (j : Int))) k)) ∧ Sub (F.box.set j (halfR F.box (j : Int) (middle (pick F.box (j : Int))) k)) s.box ∧
              ∀ i : Nat, (i : Int) < (j : Int) → i < s.box.length → (pick (F.box.set j (halfR F.box (j : Int) (middle (pick F.box (j : Int))) k)) i).lo = (pick (F.box.set j (halfR F.box (j : Int) (middle (pick F.box (j : Int))) k)) i).hi := fun k => by
            refine ⟨half_fine k1 hj hw k, Sub.trans (sub_set ?_ ?_) hSF, fun i i1 i2 => ?_⟩
            · unfold halfR; rw [hp]; split <;> dsimp only <;> omega
            · unfold halfR; rw [hp]; split <;> dsimp only <;> omega
            · have i3 : i < F.box.length := by rw [k1.1]; exact i2
              rw [pick_set F.box j i _ i3, if_neg (by omega), pick_at F.box i i3]
              have a1 := hlow i (by omega)
              have a2 := k1.2.2 F.box[i] (List.getElem_mem i3)
              unfold wideR at a1
              simp at a1
              omega
          refine .inr (.inr ⟨rfl, hroot, rfl, ?_, by omega, by omega, ?_, ?_, fun t ht => ?_⟩)
          · rcases Int.lt_or_le (j : Int) least with hlt | hle
            · have := hsing j hlt hjn
              rw [hp] at this
              omega
            · exact hle
          · rw [hp] at hs2 ⊢; omega
          · rw [hp] at hs2 ⊢; omega
          · simp only [List.nil_append, List.cons_append, List.mem_cons, List.not_mem_nil, or_false] at ht
            rcases ht with rfl | rfl
            · exact node_tree hn hg N rows _ _ false j _ _ hr (hkid 0).1 (hkid 0).2.1 (hkid 0).2.2 (by omega) (fun h => by cases h) h1
            · exact node_tree hn hg N rows _ _ false j _ _ hr (hkid 1).1 (hkid 1).2.1 (hkid 1).2.2 (by omega) (fun h => by cases h) h2
theorem cases_tree {s : Sys} (hn : s.box.length ≤ 128) (hg : ∀ g ∈ s.graphs, grOk s.box.length g = true) (hr : ∀ r ∈ s.rows, fitsB s.box.length r = true) (ss : List Stp) {box : List Rng} (hf : fineBox s.box.length box) (hS : Sub box s.box) (b : Nat) :
    ∀ (ls : List (List Row)) (i c : Nat) (ts : List Tr) (t : Tr) (d : Nat), (∀ l ∈ ls, ∀ r ∈ l, fitsB s.box.length r = true) → casesF s ss box b i ls c ts = .ref t d →
      ∃ us, t = .mk 2 ss 0 0 (ts ++ us) ∧ us.length = ls.length ∧ ∀ u ∈ us, RT s b u false 0
  | [], i, c, ts, t, d, _, h => by
    rw [casesF] at h
    injection h with h1 h2
    exact ⟨[], by rw [← h1]; simp, rfl, fun u hu => absurd hu (by simp)⟩
  | l :: ls, i, c, ts, t, d, hls, h => by
    rw [casesF_next] at h
    obtain ⟨u, e, h1, h2⟩ := kid_ref h
    have hu := node_tree hn hg (b - c) (s.rows ++ l) box (b - c) false 0 u e (fun r hrr => by
      rcases List.mem_append.1 hrr with h | h
      · exact hr r h
      · exact hls l (by simp) r h) hf hS (fun i hi => by omega) (Int.le_refl _) (fun h => by cases h) h1
    obtain ⟨us, e1, e2, e3⟩ := cases_tree hn hg hr ss hf hS b ls (i + 1) (c + e) (ts ++ [u]) t d (fun l hl => hls l (by simp [hl])) h2
    refine ⟨u :: us, by rw [e1]; simp, by simp [e2], fun x hx => ?_⟩
    rcases List.mem_cons.1 hx with rfl | hx
    · exact RT_le (Nat.sub_le _ _) hu
    · exact e3 x hx
/-- a refutation's tree is right -/
theorem root_tree {s : Sys} (hv : validS s = true) {b : Nat} {t : Tr} {c : Nat} (h : rootF s b = .ref t c) : RT s (b + 1) t true 0 := by
  obtain ⟨p1, p2, p3, p4, p5⟩ := sys_parts hv
  by_cases hc : s.cases.isEmpty = true
  · rw [rtF_plain hc] at h
    exact RT_succ _ _ _ _ (node_tree p1 p3 b s.rows s.box b true 0 t c p2 p4 (Sub.refl _) (fun i hi => by omega) (Int.le_refl _) (fun _ => List.isEmpty_iff.1 hc) h)
  · by_cases hb0 : b = 0
    · rw [rtF_zero hc hb0] at h; cases h
    obtain ⟨F, hF⟩ : ∃ F, runB (b - 1) s.rows s.graphs s.box = F := ⟨_, rfl⟩
    obtain ⟨k1, k2, k3, k4⟩ := runB_kept p1 (b - 1) p2 p3 p4
    rw [hF] at k1 k2 k3 k4
    cases hfi : F.fine with
    | false => rw [rtF_out hc hb0 hF hfi] at h; cases h
    | true =>
      cases ho : F.opn with
      | false =>
        rw [rtF_shut hc hb0 hF hfi ho] at h
        injection h with h1 h2
        subst h1
        exact .inl ⟨rfl, rfl, k3 ho hfi, rfl, rfl⟩
      | true =>
        rw [rtF_cases hc hb0 hF hfi ho] at h
        obtain ⟨us, rfl, e2, e3⟩ := cases_tree p1 p3 p2 F.steps k1 k2 b s.cases 0 _ [] t c p5 h
        exact .inr (.inl ⟨rfl, rfl, by simpa using e2, fun u hu => e3 u (by simpa using hu)⟩)
end Go.Proofs.Ytlbhidiliogflaa
