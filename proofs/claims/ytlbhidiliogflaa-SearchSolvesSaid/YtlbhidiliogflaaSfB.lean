
/-
Search: the cost of an answer is a sufficient budget, and no smaller one is: plain.
-/
import Derived.Test.YtlbhidiliogflaaSeQ
import Derived.Test.YtlbhidiliogflaaSeJ
namespace Go.Proofs.Ytlbhidiliogflaa
set_option linter.unusedSimpArgs false
set_option linter.unusedVariables false
open Go.RowKit

/-- with a smaller and a greater budget: alike, or the smaller one has not been enough -/
def Alike (b : Nat) (x y : PX) : Prop := (x = y ∧ x.fine = true ∧ x.steps.length ≤ b) ∨ (x.fine = false ∧ x.opn = false ∧ (y.fine = false ∨ b < y.steps.length))
theorem noteX_alike {b b' : Nat} (h : b ≤ b') (x : PX) (hf : x.fine = true) (hl : x.steps.length ≤ b) (kd ix c : Int) (r : Rng) : Alike b (noteX b x kd ix c r) (noteX b' x kd ix c r) := by
  by_cases h1 : b ≤ x.steps.length
  · right
    refine ⟨by simp [noteX, h1], by simp [noteX, h1], ?_⟩
    by_cases h2 : b' ≤ x.steps.length
    · left
      simp [noteX, h2]
    · right
      unfold noteX
      rw [if_neg h2]
      split <;> simp <;> omega
  · left
    have h2 : ¬ b' ≤ x.steps.length := by omega
    unfold noteX
    rw [if_neg h1, if_neg h2]
    refine ⟨rfl, ?_, ?_⟩
    · split <;> exact hf
    · split <;> simp <;> omega
theorem doT_alike {b b' : Nat} (h : b ≤ b') (x : PX) (hf : x.fine = true) (hl : x.steps.length ≤ b) (t : Tsk) : Alike b (doT b x t) (doT b' x t) := by
  have h0 : Alike b x x := .inl ⟨rfl, hf, hl⟩
  cases ho : x.opn with
  | false => rw [doT_shut ho, doT_shut ho]; exact h0
  | true =>
    cases t with
    | dead i =>
      simp only [doT, ho, if_true]
      exact noteX_alike h x hf hl ..
    | row i r c =>
      simp only [doT, ho, if_true]
      by_cases e : sameR (tightenB r x.box c) (pick x.box c) = true
      · rw [if_pos e, if_pos e]; exact h0
      · rw [if_neg e, if_neg e]; exact noteX_alike h x hf hl ..
    | gr i g k =>
      simp only [doT, ho, if_true]
      by_cases e : sameR (cutG g x.box k) (pick x.box (g.first + (k : Int))) = true
      · rw [if_pos e, if_pos e]; exact h0
      · rw [if_neg e, if_neg e]; exact noteX_alike h x hf hl ..
theorem noteX_unfine {b : Nat} {x : PX} (h : x.fine = false) (kd ix c : Int) (r : Rng) : (noteX b x kd ix c r).fine = false := by
  unfold noteX
  split
  · rfl
  · split <;> exact h
theorem doT_unfine {b : Nat} {x : PX} (h : x.fine = false) (t : Tsk) : (doT b x t).fine = false := by
  cases t <;> simp only [doT] <;> repeat' split
  all_goals first | exact h | exact noteX_unfine h ..
theorem runT_unfine {b : Nat} : ∀ (l : List Tsk) {x : PX}, x.fine = false → (runT b x l).fine = false
  | [], _, h => h
  | t :: l, x, h => by
    rw [runT_cons]
    exact runT_unfine l (doT_unfine h t)
theorem runT_alike {b b' : Nat} (h : b ≤ b') : ∀ (l : List Tsk) (x : PX), x.fine = true → x.steps.length ≤ b → Alike b (runT b x l) (runT b' x l)
  | [], x, hf, hl => .inl ⟨rfl, hf, hl⟩
  | t :: l, x, hf, hl => by
    rw [runT_cons, runT_cons]
    rcases doT_alike h x hf hl t with ⟨e, f, g⟩ | ⟨f, o, d⟩
    · rw [← e]
      exact runT_alike h l _ f g
    · rw [runT_shut o]
      refine .inr ⟨f, o, ?_⟩
      rcases d with d | d
      · exact .inl (runT_unfine l d)
      · exact .inr (Nat.lt_of_lt_of_le d (runT_len b' l _).1)
theorem runX_len (b : Nat) (rows : List Row) (grs : List Gr) : ∀ (n : Nat) (x : PX), x.steps.length ≤ (runX b rows grs n x).steps.length
  | 0, _ => Nat.le_refl _
  | n + 1, x => by
    have h1 := (runT_len b (tasks rows grs) x).1
    rw [runX]
    split
    · exact Nat.le_trans h1 (runX_len b rows grs n _)
    · exact h1
theorem runX_alike {b b' : Nat} (h : b ≤ b') (rows : List Row) (grs : List Gr) : ∀ (n n' : Nat) (x : PX), x.fine = true → x.steps.length ≤ b → b - x.steps.length < n → b' - x.steps.length < n' → Alike b (runX b rows grs n x) (runX b' rows grs n' x)
  | 0, _, _, _, _, h1, _ => by omega
  | n + 1, 0, _, _, _, _, h2 => by omega
  | n + 1, n' + 1, x, hf, hl, h1, h2 => by
    rcases runT_alike h (tasks rows grs) x hf hl with ⟨e, f, g⟩ | ⟨f, o, d⟩
    · have hn := (runT_len b (tasks rows grs) x).1
      by_cases hs : (runT b x (tasks rows grs)).opn = true ∧ (runT b x (tasks rows grs)).steps.length ≠ x.steps.length
      · rw [runX_go rfl hs.1 hs.2, runX_go e.symm hs.1 hs.2]
        exact runX_alike h rows grs n n' _ f g (by omega) (by omega)
      · have hs' : (runT b x (tasks rows grs)).opn = false ∨ (runT b x (tasks rows grs)).steps.length = x.steps.length := by
          cases ho : (runT b x (tasks rows grs)).opn with
          | false => exact .inl rfl
          | true => exact .inr (Classical.not_not.1 fun e => hs ⟨ho, e⟩)
        rw [runX_stop rfl hs', runX_stop e.symm hs']
        exact .inl ⟨rfl, f, g⟩
    · rw [runX_stop rfl (.inl o)]
      refine .inr ⟨f, o, ?_⟩
      have hn := runT_len b' (tasks rows grs) x
      rcases d with d | d
      · rw [runX_stop rfl (.inl (hn.2 d hf))]
        exact .inl d
      · right
        rw [runX]
        split
        · exact Nat.lt_of_lt_of_le d (runX_len ..)
        · exact d
theorem runB_alike {b b' : Nat} (h : b ≤ b') (rows : List Row) (grs : List Gr) (box : List Rng) : Alike b (runB b rows grs box) (runB b' rows grs box) :=
  runX_alike h rows grs _ _ _ rfl (Nat.zero_le _) (by simp) (by simp)
theorem runB_cost {b : Nat} {rows : List Row} {grs : List Gr} {box : List Rng} (h : (runB b rows grs box).fine = true) :
    (runB b rows grs box).steps.length ≤ b ∧ (∀ b', (runB b rows grs box).steps.length ≤ b' → runB b' rows grs box = runB b rows grs box) ∧ ∀ b', b' < (runB b rows grs box).steps.length → (runB b' rows grs box).fine = false := by
  have h0 : (runB b rows grs box).steps.length ≤ b := by
    rcases runB_alike (Nat.le_refl b) rows grs box with ⟨_, _, g⟩ | ⟨f, _, _⟩
    · exact g
    · rw [h] at f; cases f
  refine ⟨h0, fun b' hb => ?_, fun b' hb => ?_⟩
  · rcases Nat.le_total b b' with hl | hl
    · rcases runB_alike hl rows grs box with ⟨e, _, _⟩ | ⟨f, _, _⟩
      · exact e.symm
      · rw [h] at f; cases f
    · rcases runB_alike hl rows grs box with ⟨e, _, _⟩ | ⟨_, _, f | f⟩
      · exact e
      · rw [h] at f; cases f
      · omega
  · rcases runB_alike (Nat.le_of_lt (Nat.lt_of_lt_of_le hb h0)) rows grs box with ⟨e, _, g⟩ | ⟨f, _, _⟩
    · rw [e] at g; omega
    · exact f
/-- what a result has cost -/
def NR.cost : NR → Nat
  | .out => 0
  | .sol _ _ c => c
  | .ref _ c => c
/-- with its cost as budget the result is the same, with less there is none; f n b: with fuel n and budget b -/
def Exact (f : Nat → Nat → NR) (lo b : Nat) (F : NR) : Prop :=
  F ≠ .out → lo ≤ F.cost ∧ F.cost ≤ b ∧ (∀ n b', b' ≤ n → F.cost ≤ b' → f n b' = F) ∧ ∀ n b', b' ≤ n → lo ≤ b' → b' < F.cost → f n b' = .out
theorem splitF_exact {rows : List Row} {grs : List Gr} {n : Nat} (hn : ∀ box b, b ≤ n → Exact (fun n' b' => nodeF rows grs n' box b') 0 b (nodeF rows grs n box b)) (ss : List Stp) (box : List Rng) (cell at_ : Int) (b : Nat) :
    ∀ (j k : Nat) (ts : List Tr) (c : Nat), c ≤ b → b - c ≤ n → splitF rows grs n ss box cell at_ b j k ts c ≠ .out →
      c ≤ (splitF rows grs n ss box cell at_ b j k ts c).cost ∧ (splitF rows grs n ss box cell at_ b j k ts c).cost ≤ b ∧
      (∀ n' b', b' - c ≤ n' → (splitF rows grs n ss box cell at_ b j k ts c).cost ≤ b' → splitF rows grs n' ss box cell at_ b' j k ts c = splitF rows grs n ss box cell at_ b j k ts c) ∧
      ∀ n' b', b' - c ≤ n' → c ≤ b' → b' < (splitF rows grs n ss box cell at_ b j k ts c).cost → splitF rows grs n' ss box cell at_ b' j k ts c = .out
  | 0, k, ts, c, hc, hbn, _ => ⟨Nat.le_refl _, hc, fun _ _ _ _ => rfl, fun n' b' _ h1 h2 => absurd h2 (Nat.not_lt.2 h1)⟩
  | j + 1, k, ts, c, hc, hbn, hne => by
    have h1 := hn (box.set cell.toNat (halfR box cell at_ k)) (b - c) hbn
    rw [splitF_next] at hne ⊢
    cases hN : nodeF rows grs n (box.set cell.toNat (halfR box cell at_ k)) (b - c) with
    | out => rw [hN] at hne; exact absurd rfl hne
    | sol vs i d =>
      rw [hN] at h1
      obtain ⟨-, h3, h4, h5⟩ := h1 (by simp)
      simp only [NR.cost] at h3 h4 h5
      simp only [kidF, NR.cost]
      refine ⟨by omega, by omega, fun n' b' hb1 hb2 => ?_, fun n' b' hb1 hb2 hb3 => ?_⟩
      · rw [splitF_next, h4 n' (b' - c) hb1 (by omega)]
        rfl
      · rw [splitF_next, h5 n' (b' - c) hb1 (Nat.zero_le _) (by omega)]
        rfl
    | ref t d =>
      rw [hN] at h1 hne
      obtain ⟨-, h3, h4, h5⟩ := h1 (by simp)
      simp only [NR.cost] at h3 h4 h5
      simp only [kidF] at hne ⊢
      obtain ⟨g1, g2, g3, g4⟩ := splitF_exact hn ss box cell at_ b j (k + 1) (ts ++ [t]) (c + d) (by omega) (by omega) hne
      refine ⟨by omega, g2, fun n' b' hb1 hb2 => ?_, fun n' b' hb1 hb2 hb3 => ?_⟩
      · rw [splitF_next, h4 n' (b' - c) hb1 (by omega)]
        exact g3 n' b' (by omega) hb2
      · rw [splitF_next]
        by_cases hd : b' < c + d
        · rw [h5 n' (b' - c) hb1 (Nat.zero_le _) (by omega)]
          rfl
        · rw [h4 n' (b' - c) hb1 (by omega)]
          exact g4 n' b' (by omega) (by omega) hb3
theorem nodeF_exact (rows : List Row) (grs : List Gr) : ∀ (n : Nat) (box : List Rng) (b : Nat), b ≤ n → Exact (fun n' b' => nodeF rows grs n' box b') 0 b (nodeF rows grs n box b)
  | 0, box, b, _ => fun h => absurd rfl h
  | n + 1, box, b, hb => by
    intro hne
    by_cases hb0 : b = 0
    · exact absurd (nodeF_zero hb0) hne
    obtain ⟨F, hF⟩ : ∃ F, runB (b - 1) rows grs box = F := ⟨_, rfl⟩
    cases hf : F.fine with
    | false => exact absurd (nodeF_out hb0 hF hf) hne
    | true =>
      obtain ⟨c1, c2, c3⟩ := runB_cost (by rw [hF]; exact hf)
      rw [hF] at c1 c2 c3
      have hlow : ∀ n' b', b' < 1 + F.steps.length → nodeF rows grs n' box b' = .out := fun n' b' h => by
        by_cases h0 : b' = 0
        · exact nodeF_zero h0
        · cases n' with
          | zero => rfl
          | succ m => exact nodeF_out h0 rfl (c3 (b' - 1) (by omega))
      have hsame : ∀ b', 1 + F.steps.length ≤ b' → b' ≠ 0 ∧ runB (b' - 1) rows grs box = F := fun b' h => ⟨by omega, c2 _ (by omega)⟩
      cases ho : F.opn with
      | false =>
        rw [nodeF_shut hb0 hF hf ho] at hne ⊢
        simp only [NR.cost]
        refine ⟨Nat.zero_le _, by omega, fun n' b' h1 h2 => ?_, fun n' b' _ _ h2 => hlow n' b' h2⟩
        cases n' with
        | zero => omega
        | succ m => exact nodeF_shut (hsame b' h2).1 (hsame b' h2).2 hf ho
      | true =>
        by_cases hi : idxF wideR 0 F.box < 0
        · rw [nodeF_sol hb0 hF hf ho hi] at hne ⊢
          simp only [NR.cost]
          refine ⟨Nat.zero_le _, by omega, fun n' b' h1 h2 => ?_, fun n' b' _ _ h2 => hlow n' b' h2⟩
          cases n' with
          | zero => omega
          | succ m => exact nodeF_sol (hsame b' h2).1 (hsame b' h2).2 hf ho hi
        · rw [nodeF_split hb0 hF hf ho hi] at hne ⊢
          obtain ⟨g1, g2, g3, g4⟩ := splitF_exact (nodeF_exact rows grs n) F.steps F.box _ _ b 2 0 [] (1 + F.steps.length) (by omega) (by omega) hne
          refine ⟨Nat.zero_le _, g2, fun n' b' h1 h2 => ?_, fun n' b' h1 _ h2 => ?_⟩
          · cases n' with
            | zero => omega
            | succ m =>
              have h3 := hsame b' (by omega)
              show nodeF rows grs (m + 1) box b' = _
              rw [nodeF_split h3.1 h3.2 hf ho hi]
              exact g3 m b' (by omega) h2
          · by_cases hl : b' < 1 + F.steps.length
            · exact hlow n' b' hl
            · cases n' with
              | zero => omega
              | succ m =>
                have h3 := hsame b' (by omega)
                show nodeF rows grs (m + 1) box b' = _
                rw [nodeF_split h3.1 h3.2 hf ho hi]
                exact g4 m b' (by omega) (by omega) h2
theorem casesF_exact (s : Sys) (ss : List Stp) (box : List Rng) (b : Nat) :
    ∀ (ls : List (List Row)) (i c : Nat) (ts : List Tr), c ≤ b → casesF s ss box b i ls c ts ≠ .out →
      c ≤ (casesF s ss box b i ls c ts).cost ∧ (casesF s ss box b i ls c ts).cost ≤ b ∧
      (∀ b', (casesF s ss box b i ls c ts).cost ≤ b' → casesF s ss box b' i ls c ts = casesF s ss box b i ls c ts) ∧
      ∀ b', c ≤ b' → b' < (casesF s ss box b i ls c ts).cost → casesF s ss box b' i ls c ts = .out
  | [], i, c, ts, hc, _ => ⟨Nat.le_refl _, hc, fun _ _ => rfl, fun b' h1 h2 => absurd h2 (Nat.not_lt.2 h1)⟩
  | l :: ls, i, c, ts, hc, hne => by
    have h1 := nodeF_exact (s.rows ++ l) s.graphs (b - c) box (b - c) (Nat.le_refl _)
    rw [casesF_next] at hne ⊢
    cases hN : nodeF (s.rows ++ l) s.graphs (b - c) box (b - c) with
    | out => rw [hN] at hne; exact absurd rfl hne
    | sol vs j d =>
      rw [hN] at h1
      obtain ⟨-, h3, h4, h5⟩ := h1 (by simp)
      simp only [NR.cost] at h3 h4 h5
      simp only [kidF, NR.cost]
      refine ⟨by omega, by omega, fun b' hb2 => ?_, fun b' hb2 hb3 => ?_⟩
      · rw [casesF_next, h4 (b' - c) (b' - c) (Nat.le_refl _) (by omega)]
        rfl
      · rw [casesF_next, h5 (b' - c) (b' - c) (Nat.le_refl _) (Nat.zero_le _) (by omega)]
        rfl
    | ref t d =>
      rw [hN] at h1 hne
      obtain ⟨-, h3, h4, h5⟩ := h1 (by simp)
      simp only [NR.cost] at h3 h4 h5
      simp only [kidF] at hne ⊢
      obtain ⟨g1, g2, g3, g4⟩ := casesF_exact s ss box b ls (i + 1) (c + d) (ts ++ [t]) (by omega) hne
      refine ⟨by omega, g2, fun b' hb2 => ?_, fun b' hb2 hb3 => ?_⟩
      · rw [casesF_next, h4 (b' - c) (b' - c) (Nat.le_refl _) (by omega)]
        exact g3 b' hb2
      · rw [casesF_next]
        by_cases hd : b' < c + d
        · rw [h5 (b' - c) (b' - c) (Nat.le_refl _) (Nat.zero_le _) (by omega)]
          rfl
        · rw [h4 (b' - c) (b' - c) (Nat.le_refl _) (by omega)]
          exact g4 b' (by omega) hb3
theorem nodeF_pos {rows : List Row} {grs : List Gr} {n : Nat} {box : List Rng} {b : Nat} (hb : b ≤ n) (h : nodeF rows grs n box b ≠ .out) : 1 ≤ (nodeF rows grs n box b).cost := by
  rcases Nat.eq_zero_or_pos (nodeF rows grs n box b).cost with e | e
  · have := (nodeF_exact rows grs n box b hb h).2.2.1 0 0 (Nat.le_refl _) (by omega)
    exact absurd this.symm h
  · exact e
section
variable {s : Sys} {b : Nat} {F : PX}
theorem rtF_plain (h : s.cases.isEmpty = true) : rootF s b = nodeF s.rows s.graphs b s.box b := by rw [rootF, if_pos h]
theorem rtF_zero (h : ¬ s.cases.isEmpty = true) (hb : b = 0) : rootF s b = .out := by rw [rootF, if_neg h, if_pos hb]
theorem rtF_out (h : ¬ s.cases.isEmpty = true) (hb : b ≠ 0) (hF : runB (b - 1) s.rows s.graphs s.box = F) (hf : F.fine = false) : rootF s b = .out := by
  rw [rootF, if_neg h, if_neg hb, hF, if_pos hf]
theorem rtF_shut (h : ¬ s.cases.isEmpty = true) (hb : b ≠ 0) (hF : runB (b - 1) s.rows s.graphs s.box = F) (hf : F.fine = true) (ho : F.opn = false) : rootF s b = .ref (.mk 0 F.steps 0 0 []) (1 + F.steps.length) := by
  rw [rootF, if_neg h, if_neg hb, hF, if_neg (by rw [hf]; simp), if_pos ho]
theorem rtF_cases (h : ¬ s.cases.isEmpty = true) (hb : b ≠ 0) (hF : runB (b - 1) s.rows s.graphs s.box = F) (hf : F.fine = true) (ho : F.opn = true) : rootF s b = casesF s F.steps F.box b 0 s.cases (1 + F.steps.length) [] := by
  rw [rootF, if_neg h, if_neg hb, hF, if_neg (by rw [hf]; simp), if_neg (by rw [ho]; simp)]
end
theorem rootF_exact (s : Sys) (b : Nat) (hne : rootF s b ≠ .out) : 1 ≤ (rootF s b).cost ∧ (rootF s b).cost ≤ b ∧ (∀ b', (rootF s b).cost ≤ b' → rootF s b' = rootF s b) ∧ ∀ b', b' < (rootF s b).cost → rootF s b' = .out := by
  by_cases hc : s.cases.isEmpty = true
  · rw [rtF_plain hc] at hne ⊢
    obtain ⟨-, h2, h3, h4⟩ := nodeF_exact s.rows s.graphs b s.box b (Nat.le_refl _) hne
    refine ⟨nodeF_pos (Nat.le_refl _) hne, h2, fun b' h => ?_, fun b' h => ?_⟩
    · rw [rtF_plain hc]; exact h3 b' b' (Nat.le_refl _) h
    · rw [rtF_plain hc]; exact h4 b' b' (Nat.le_refl _) (Nat.zero_le _) h
  · by_cases hb0 : b = 0
    · exact absurd (rtF_zero hc hb0) hne
    obtain ⟨F, hF⟩ : ∃ F, runB (b - 1) s.rows s.graphs s.box = F := ⟨_, rfl⟩
    cases hf : F.fine with
    | false => exact absurd (rtF_out hc hb0 hF hf) hne
    | true =>
      obtain ⟨c1, c2, c3⟩ := runB_cost (by rw [hF]; exact hf)
      rw [hF] at c1 c2 c3
      have hlow : ∀ b', b' < 1 + F.steps.length → rootF s b' = .out := fun b' h => by
        by_cases h0 : b' = 0
        · exact rtF_zero hc h0
        · exact rtF_out hc h0 rfl (c3 (b' - 1) (by omega))
      have hsame : ∀ b', 1 + F.steps.length ≤ b' → b' ≠ 0 ∧ runB (b' - 1) s.rows s.graphs s.box = F := fun b' h => ⟨by omega, c2 _ (by omega)⟩
      cases ho : F.opn with
      | false =>
        rw [rtF_shut hc hb0 hF hf ho] at hne ⊢
        simp only [NR.cost]
        exact ⟨by omega, by omega, fun b' h2 => rtF_shut hc (hsame b' h2).1 (hsame b' h2).2 hf ho, hlow⟩
      | true =>
        rw [rtF_cases hc hb0 hF hf ho] at hne ⊢
        obtain ⟨g1, g2, g3, g4⟩ := casesF_exact s F.steps F.box b s.cases 0 (1 + F.steps.length) [] (by omega) hne
        refine ⟨by omega, g2, fun b' h2 => ?_, fun b' h2 => ?_⟩
        · have h3 := hsame b' (by omega)
          rw [rtF_cases hc h3.1 h3.2 hf ho]
          exact g3 b' h2
        · by_cases hl : b' < 1 + F.steps.length
          · exact hlow b' hl
          · have h3 := hsame b' (by omega)
            rw [rtF_cases hc h3.1 h3.2 hf ho]
            exact g4 b' (by omega) h2
/-- the answer by the root's result -/
def ansF (F : NR) (bud : Int) : Ans := match F with
  | .out => ⟨2, 0, [], zTr, bud⟩
  | .sol vs i c => ⟨0, i, vs, zTr, c⟩
  | .ref t c => ⟨1, 0, [], t, c⟩
theorem findR_at {s : Sys} (h : validS s = true) (b : Nat) (hb : b ≤ 65536) : findR s (b : Int) = (ansF (rootF s b) b, 0) := by
  rw [findR, if_pos h, if_pos ⟨by omega, by omega⟩, Int.toNat_natCast]
  unfold ansF
  cases rootF s b <;> rfl
theorem ansF_kind (F : NR) (bud : Int) : (ansF F bud).kind = 2 ↔ F = .out := by cases F <;> simp [ansF]
theorem ansF_steps {F : NR} (h : F ≠ .out) (bud : Int) : (ansF F bud).steps = (F.cost : Int) := by
  cases F with
  | out => exact absurd rfl h
  | sol vs i c => rfl
  | ref t c => rfl
theorem ansF_same {F : NR} (h : F ≠ .out) (b c : Int) : ansF F b = ansF F c := by
  cases F with
  | out => exact absurd rfl h
  | sol vs i c => rfl
  | ref t c => rfl
/-- too small a budget -/
theorem find_less {s : Sys} (h : validS s = true) {b : Nat} (hb : b ≤ 65536) (hk : (findR s b).1.kind = 2) : (findR s b).1.steps = b ∧ ((findR s 65536).1.kind = 2 ∨ (b : Int) < (findR s 65536).1.steps) := by
  rw [show (65536 : Int) = ((65536 : Nat) : Int) from rfl, findR_at h b hb, findR_at h 65536 (Nat.le_refl _)] at *
  dsimp only at *
  have hr := (ansF_kind _ _).1 hk
  refine ⟨by rw [hr]; rfl, ?_⟩
  by_cases hM : rootF s 65536 = .out
  · exact .inl ((ansF_kind _ _).2 hM)
  · right
    rw [ansF_steps hM]
    obtain ⟨-, h2, h3, -⟩ := rootF_exact s 65536 hM
    rcases Nat.lt_or_ge b (rootF s 65536).cost with hl | hl
    · omega
    · exact absurd ((h3 b hl).symm.trans hr) hM
/-- enough -/
theorem find_enough {s : Sys} (h : validS s = true) {b : Nat} (hb : b ≤ 65536) (hk : (findR s b).1.kind ≠ 2) : ∃ c : Nat, (findR s b).1.steps = (c : Int) ∧ 1 ≤ c ∧ c ≤ b ∧ findR s 65536 = findR s b ∧ findR s (c : Int) = findR s b ∧ (findR s ((c : Int) - 1)).1.kind = 2 ∧ (findR s ((c : Int) - 1)).2 = 0 := by
  have hM := findR_at h 65536 (Nat.le_refl _)
  rw [findR_at h b hb] at hk ⊢
  dsimp only at hk ⊢
  have hr : rootF s b ≠ .out := fun e => hk ((ansF_kind _ _).2 e)
  obtain ⟨h1, h2, h3, h4⟩ := rootF_exact s b hr
  refine ⟨(rootF s b).cost, ansF_steps hr _, h1, h2, ?_, ?_, ?_⟩
  · show findR s ((65536 : Nat) : Int) = _
    rw [hM, h3 65536 (by omega), ansF_same hr]
  · rw [findR_at h _ (by omega), h3 _ (Nat.le_refl _), ansF_same hr]
  · have e : ((rootF s b).cost : Int) - 1 = (((rootF s b).cost - 1 : Nat) : Int) := by omega
    rw [e, findR_at h _ (by omega), h4 _ (by omega)]
    exact ⟨rfl, rfl⟩
end Go.Proofs.Ytlbhidiliogflaa
