
/-
Search: a node: how it ends; its parts in plain Lean.
-/
import Derived.Test.YtlbhidiliogflaaGreatSeI
namespace Go.Proofs.YtlbhidiliogflaaGreat
set_option linter.unusedSimpArgs false
set_option linter.unusedVariables false
open Go.RowKit

/-- half a range -/
def halfR (box : List Rng) (cell at_ : Int) (k : Nat) : Rng := if k = 0 then ⟨(pick box cell).lo, at_⟩ else ⟨at_ + 1, (pick box cell).hi⟩
/-- the halves from number k on -/
def splitF (rows : List Row) (grs : List Gr) (n : Nat) (ss : List Stp) (box : List Rng) (cell at_ : Int) (b : Nat) : Nat → Nat → List Tr → Nat → NR
  | 0, _, ts, c => .ref (.mk 1 ss cell at_ ts) c
  | j + 1, k, ts, c =>
    match nodeF rows grs n (box.set cell.toNat (halfR box cell at_ k)) (b - c) with
    | .out => .out
    | .sol vs _ d => .sol vs 0 (c + d)
    | .ref t d => splitF rows grs n ss box cell at_ b j (k + 1) (ts ++ [t]) (c + d)
/-- behind a kid -/
def kidF (F : NR) (i c : Nat) (K : Tr → Nat → NR) : NR := match F with
  | .out => .out
  | .sol vs _ d => .sol vs i (c + d)
  | .ref t d => K t (c + d)
theorem splitF_next (rows : List Row) (grs : List Gr) (n : Nat) (ss : List Stp) (box : List Rng) (cell at_ : Int) (b j k : Nat) (ts : List Tr) (c : Nat) :
    splitF rows grs n ss box cell at_ b (j + 1) k ts c = kidF (nodeF rows grs n (box.set cell.toNat (halfR box cell at_ k)) (b - c)) 0 c fun t c' => splitF rows grs n ss box cell at_ b j (k + 1) (ts ++ [t]) c' := by
  rw [splitF]
  unfold kidF
  cases nodeF rows grs n (box.set cell.toNat (halfR box cell at_ k)) (b - c) <;> rfl
theorem casesF_next (s : Sys) (ss : List Stp) (box : List Rng) (b i : Nat) (l : List Row) (ls : List (List Row)) (c : Nat) (ts : List Tr) :
    casesF s ss box b i (l :: ls) c ts = kidF (nodeF (s.rows ++ l) s.graphs (b - c) box (b - c)) i c fun t c' => casesF s ss box b (i + 1) ls c' (ts ++ [t]) := by
  rw [casesF]
  unfold kidF
  cases nodeF (s.rows ++ l) s.graphs (b - c) box (b - c) <;> rfl
section
variable {rows : List Row} {grs : List Gr} {n : Nat} {box : List Rng} {b : Nat} {F : PX}
theorem nodeF_zero (h : b = 0) : nodeF rows grs n box b = .out := by
  cases n with
  | zero => rfl
  | succ n => rw [nodeF, if_pos h]
theorem nodeF_out (hb : b ≠ 0) (hF : runB (b - 1) rows grs box = F) (h : F.fine = false) : nodeF rows grs (n + 1) box b = .out := by
  rw [nodeF, if_neg hb, hF, if_pos h]
theorem nodeF_shut (hb : b ≠ 0) (hF : runB (b - 1) rows grs box = F) (h : F.fine = true) (ho : F.opn = false) : nodeF rows grs (n + 1) box b = .ref (.mk 0 F.steps 0 0 []) (1 + F.steps.length) := by
  rw [nodeF, if_neg hb, hF, if_neg (by rw [h]; simp), if_pos ho]
theorem nodeF_sol (hb : b ≠ 0) (hF : runB (b - 1) rows grs box = F) (h : F.fine = true) (ho : F.opn = true) (hi : idxF wideR 0 F.box < 0) : nodeF rows grs (n + 1) box b = .sol (F.box.map (·.lo)) 0 (1 + F.steps.length) := by
  rw [nodeF, if_neg hb, hF, if_neg (by rw [h]; simp), if_neg (by rw [ho]; simp), if_pos hi]
theorem nodeF_split (hb : b ≠ 0) (hF : runB (b - 1) rows grs box = F) (h : F.fine = true) (ho : F.opn = true) (hi : ¬ idxF wideR 0 F.box < 0) :
    nodeF rows grs (n + 1) box b = splitF rows grs n F.steps F.box (idxF wideR 0 F.box) (middle (pick F.box (idxF wideR 0 F.box))) b 2 0 [] (1 + F.steps.length) := by
  rw [nodeF, if_neg hb, hF, if_neg (by rw [h]; simp), if_neg (by rw [ho]; simp), if_neg hi]
  have e0 : halfR F.box (idxF wideR 0 F.box) (middle (pick F.box (idxF wideR 0 F.box))) 0 = ⟨(pick F.box (idxF wideR 0 F.box)).lo, middle (pick F.box (idxF wideR 0 F.box))⟩ := rfl
  have e1 : halfR F.box (idxF wideR 0 F.box) (middle (pick F.box (idxF wideR 0 F.box))) (0 + 1) = ⟨middle (pick F.box (idxF wideR 0 F.box)) + 1, (pick F.box (idxF wideR 0 F.box)).hi⟩ := rfl
  rw [splitF, e0]
  cases h1 : nodeF rows grs n (F.box.set (idxF wideR 0 F.box).toNat ⟨(pick F.box (idxF wideR 0 F.box)).lo, middle (pick F.box (idxF wideR 0 F.box))⟩) (b - (1 + F.steps.length)) with
  | out => rfl
  | sol vs i d => rfl
  | ref t d =>
    dsimp only
    rw [splitF, e1]
    cases h2 : nodeF rows grs n (F.box.set (idxF wideR 0 F.box).toNat ⟨middle (pick F.box (idxF wideR 0 F.box)) + 1, (pick F.box (idxF wideR 0 F.box)).hi⟩) (b - (1 + F.steps.length + d)) with
    | out => rfl
    | sol vs i d => rfl
    | ref u d2 => rfl
end
theorem OwF.own {α : Type} {enc : α → List Value} {e size base z : Nat} {w : World} {v : Value} {l : List α} (h : Own enc e size base w v l) (hz : ∀ q, v.ownBlock = some q → z ≤ q) : OwF (fun q => q < z) w fun w' => Own enc e size base w' v l :=
  fun w' k => h.fx k fun q hq e => by have := hz q hq; omega
/-- how a node ends: z: the blocks from z on are new -/
def NodeR (w : World) (n b c : Nat) (ch : Int) (vb : Value) (bw : Nat) (x0 x1 x2 x3 x4 : Value) (F : NR) (e : Ending) (w' : World) : Prop :=
  match F with
  | .out => e = .panicked Pn ∧ Fx (PW bw vb) w w'
  | .sol vs _ d => c + d ≤ b ∧ Fx (PW bw vb) w w' ∧ Bx w' bw [x0, x1, x2, x3, x4, .int .i64 (b : Int), .int .i64 ((c + d : Nat) : Int)] ∧
      ∃ g cp, e = .returned (.agg #[.slice (some ⟨g, 0, none⟩) vs.length cp, .int .i64 (max ch 0), .int .i64 0, .slice none 0 0, .int .i64 0, .int .i64 0, .slice none 0 0]) ∧ Own encInt 3 1 w.heap.size w' (.slice (some ⟨g, 0, none⟩) vs.length cp) vs
  | .ref t d => c + d ≤ b ∧ Fx (PW bw vb) w w' ∧ Bx w' bw [x0, x1, x2, x3, x4, .int .i64 (b : Int), .int .i64 ((c + d : Nat) : Int)] ∧
      ∃ y0 y1 y2 y3 y4, e = .returned (.agg #[.slice none 0 0, .int .i64 0, y0, y1, y2, y3, y4]) ∧ OwF (fun q => q < w.heap.size) w' fun w2 => rdTr n w2 [y0, y1, y2, y3, y4] t
theorem KI.kids {zp n z : Nat} {w : World} {vk : Value} {css : List (Elm 5)} {ts : List Tr} (h : KI zp n w vk css ts) (hz : z ≤ zp) (hv : ∀ q, vk.ownBlock = some q → z ≤ q) : OwF (fun q => q < z) w fun w' => Sl (rdTr n) 5 w' vk ts :=
  fun w' k => sl_of ((h.own.fx k fun q hq e => by have := hv q hq; omega).sl encC_len) h.len fun i h1 h2 => ((h.els i h1 h2).mono (Y := fun q => q < z) fun q hq => .inl (Nat.lt_of_lt_of_le hq hz)) w' k
end Go.Proofs.YtlbhidiliogflaaGreat
