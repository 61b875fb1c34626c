
/-
Search: what propagation and search compute, in plain Lean: steps, boxes, nodes.
-/
import Derived.Test.YtlbhidiliogflaaGreatSG
import Derived.Test.YtlbhidiliogflaaGreatDB
import Derived.Test.YtlbhidiliogflaaGreatDA
import Derived.Test.YtlbhidiliogflaaGreatIB
namespace Go.Proofs.YtlbhidiliogflaaGreat
set_option linter.unusedSimpArgs false
set_option linter.unusedVariables false
open Go.RowKit

/-- a step -/
structure Stp where
  kind : Int
  index : Int
  cell : Int
/-- a tree -/
inductive Tr : Type
  | mk (kind : Int) (steps : List Stp) (cell at_ : Int) (kids : List Tr) : Tr
def encStp (s : Stp) : List Value := [.int .i64 s.kind, .int .i64 s.index, .int .i64 s.cell]
theorem encStp_len (s : Stp) : (encStp s).length = 3 := rfl
theorem encStp_one (s : Stp) : ∀ u ∈ encStp s, u.oneCell' = true := by simp [encStp, Value.oneCell']
abbrev Stps := Sl (Pl encStp) 3

/-- the state of a propagation -/
structure PX where
  steps : List Stp
  box : List Rng
  opn : Bool
  fine : Bool
def sameR (a b : Rng) : Bool := a.lo == b.lo && a.hi == b.hi
theorem sameR_iff {a b : Rng} : sameR a b = true ↔ a = b := by
  obtain ⟨a1, a2⟩ := a
  obtain ⟨b1, b2⟩ := b
  simp [sameR]
def noteX (b : Nat) (x : PX) (kind index cell : Int) (r : Rng) : PX :=
  if b ≤ x.steps.length then ⟨x.steps, x.box, false, false⟩
  else if cell < 0 ∨ r.hi < r.lo then ⟨x.steps ++ [⟨kind, index, cell⟩], x.box, false, x.fine⟩
  else ⟨x.steps ++ [⟨kind, index, cell⟩], x.box.set cell.toNat r, x.opn, x.fine⟩
def presB (g : Gr) (b : List Rng) : List Bool := (List.range g.least.length).map fun j => decide (g.least.getD j 0 ≤ (pick b (g.first + (j : Int))).lo)
theorem presB_len (g : Gr) (b : List Rng) : (presB g b).length = g.least.length := by simp [presB]
def closB (g : Gr) (b : List Rng) (k : Nat) : Bool := !decide ((pathPub g.size (presB g b) ((k : Int).tmod g.size) ((k : Int).tdiv g.size)).length = 0)
def cutG (g : Gr) (b : List Rng) (k : Nat) : Rng :=
  if g.least.getD k 0 ≤ (pick b (g.first + (k : Int))).hi ∧ closB g b k = true then ⟨(pick b (g.first + (k : Int))).lo, g.least.getD k 0 - 1⟩ else pick b (g.first + (k : Int))
/-- what a pass asks, one after the other -/
inductive Tsk : Type
  | dead (i : Nat) : Tsk
  | row (i : Nat) (r : Row) (c : Int) : Tsk
  | gr (i : Nat) (g : Gr) (k : Nat) : Tsk
def doT (b : Nat) (x : PX) : Tsk → PX
  | .dead i => if x.opn then noteX b x 0 i (-1) ⟨0, 0⟩ else x
  | .row i r c => if x.opn then (if sameR (tightenB r x.box c) (pick x.box c) then x else noteX b x 0 i c (tightenB r x.box c)) else x
  | .gr i g k => if x.opn then (if sameR (cutG g x.box k) (pick x.box (g.first + (k : Int))) then x else noteX b x 1 i (g.first + (k : Int)) (cutG g x.box k)) else x
def rowT (i : Nat) (r : Row) : List Tsk := (if r.terms.isEmpty && decide (r.bound < 0) then [.dead i] else []) ++ r.terms.map fun t => .row i r t.cell
def rowsT : Nat → List Row → List Tsk
  | _, [] => []
  | i, r :: l => rowT i r ++ rowsT (i + 1) l
def grT (i : Nat) (g : Gr) : List Tsk := (List.range g.least.length).map (.gr i g)
def grsT : Nat → List Gr → List Tsk
  | _, [] => []
  | i, g :: l => grT i g ++ grsT (i + 1) l
def tasks (rows : List Row) (grs : List Gr) : List Tsk := rowsT 0 rows ++ grsT 0 grs
def runT (b : Nat) (x : PX) (l : List Tsk) : PX := l.foldl (doT b) x
def runX (b : Nat) (rows : List Row) (grs : List Gr) : Nat → PX → PX
  | 0, x => x
  | n + 1, x => if (runT b x (tasks rows grs)).opn && !decide ((runT b x (tasks rows grs)).steps.length = x.steps.length) then runX b rows grs n (runT b x (tasks rows grs)) else runT b x (tasks rows grs)
def runB (b : Nat) (rows : List Row) (grs : List Gr) (box : List Rng) : PX := runX b rows grs (b + 1) ⟨[], box, true, true⟩
/-- steps, box, open, error -/
def propR (s : Sys) (box : List Rng) (bud : Int) : List Stp × List Rng × Bool × Int :=
  if validS s = true ∧ box.length = s.box.length ∧ boxB box = true ∧ box.any emptyR = false then
    if 0 ≤ bud ∧ bud ≤ 65536 then
      if (runB bud.toNat s.rows s.graphs box).fine = false then ([], [], false, 14)
      else if (runB bud.toNat s.rows s.graphs box).opn = false then ((runB bud.toNat s.rows s.graphs box).steps, [], false, 0)
      else ((runB bud.toNat s.rows s.graphs box).steps, (runB bud.toNat s.rows s.graphs box).box, true, 0)
    else ([], [], false, 2)
  else ([], [], false, 1)

/-- what a node finds, and its cost -/
inductive NR : Type
  | out : NR
  | sol (vs : List Int) (i : Nat) (cost : Nat) : NR
  | ref (t : Tr) (cost : Nat) : NR
def wideR (r : Rng) : Bool := decide (r.lo < r.hi)
def nodeF (rows : List Row) (grs : List Gr) : Nat → List Rng → Nat → NR
  | 0, _, _ => .out
  | n + 1, box, b =>
    if b = 0 then .out
    else if (runB (b - 1) rows grs box).fine = false then .out
    else if (runB (b - 1) rows grs box).opn = false then .ref (.mk 0 (runB (b - 1) rows grs box).steps 0 0 []) (1 + (runB (b - 1) rows grs box).steps.length)
    else if idxF wideR 0 (runB (b - 1) rows grs box).box < 0 then .sol ((runB (b - 1) rows grs box).box.map (·.lo)) 0 (1 + (runB (b - 1) rows grs box).steps.length)
    else
      match nodeF rows grs n ((runB (b - 1) rows grs box).box.set (idxF wideR 0 (runB (b - 1) rows grs box).box).toNat ⟨(pick (runB (b - 1) rows grs box).box (idxF wideR 0 (runB (b - 1) rows grs box).box)).lo, middle (pick (runB (b - 1) rows grs box).box (idxF wideR 0 (runB (b - 1) rows grs box).box))⟩) (b - (1 + (runB (b - 1) rows grs box).steps.length)) with
      | .out => .out
      | .sol vs _ c => .sol vs 0 (1 + (runB (b - 1) rows grs box).steps.length + c)
      | .ref t c =>
        match nodeF rows grs n ((runB (b - 1) rows grs box).box.set (idxF wideR 0 (runB (b - 1) rows grs box).box).toNat ⟨middle (pick (runB (b - 1) rows grs box).box (idxF wideR 0 (runB (b - 1) rows grs box).box)) + 1, (pick (runB (b - 1) rows grs box).box (idxF wideR 0 (runB (b - 1) rows grs box).box)).hi⟩) (b - (1 + (runB (b - 1) rows grs box).steps.length + c)) with
        | .out => .out
        | .sol vs _ d => .sol vs 0 (1 + (runB (b - 1) rows grs box).steps.length + c + d)
        | .ref u d => .ref (.mk 1 (runB (b - 1) rows grs box).steps (idxF wideR 0 (runB (b - 1) rows grs box).box) (middle (pick (runB (b - 1) rows grs box).box (idxF wideR 0 (runB (b - 1) rows grs box).box))) [t, u]) (1 + (runB (b - 1) rows grs box).steps.length + c + d)
/-- the cases from number i on; c is the cost so far, ts the trees so far -/
def casesF (s : Sys) (ss : List Stp) (box : List Rng) (b : Nat) : Nat → List (List Row) → Nat → List Tr → NR
  | _, [], c, ts => .ref (.mk 2 ss 0 0 ts) c
  | i, l :: ls, c, ts =>
    match nodeF (s.rows ++ l) s.graphs (b - c) box (b - c) with
    | .out => .out
    | .sol vs _ d => .sol vs i (c + d)
    | .ref t d => casesF s ss box b (i + 1) ls (c + d) (ts ++ [t])
def rootF (s : Sys) (b : Nat) : NR :=
  if s.cases.isEmpty then nodeF s.rows s.graphs b s.box b
  else if b = 0 then .out
  else if (runB (b - 1) s.rows s.graphs s.box).fine = false then .out
  else if (runB (b - 1) s.rows s.graphs s.box).opn = false then .ref (.mk 0 (runB (b - 1) s.rows s.graphs s.box).steps 0 0 []) (1 + (runB (b - 1) s.rows s.graphs s.box).steps.length)
  else casesF s (runB (b - 1) s.rows s.graphs s.box).steps (runB (b - 1) s.rows s.graphs s.box).box b 0 s.cases (1 + (runB (b - 1) s.rows s.graphs s.box).steps.length) []
/-- an answer -/
structure Ans where
  kind : Int
  case : Int
  values : List Int
  tree : Tr
  steps : Int
def zTr : Tr := .mk 0 [] 0 0 []
def findR (s : Sys) (bud : Int) : Ans × Int :=
  if validS s = true then
    if 0 ≤ bud ∧ bud ≤ 65536 then
      match rootF s bud.toNat with
      | .out => (⟨2, 0, [], zTr, bud⟩, 0)
      | .sol vs i c => (⟨0, i, vs, zTr, c⟩, 0)
      | .ref t c => (⟨1, 0, [], t, c⟩, 0)
    else (⟨0, 0, [], zTr, 0⟩, 2)
  else (⟨0, 0, [], zTr, 0⟩, 1)
def allR (s : Sys) (most : Int) : List (List Int) × Int :=
  if validS s = true then
    if 0 ≤ most ∧ most ≤ 1024 then
      if 65536 < sizeB s.box then ([], 8)
      else if most < (((allS s.box).filter (holdsS s)).length : Int) then ([], 8) else ((allS s.box).filter (holdsS s), 0)
    else ([], 2)
  else ([], 1)
end Go.Proofs.YtlbhidiliogflaaGreat
