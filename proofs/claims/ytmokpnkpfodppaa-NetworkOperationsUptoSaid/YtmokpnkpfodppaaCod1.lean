
/-
Plain facts on numbers of values: what is written, how it is read, that reading what was written gives it back, and nothing else does. No program in sight.
-/
import Derived.Test.YtmokpnkpfodppaaLib
namespace Go.Proofs.Ytmokpnkpfodppaa
set_option linter.unusedSimpArgs false
set_option linter.unusedVariables false
open Go.RowKit

structure Need where
  kind : Int
  index : Int
  element : Int
  amount : Int
structure Event where
  replica : Int
  number : Int
  time : Int
  past : List Int
  kind : Int
  action : Int
  give : Need
  to : Int
  place : Int
  serial : Int
structure Mark where
  replica : Int
  number : Int
  time : Int
  value : Int
structure Merged where
  put : Bool
  drop : Bool
  marks : List Mark
structure Base where
  clock : List Int
  time : Int
  state : List Int
  merged : List Merged
  rights : List (List Int)
  shares : List (List (List Int))
  places : List Int
structure Span where
  replica : Int
  first : Int
  last : Int
structure Ask where
  number : Int
  place : Int
  time : Int
  replica : Int
  serial : Int
  needs : List Need
structure Entry where
  term : Int
  kind : Int
  replica : Int
  serial : Int
  action : Int
  voters : List Int
structure Message where
  kind : Int
  sender : Int
  to : Int
  clock : List Int
  events : List Event
  spans : List Span
  ask : Ask
  term : Int
  index : Int
  logTerm : Int
  commit : Int
  granted : Bool
  entries : List Entry
structure Record where
  kind : Int
  event : Event
  base : Base
  term : Int
  vote : Int
  index : Int
  entry : Entry

/-! what is written -/
def numB (b : Bool) : Int := if b then 1 else 0
def numL {α : Type} (f : α → List Int) (l : List α) : List Int := (l.length : Int) :: l.flatMap f
def numI (n : Int) : List Int := [n]
def numIs (l : List Int) : List Int := numL numI l
def numNeed (n : Need) : List Int := [n.kind, n.index, n.element, n.amount]
def numEvent (e : Event) : List Int := [e.replica, e.number, e.time] ++ numIs e.past ++ [e.kind, e.action] ++ numNeed e.give ++ [e.to, e.place, e.serial]
def numMark (m : Mark) : List Int := [m.replica, m.number, m.time, m.value]
def numMerged (m : Merged) : List Int := [numB m.put, numB m.drop] ++ numL numMark m.marks
def numBase (b : Base) : List Int := numIs b.clock ++ [b.time] ++ numIs b.state ++ numL numMerged b.merged ++ numL numIs b.rights ++ numL (numL numIs) b.shares ++ numIs b.places
def numSpan (s : Span) : List Int := [s.replica, s.first, s.last]
def numAsk (a : Ask) : List Int := [a.number, a.place, a.time, a.replica, a.serial] ++ numL numNeed a.needs
def numEntry (e : Entry) : List Int := [e.term, e.kind, e.replica, e.serial, e.action] ++ numIs e.voters
def numMessage (m : Message) : List Int := [m.kind, m.sender, m.to] ++ numIs m.clock ++ numL numEvent m.events ++ numL numSpan m.spans ++ numAsk m.ask ++ [m.term, m.index, m.logTerm, m.commit, numB m.granted] ++ numL numEntry m.entries

/-! how it is read -/
abbrev Ps (α : Type) := List Int → Option (α × List Int)
def retP {α : Type} (x : α) : Ps α := fun l => some (x, l)
def bindP {α β : Type} (P : Ps α) (Q : α → Ps β) : Ps β := fun l => match P l with | none => none | some (x, l') => Q x l'
def noP {α : Type} : Ps α := fun _ => none
def intP : Ps Int := fun l => match l with | [] => none | n :: l => some (n, l)
def boolP : Ps Bool := fun l => match l with | [] => none | n :: l => if n = 0 then some (false, l) else if n = 1 then some (true, l) else none
def loopP {α : Type} (P : Ps α) : Nat → Ps (List α)
  | 0 => retP []
  | n + 1 => bindP P fun x => bindP (loopP P n) fun l => retP (x :: l)
def lenP : Ps Nat := fun l => match l with | [] => none | n :: l => if n < 0 ∨ (l.length : Int) < n then none else some (n.toNat, l)
def listP {α : Type} (P : Ps α) : Ps (List α) := bindP lenP (loopP P)
def intsP : Ps (List Int) := listP intP
def needP : Ps Need := bindP intP fun a => bindP intP fun b => bindP intP fun c => bindP intP fun d => retP ⟨a, b, c, d⟩
def eventP : Ps Event := bindP intP fun a => bindP intP fun b => bindP intP fun c => bindP intsP fun d => bindP intP fun e => bindP intP fun f => bindP needP fun g => bindP intP fun h => bindP intP fun i => bindP intP fun j => retP ⟨a, b, c, d, e, f, g, h, i, j⟩
def markP : Ps Mark := bindP intP fun a => bindP intP fun b => bindP intP fun c => bindP intP fun d => retP ⟨a, b, c, d⟩
def mergedP : Ps Merged := bindP boolP fun a => bindP boolP fun b => bindP (listP markP) fun c => retP ⟨a, b, c⟩
def baseP : Ps Base := bindP intsP fun a => bindP intP fun b => bindP intsP fun c => bindP (listP mergedP) fun d => bindP (listP intsP) fun e => bindP (listP (listP intsP)) fun f => bindP intsP fun g => retP ⟨a, b, c, d, e, f, g⟩
def spanP : Ps Span := bindP intP fun a => bindP intP fun b => bindP intP fun c => retP ⟨a, b, c⟩
def askP : Ps Ask := bindP intP fun a => bindP intP fun b => bindP intP fun c => bindP intP fun d => bindP intP fun e => bindP (listP needP) fun f => retP ⟨a, b, c, d, e, f⟩
def entryP : Ps Entry := bindP intP fun a => bindP intP fun b => bindP intP fun c => bindP intP fun d => bindP intP fun e => bindP intsP fun f => retP ⟨a, b, c, d, e, f⟩
def messageP : Ps Message := bindP intP fun a => bindP intP fun b => bindP intP fun c => bindP intsP fun d => bindP (listP eventP) fun e => bindP (listP spanP) fun f => bindP askP fun g => bindP intP fun h => bindP intP fun i => bindP intP fun j => bindP intP fun k => bindP boolP fun m => bindP (listP entryP) fun n => retP ⟨a, b, c, d, e, f, g, h, i, j, k, m, n⟩

/-! reading what was written gives it back, and nothing else does -/
def Good {α : Type} (P : Ps α) (f : α → List Int) : Prop := ∀ l x l', P l = some (x, l') ↔ l = f x ++ l'
theorem bindP_some {α β : Type} (P : Ps α) (Q : α → Ps β) (l : List Int) (y : β) (l'' : List Int) : bindP P Q l = some (y, l'') ↔ ∃ x l', P l = some (x, l') ∧ Q x l' = some (y, l'') := by
  unfold bindP
  cases P l with
  | none => simp
  | some q =>
    obtain ⟨x, l'⟩ := q
    constructor
    · intro h; exact ⟨x, l', rfl, h⟩
    · rintro ⟨x', l1, h1, h2⟩
      simp only [Option.some.injEq, Prod.mk.injEq] at h1
      obtain ⟨rfl, rfl⟩ := h1
      exact h2
theorem retP_some {α : Type} (x y : α) (l l' : List Int) : retP x l = some (y, l') ↔ x = y ∧ l = l' := by simp [retP]
theorem intP_good : Good intP numI := by
  intro l x l'
  unfold intP numI
  cases l with
  | nil => simp
  | cons n l => simp
theorem boolP_good : Good boolP (fun b => [numB b]) := by
  intro l x l'
  unfold boolP numB
  cases l with
  | nil => simp
  | cons n l =>
    by_cases h0 : n = 0
    · subst h0; cases x <;> simp
    · by_cases h1 : n = 1
      · subst h1; cases x <;> simp
      · cases x <;> simp [h0, h1]
theorem loopP_good {α : Type} {P : Ps α} {f : α → List Int} (h : Good P f) : ∀ (n : Nat) (l : List Int) (x : List α) (l' : List Int), loopP P n l = some (x, l') ↔ x.length = n ∧ l = x.flatMap f ++ l'
  | 0, l, x, l' => by
    unfold loopP
    rw [retP_some]
    constructor
    · rintro ⟨rfl, rfl⟩; simp
    · rintro ⟨h1, h2⟩
      have : x = [] := List.eq_nil_of_length_eq_zero h1
      subst this
      exact ⟨rfl, by simpa using h2⟩
  | n + 1, l, x, l' => by
    unfold loopP
    rw [bindP_some]
    constructor
    · rintro ⟨a, l1, h1, h2⟩
      rw [bindP_some] at h2
      obtain ⟨b, l2, h3, h4⟩ := h2
      rw [retP_some] at h4
      obtain ⟨rfl, rfl⟩ := h4
      rw [loopP_good h n] at h3
      rw [h] at h1
      obtain ⟨h5, rfl⟩ := h3
      exact ⟨by simp [h5], by rw [h1]; simp⟩
    · rintro ⟨h1, h2⟩
      cases x with
      | nil => simp at h1
      | cons a b =>
        refine ⟨a, b.flatMap f ++ l', (h _ _ _).2 (by rw [h2]; simp), ?_⟩
        rw [bindP_some]
        exact ⟨b, l', (loopP_good h n _ _ _).2 ⟨by simpa using h1, rfl⟩, rfl⟩
theorem flat_len {α : Type} {f : α → List Int} (hf : ∀ x, 1 ≤ (f x).length) : ∀ (l : List α), l.length ≤ (l.flatMap f).length
  | [] => by simp
  | x :: l => by
    have := hf x
    have := flat_len hf l
    rw [List.flatMap_cons, List.length_append, List.length_cons]
    omega
theorem listP_good {α : Type} {P : Ps α} {f : α → List Int} (h : Good P f) (hf : ∀ x, 1 ≤ (f x).length) : Good (listP P) (numL f) := by
  intro l x l'
  unfold listP numL
  rw [bindP_some]
  constructor
  · rintro ⟨n, l1, h1, h2⟩
    rw [loopP_good h] at h2
    obtain ⟨h3, rfl⟩ := h2
    unfold lenP at h1
    cases l with
    | nil => cases h1
    | cons m l =>
      dsimp only at h1
      split at h1
      · cases h1
      · simp only [Option.some.injEq, Prod.mk.injEq] at h1
        obtain ⟨h4, rfl⟩ := h1
        have : m = (x.length : Int) := by omega
        rw [this]
        rfl
  · rintro rfl
    refine ⟨x.length, x.flatMap f ++ l', ?_, (loopP_good h _ _ _ _).2 ⟨rfl, rfl⟩⟩
    have := flat_len hf x
    unfold lenP
    simp only [List.cons_append]
    rw [if_neg (by rw [List.length_append]; omega)]
    simp
theorem numL_pos {α : Type} (f : α → List Int) (l : List α) : 1 ≤ (numL f l).length := by simp [numL]
theorem intsP_good : Good intsP numIs := listP_good intP_good (by simp [numI])
/-- the steps of a value of several parts -/
theorem step_good {α β : Type} {P : Ps α} {f : α → List Int} (h : Good P f) (Q : α → Ps β) (l : List Int) (y : β) (l'' : List Int) : bindP P Q l = some (y, l'') ↔ ∃ x l', l = f x ++ l' ∧ Q x l' = some (y, l'') := by
  rw [bindP_some]
  constructor
  · rintro ⟨x, l', h1, h2⟩; exact ⟨x, l', (h _ _ _).1 h1, h2⟩
  · rintro ⟨x, l', h1, h2⟩; exact ⟨x, l', (h _ _ _).2 h1, h2⟩
theorem needP_good : Good needP numNeed := by
  intro l x l'
  unfold needP
  constructor
  · intro h
    simp only [step_good intP_good, retP_some] at h
    obtain ⟨_, _, rfl, _, _, rfl, _, _, rfl, _, _, rfl, rfl, rfl⟩ := h
    simp [numNeed, numI]
  · rintro rfl
    simp only [step_good intP_good, retP_some]
    exact ⟨_, _, rfl, _, _, rfl, _, _, rfl, _, _, rfl, rfl, rfl⟩
theorem markP_good : Good markP numMark := by
  intro l x l'
  unfold markP
  constructor
  · intro h
    simp only [step_good intP_good, retP_some] at h
    obtain ⟨_, _, rfl, _, _, rfl, _, _, rfl, _, _, rfl, rfl, rfl⟩ := h
    simp [numMark, numI]
  · rintro rfl
    simp only [step_good intP_good, retP_some]
    exact ⟨_, _, rfl, _, _, rfl, _, _, rfl, _, _, rfl, rfl, rfl⟩
theorem spanP_good : Good spanP numSpan := by
  intro l x l'
  unfold spanP
  constructor
  · intro h
    simp only [step_good intP_good, retP_some] at h
    obtain ⟨_, _, rfl, _, _, rfl, _, _, rfl, rfl, rfl⟩ := h
    simp [numSpan, numI]
  · rintro rfl
    simp only [step_good intP_good, retP_some]
    exact ⟨_, _, rfl, _, _, rfl, _, _, rfl, rfl, rfl⟩
theorem eventP_good : Good eventP numEvent := by
  intro l x l'
  unfold eventP
  constructor
  · intro h
    simp only [step_good intP_good, step_good intsP_good, step_good needP_good, retP_some] at h
    obtain ⟨_, _, rfl, _, _, rfl, _, _, rfl, _, _, rfl, _, _, rfl, _, _, rfl, _, _, rfl, _, _, rfl, _, _, rfl, _, _, rfl, rfl, rfl⟩ := h
    simp [numEvent, numI]
  · rintro rfl
    simp only [step_good intP_good, step_good intsP_good, step_good needP_good, retP_some]
    exact ⟨x.replica, _, by simp only [numEvent, numI, List.append_assoc, List.cons_append, List.nil_append], x.number, _, rfl, x.time, _, rfl, x.past, _, rfl, x.kind, _, rfl, x.action, _, rfl, x.give, _, rfl, x.to, _, rfl, x.place, _, rfl, x.serial, _, rfl, rfl, rfl⟩
theorem mergedP_good : Good mergedP numMerged := by
  intro l x l'
  unfold mergedP
  have hm := listP_good markP_good (by simp [numMark])
  constructor
  · intro h
    simp only [step_good boolP_good, step_good hm, retP_some] at h
    obtain ⟨_, _, rfl, _, _, rfl, _, _, rfl, rfl, rfl⟩ := h
    simp [numMerged]
  · rintro rfl
    simp only [step_good boolP_good, step_good hm, retP_some]
    exact ⟨x.put, _, by simp only [numMerged, List.append_assoc, List.cons_append, List.nil_append], x.drop, _, rfl, x.marks, _, rfl, rfl, rfl⟩
theorem baseP_good : Good baseP numBase := by
  intro l x l'
  unfold baseP
  have h1 := listP_good mergedP_good (by simp [numMerged])
  have h2 := listP_good intsP_good (fun l => numL_pos _ l)
  have h3 := listP_good h2 (fun l => numL_pos _ l)
  constructor
  · intro h
    simp only [step_good intP_good, step_good intsP_good, step_good h1, step_good h2, step_good h3, retP_some] at h
    obtain ⟨_, _, rfl, _, _, rfl, _, _, rfl, _, _, rfl, _, _, rfl, _, _, rfl, _, _, rfl, rfl, rfl⟩ := h
    simp [numBase, numI]
  · rintro rfl
    simp only [step_good intP_good, step_good intsP_good, step_good h1, step_good h2, step_good h3, retP_some]
    exact ⟨x.clock, _, by simp only [numBase, List.append_assoc]; rfl, x.time, _, rfl, x.state, _, rfl, x.merged, _, rfl, x.rights, _, rfl, x.shares, _, rfl, x.places, _, rfl, rfl, rfl⟩
theorem askP_good : Good askP numAsk := by
  intro l x l'
  unfold askP
  have hm := listP_good needP_good (by simp [numNeed])
  constructor
  · intro h
    simp only [step_good intP_good, step_good hm, retP_some] at h
    obtain ⟨_, _, rfl, _, _, rfl, _, _, rfl, _, _, rfl, _, _, rfl, _, _, rfl, rfl, rfl⟩ := h
    simp [numAsk, numI]
  · rintro rfl
    simp only [step_good intP_good, step_good hm, retP_some]
    exact ⟨x.number, _, by simp only [numAsk, numI, List.append_assoc, List.cons_append, List.nil_append], x.place, _, rfl, x.time, _, rfl, x.replica, _, rfl, x.serial, _, rfl, x.needs, _, rfl, rfl, rfl⟩
theorem entryP_good : Good entryP numEntry := by
  intro l x l'
  unfold entryP
  constructor
  · intro h
    simp only [step_good intP_good, step_good intsP_good, retP_some] at h
    obtain ⟨_, _, rfl, _, _, rfl, _, _, rfl, _, _, rfl, _, _, rfl, _, _, rfl, rfl, rfl⟩ := h
    simp [numEntry, numI]
  · rintro rfl
    simp only [step_good intP_good, step_good intsP_good, retP_some]
    exact ⟨x.term, _, by simp only [numEntry, numI, List.append_assoc, List.cons_append, List.nil_append], x.kind, _, rfl, x.replica, _, rfl, x.serial, _, rfl, x.action, _, rfl, x.voters, _, rfl, rfl, rfl⟩
theorem messageP_good : Good messageP numMessage := by
  intro l x l'
  unfold messageP
  have h1 := listP_good eventP_good (by simp [numEvent])
  have h2 := listP_good spanP_good (by simp [numSpan])
  have h3 := listP_good entryP_good (by simp [numEntry])
  constructor
  · intro h
    simp only [step_good intP_good, step_good intsP_good, step_good boolP_good, step_good askP_good, step_good h1, step_good h2, step_good h3, retP_some] at h
    obtain ⟨_, _, rfl, _, _, rfl, _, _, rfl, _, _, rfl, _, _, rfl, _, _, rfl, _, _, rfl, _, _, rfl, _, _, rfl, _, _, rfl, _, _, rfl, _, _, rfl, _, _, rfl, rfl, rfl⟩ := h
    simp [numMessage, numI]
  · rintro rfl
    simp only [step_good intP_good, step_good intsP_good, step_good boolP_good, step_good askP_good, step_good h1, step_good h2, step_good h3, retP_some]
    exact ⟨x.kind, _, by simp only [numMessage, numI, List.append_assoc, List.cons_append, List.nil_append], x.sender, _, rfl, x.to, _, rfl, x.clock, _, rfl, x.events, _, rfl, x.spans, _, rfl, x.ask, _, rfl, x.term, _, rfl, x.index, _, rfl, x.logTerm, _, rfl, x.commit, _, rfl, x.granted, _, rfl, x.entries, _, rfl, rfl, rfl⟩
end Go.Proofs.Ytmokpnkpfodppaa
