/-
Networks: fates, links, ticks: the walks.
The cuts of a network: a map keyed by pairs: what a look-up yields; whether two replicas are linked.
What a network is; a new one; what it tells: the walks.
What sending does to a network: plain facts.
-/
import Derived.Test.YtmokpnkpfodppaaHR
namespace Go.Proofs.Ytmokpnkpfodppaa
set_option linter.unusedSimpArgs false
set_option linter.unusedVariables false
open Go.RowKit

structure Fate where
  drop : Bool
  delay : Int
  again : Int
instance : Inhabited Fate := ⟨⟨false, 0, 0⟩⟩
def encFate (f : Fate) : List Value := [.bool f.drop, .int .i64 f.delay, .int .i64 f.again]
theorem encFate_len (f : Fate) : (encFate f).length = 3 := rfl
theorem encFate_one (f : Fate) : ∀ u ∈ encFate f, u.oneCell' = true := by simp [encFate, Value.oneCell']
abbrev Fates := Sl (Pl encFate) 3
theorem stFateM : SliceT Try.prog 48 47 3 24 := SliceT.mk' Try.underlying48 (z := .agg #[.bool false, .int .i64 0, .int .i64 0]) (by kernel_rfl) rfl (by omega)
theorem Sl.fate {w : World} {A : Option Addr} {n c : Nat} {l : List Fate} (h : Fates w (.slice A n c) l) {k : Nat} (hk : k < l.length) :
    ∃ b o, A = some ⟨b, o, none⟩ ∧ b < w.heap.size ∧ w.cell? ⟨b, o + k * 3, none⟩ = some (.bool l[k].drop) ∧ w.cell? ⟨b, o + k * 3 + 1, none⟩ = some (.int .i64 l[k].delay) ∧ w.cell? ⟨b, o + k * 3 + 2, none⟩ = some (.int .i64 l[k].again) := by
  obtain ⟨b, o, cs, hA, hb, hcs, hc, hr⟩ := h.at_ hk
  unfold Pl encFate at hr
  subst hr
  exact ⟨b, o, hA, hb, hc 0 _ rfl, hc 1 _ rfl, hc 2 _ rfl⟩
def validF (f : Fate) : Bool := if f.drop then decide (f.delay = 0) && decide (f.again = 0) else decide (1 ≤ f.delay) && decide (f.delay ≤ 1024) && decide (0 ≤ f.again) && decide (f.again ≤ 1024)
set_option maxHeartbeats 800000 in
theorem nValid_any (d : Bool) (y g : Int) (w : World) : Calls Try.prog 35 #[.agg #[.bool d, .int .i64 y, .int .i64 g]] w fun e w' => e = .returned (.bool (validF ⟨d, y, g⟩)) ∧ Kp w w' := by
  go_enter Try.func35, Try.ntmps35
  cases d with
  | true =>
    by_cases h1 : y = 0
    · by_cases h2 : g = 0
      · subst h1 h2
        go_wp2
        go_ret
        exact ⟨by simp [validF, *], (Kp.refl w).alloc _⟩
      · have e1 : (g == 0) = false := by simpa using h2
        subst h1
        go_wp2
        go_ret
        exact ⟨by simp [validF, *], (Kp.refl w).alloc _⟩
    · have e1 : (y == 0) = false := by simpa using h1
      go_wp2
      go_ret
      exact ⟨by simp [validF, *], (Kp.refl w).alloc _⟩
  | false =>
    by_cases h1 : 1 ≤ y
    · have e1 : decide (1 ≤ y) = true := decide_eq_true h1
      by_cases h2 : y ≤ 1024
      · have e2 : decide (y ≤ 1024) = true := decide_eq_true h2
        by_cases h3 : 0 ≤ g
        · have e3 : decide (0 ≤ g) = true := decide_eq_true h3
          by_cases h4 : g ≤ 1024
          · have e4 : decide (g ≤ 1024) = true := decide_eq_true h4
            go_wp2
            go_ret
            exact ⟨by simp [validF, *], (Kp.refl w).alloc _⟩
          · have e4 : decide (g ≤ 1024) = false := decide_eq_false h4
            go_wp2
            go_ret
            exact ⟨by simp [validF, *], (Kp.refl w).alloc _⟩
        · have e3 : decide (0 ≤ g) = false := decide_eq_false h3
          go_wp2
          go_ret
          exact ⟨by simp [validF, *], (Kp.refl w).alloc _⟩
      · have e2 : decide (y ≤ 1024) = false := decide_eq_false h2
        go_wp2
        go_ret
        exact ⟨by simp [validF, *], (Kp.refl w).alloc _⟩
    · have e1 : decide (1 ≤ y) = false := decide_eq_false h1
      go_wp2
      go_ret
      exact ⟨by simp [validF, *], (Kp.refl w).alloc _⟩
theorem nNew1_real : Real Try.prog 34 := ⟨_, Try.func34, by kernel_rfl, by kernel_rfl⟩
theorem nNew1_any (r : Fate) (w : World) : Calls Try.prog 34 #[.agg #[.bool r.drop, .int .i64 r.delay, .int .i64 r.again]] w fun e w' => e = .returned (.bool (!validF r)) ∧ Kp w w' := by
  obtain ⟨d, y, g⟩ := r
  dsimp only
  have k0 := (Kp.refl w).alloc (.cells #[.bool d, .int .i64 y, .int .i64 g] 47)
  go_enter Try.func34, Try.ntmps34
  go_wp2_with fail
  refine (nValid_any d y g _).mono ?_
  rintro e w1 ⟨rfl, k1⟩
  go_wp2
  go_ret
  exact ⟨rfl, k0.trans k1⟩
set_option maxHeartbeats 400000 in
theorem IndexFuncFate_any (p : Fate → Bool) (F : FuncId) (cap : List Value) (v : Value) (l : List Fate) (w : World) (hS : Fates w v l) (hr : Real Try.prog F)
    (hf : ∀ (w' : World) (r : Fate), Kp w w' →  Calls Try.prog F (.agg #[.bool r.drop, .int .i64 r.delay, .int .i64 r.again] :: cap).toArray w' fun e w'' => e = .returned (.bool (p r)) ∧ Kp w' w'') :
    Calls Try.prog 55 #[v, .func (.func F) #[] cap.toArray] w fun e w' => e = .returned (.int .i64 (idxF p 0 l)) ∧ Kp w w' := by
  have HC := hid hf
  clear hf
  have hcf := fun args w => hr.run args w
  obtain ⟨A, c, rfl, hc, hm⟩ := hS.form
  go_enter Try.func55, Try.ntmps55
  go_wp2
  go_loopw [8] (fun i wr => ∃ k : Nat, k ≤ l.length ∧ i = .int .i64 k ∧ Hid (idxF p 0 l = idxF p k (l.drop k)) ∧ Kp w wr) (fun i _ => l.length - (intOf i).toNat)
  case atStart => exact ⟨0, Nat.zero_le _, rfl, rfl, Kp.refl _⟩
  case round =>
    obtain ⟨k, hk, rfl, HB, hbel⟩ := hrel
    by_cases hlt : k < l.length
    · obtain ⟨b, o, rfl, hb, h1, h2, h3⟩ := (hS.keep (pl_stable _) hbel).fate hlt
      have HD := hid (List.drop_eq_getElem_cons hlt)
      generalize l[k] = r at *
      obtain r := r
      clear hS
      try dsimp only at *
      by_cases hp : p r = true
      · have HF : Hid (idxF p 0 l = k) := hid (by rw [HB.out, HD.out, idxF, if_pos hp])
        have HP := hid hp
        clear hp
        go_wp2_with fail
        refine (HC.out wr r hbel).mono ?_
        rintro e w1 ⟨rfl, hk1⟩
        have hbel1 := hbel.trans hk1
        rw [HP.out]
        go_wp2
        go_ret
        exact ⟨ret_int HF.out.symm, (by repeat (first | assumption | exact Kp.refl _ | apply Kp.alloc | apply Kp.drew | apply Kp.drewN))⟩
      · have HF : Hid (idxF p 0 l = idxF p (k + 1) (l.drop (k + 1))) := hid (by rw [HB.out, HD.out, idxF, if_neg hp])
        have HP := hid (show p r = false by simpa using hp)
        clear hp
        go_wp2_with fail
        refine (HC.out wr r hbel).mono ?_
        rintro e w1 ⟨rfl, hk1⟩
        have hbel1 := hbel.trans hk1
        rw [HP.out]
        go_wp2
        go_roundw
        case rel => exact ⟨k + 1, by omega, by go_num, HF, (by repeat (first | assumption | exact Kp.refl _ | apply Kp.alloc | apply Kp.drew | apply Kp.drewN))⟩
        case measure => simp [intOf]; omega
    · have HF : Hid (idxF p 0 l = -1) := hid (by rw [HB.out, List.drop_of_length_le (by omega)]; rfl)
      go_wp2
      go_ret
      exact ⟨ret_int HF.out.symm, (by repeat (first | assumption | exact Kp.refl _ | apply Kp.alloc | apply Kp.drew | apply Kp.drewN))⟩
set_option maxHeartbeats 400000 in
theorem ContainsFuncFate_any (p : Fate → Bool) (F : FuncId) (cap : List Value) (v : Value) (l : List Fate) (w : World) (hS : Fates w v l) (hr : Real Try.prog F)
    (hf : ∀ (w' : World) (r : Fate), Kp w w' →  Calls Try.prog F (.agg #[.bool r.drop, .int .i64 r.delay, .int .i64 r.again] :: cap).toArray w' fun e w'' => e = .returned (.bool (p r)) ∧ Kp w' w'') :
    Calls Try.prog 33 #[v, .func (.func F) #[] cap.toArray] w fun e w' => e = .returned (.bool (l.any p)) ∧ Kp w w' := by
  have HC := hid hf
  clear hf
  rw [← idxF_any p 0 l]
  generalize hi : idxF p 0 l = i
  have HI := hid hi
  clear hi
  obtain ⟨A, c, rfl, hc, hm⟩ := hS.form
  go_enter Try.func33, Try.ntmps33
  go_wp2_with fail
  refine (IndexFuncFate_any p F cap _ l _ hS hr HC.out).mono ?_
  rintro e w1 ⟨rfl, hk1⟩
  rw [HI.out]
  go_wp2
  go_ret
  exact ⟨rfl, (by repeat (first | assumption | exact Kp.refl _ | apply Kp.alloc | apply Kp.drew | apply Kp.drewN))⟩
set_option maxHeartbeats 1000000 in
theorem CloneFate_any (v : Value) (l : List Fate) (w : World) (hS : Fates w v l) (hl : l.length ≤ 1000000000) :
    Calls Try.prog 36 #[v] w fun e w' => ∃ v', e = .returned v' ∧ Own encFate 47 3 w.heap.size w' v' l ∧ Kp w w' := by
  obtain ⟨A, c, rfl, hc, hm⟩ := hS.form
  rcases A with _ | A
  · have hl0 : l = [] := by
      cases l with
      | nil => rfl
      | cons x l =>
        obtain ⟨_, _, _, hA, _⟩ := hS.at_ (k := 0) (by simp)
        cases hA
    subst hl0
    rw [List.length_nil]
    have hnil := fun (W : World) => Lib.run_eql_slice_nil (P := Try.prog) W 48 47 none 0 c 0 0 Try.underlying48
    go_enter Try.func36, Try.ntmps36
    go_wp2
    go_ret
    exact ⟨_, rfl, Own.nil _ _ _ _ _, Kp.refl _⟩
  · have hnil := fun (W : World) => Lib.run_eql_slice_nil (P := Try.prog) W 48 47 (some A) l.length c 0 0 Try.underlying48
    go_enter Try.func36, Try.ntmps36
    go_wp2_with (at_builtin; refine wpl_append_flat rfl (.tmp 5) (.tmp 6) rfl stFateM encFate_len encFate_one rfl (Own.lit (base := w.heap.size) encFate w #[] [] (Nat.le_refl _) (by simp) rfl rfl) rfl (hS.keep (pl_stable _) ((Kp.refl w).alloc _)) (by simp; omega) (by simp; omega) (by simp) ?_; intro v' w' hown hgrow hat hnil')
    go_ret
    exact ⟨_, rfl, by simpa using hown, ((Kp.refl w).alloc _).grown hgrow (fun k hk => by cases hk; exact Nat.le_refl _)⟩

def pairB (n a b : Int) : Bool := decide (0 ≤ a) && decide (a < n) && decide (0 ≤ b) && decide (b < n) && !decide (a = b)
set_option maxHeartbeats 800000 in
theorem nPair_any (nb : Nat) (n a b : Int) (w : World) (hc : w.cell? ⟨nb, 0, none⟩ = some (.int .i64 n)) : Calls Try.prog 37 #[.pointer (some ⟨nb, 0, none⟩), .int .i64 a, .int .i64 b] w fun e w' => e = .returned (.bool (pairB n a b)) ∧ w' = w := by
  go_enter Try.func37, Try.ntmps37
  by_cases h1 : 0 ≤ a
  · have e1 : decide (0 ≤ a) = true := decide_eq_true h1
    by_cases h2 : a < n
    · have e2 : decide (a < n) = true := decide_eq_true h2
      by_cases h3 : 0 ≤ b
      · have e3 : decide (0 ≤ b) = true := decide_eq_true h3
        by_cases h4 : b < n
        · have e4 : decide (b < n) = true := decide_eq_true h4
          by_cases h5 : a = b
          · have e5 : (a != b) = false := by simpa using h5
            go_wp2
            go_ret
            exact ⟨by simp [pairB, *], rfl⟩
          · have e5 : (a != b) = true := by simpa using h5
            go_wp2
            go_ret
            exact ⟨by simp [pairB, *], rfl⟩
        · have e4 : decide (b < n) = false := decide_eq_false h4
          go_wp2
          go_ret
          exact ⟨by simp [pairB, *], rfl⟩
      · have e3 : decide (0 ≤ b) = false := decide_eq_false h3
        go_wp2
        go_ret
        exact ⟨by simp [pairB, *], rfl⟩
    · have e2 : decide (a < n) = false := decide_eq_false h2
      go_wp2
      go_ret
      exact ⟨by simp [pairB, *], rfl⟩
  · have e1 : decide (0 ≤ a) = false := decide_eq_false h1
    go_wp2
    go_ret
    exact ⟨by simp [pairB, *], rfl⟩
def lateB (now t : Int) : Bool := decide (t < now) || decide (1048576 < t)
theorem nLate_any (nb : Nat) (n a : Int) (w : World) (hc : w.cell? ⟨nb, 1, none⟩ = some (.int .i64 n)) : Calls Try.prog 38 #[.pointer (some ⟨nb, 0, none⟩), .int .i64 a] w fun e w' => e = .returned (.bool (lateB n a)) ∧ w' = w := by
  go_enter Try.func38, Try.ntmps38
  by_cases h1 : a < n
  · have e1 : decide (a < n) = true := decide_eq_true h1
    go_wp2
    go_ret
    exact ⟨by simp [lateB, *], rfl⟩
  · have e1 : decide (a < n) = false := decide_eq_false h1
    by_cases h2 : 1048576 < a
    · have e2 : decide (1048576 < a) = true := decide_eq_true h2
      go_wp2
      go_ret
      exact ⟨by simp [lateB, *], rfl⟩
    · have e2 : decide (1048576 < a) = false := decide_eq_false h2
      go_wp2
      go_ret
      exact ⟨by simp [lateB, *], rfl⟩
theorem nLink_any (a b : Int) (w : World) : Calls Try.prog 52 #[.int .i64 a, .int .i64 b] w fun e w' => e = .returned (.agg #[.int .i64 (min a b), .int .i64 (max a b)]) ∧ Kp w w' := by
  rcases Int.lt_trichotomy a b with h | h | h
  · rw [Int.min_eq_left (Int.le_of_lt h), Int.max_eq_right (Int.le_of_lt h)]
    have hB := Bx.new w #[.int .i64 a, .int .i64 b] 117
    go_enter Try.func52, Try.ntmps52
    go_wp2
    refine bodyPost_ret (results_cell_bx rfl _ _ w.heap.size [.int .i64 a, .int .i64 b] _ rfl hB.range Try.underlying117 rfl (by kernel_rfl)) rfl ?_
    exact ⟨rfl, (Kp.refl w).alloc _⟩
  · subst h
    rw [Int.min_self, Int.max_self]
    have hB := Bx.new w #[.int .i64 a, .int .i64 a] 117
    go_enter Try.func52, Try.ntmps52
    go_wp2
    refine bodyPost_ret (results_cell_bx rfl _ _ w.heap.size [.int .i64 a, .int .i64 a] _ rfl hB.range Try.underlying117 rfl (by kernel_rfl)) rfl ?_
    exact ⟨rfl, (Kp.refl w).alloc _⟩
  · rw [Int.min_eq_right (Int.le_of_lt h), Int.max_eq_left (Int.le_of_lt h)]
    have hB := Bx.new w #[.int .i64 b, .int .i64 a] 117
    go_enter Try.func52, Try.ntmps52
    go_wp2
    refine bodyPost_ret (results_cell_bx rfl _ _ w.heap.size [.int .i64 b, .int .i64 a] _ rfl hB.range Try.underlying117 rfl (by kernel_rfl)) rfl ?_
    exact ⟨rfl, (Kp.refl w).alloc _⟩
end Go.Proofs.Ytmokpnkpfodppaa
namespace Go.Proofs.Ytmokpnkpfodppaa
set_option linter.unusedSimpArgs false
set_option linter.unusedVariables false
open Go.RowKit

theorem guard_get {T : Array Value} {i : Nat} {b : Bool} (h : T[i]?.getD undef = .bool b) : T[i]? = some (.bool b) := by
  cases hT : T[i]? with
  | none => rw [hT] at h; cases h
  | some v => rw [hT] at h; exact congrArg some h
abbrev pairV (x y : Int) : Value := .agg #[.int .i64 x, .int .i64 y]
theorem eqPair (x y x' y' : Int) (w : World) : Sem.run Try.prog (Op.equal 117 (pairV x y) (pairV x' y')) w = .ok (x == x' && y == y') w := by
  have e3 : ∀ a b w, Sem.run Try.prog (Op.equalIn 9999 3 (.int .i64 a) (.int .i64 b)) w = .ok (a == b) w := fun a b w => by
    unfold Op.equalIn
    simp [run_underlying Try.underlying3]
  have p0 : ∀ a b w, Sem.run Try.prog (part 3 #[.int .i64 a, .int .i64 b] 0) w = .ok (.int .i64 a) w := fun a b w => by kernel_rfl
  have p1 : ∀ a b w, Sem.run Try.prog (part 3 #[.int .i64 a, .int .i64 b] 1) w = .ok (.int .i64 b) w := fun a b w => by kernel_rfl
  have s3 : Sem.run Try.prog (sizeOf 3) w = .ok 1 w := by kernel_rfl
  have hr : List.range' 0 2 = [0, 1] := rfl
  unfold Op.equal Op.maxDepth Op.equalIn
  simp [run_underlying Try.underlying117, s3, hr]
  by_cases hx : x = x'
  · by_cases hy : y = y'
    · subst hx hy
      simp [p0, p1, e3]
    · subst hx
      simp [p0, p1, e3, hy]
  · simp [p0, p1, e3, hx]
theorem ckPair (e : Bool) (x y : Int) (w : World) : Sem.run Try.prog (Instr.checkKey e 10000 117 (pairV x y)) w = .ok () w := by
  cases e <;> kernel_rfl
/-- the entries of a map are these cuts -/
def MapOf (es : Array MapEntry) (cuts : List (Int × Int)) : Prop := es.toList.map (fun e => (e.key, e.val)) = cuts.map fun c => (pairV c.1 c.2, .bool true)
def isC (x y : Int) (c : Int × Int) : Bool := x == c.1 && y == c.2
theorem run_find (x y : Int) (w : World) : ∀ (l : List MapEntry) (cuts : List (Int × Int)) (i : Nat), l.map (fun e => (e.key, e.val)) = cuts.map (fun c => (pairV c.1 c.2, .bool true)) →
    Sem.run Try.prog (Instr.findAsking 117 (pairV x y) l i) w = .ok ((cuts.findIdx? (isC x y)).map fun k => (i + k, .bool true)) w
  | [], [], i, _ => by simp [Instr.findAsking]
  | [], _ :: _, _, h => by simp at h
  | _ :: _, [], _, h => by simp at h
  | e :: l, c :: cuts, i, h => by
    simp only [List.map_cons, List.cons.injEq, Prod.mk.injEq] at h
    obtain ⟨⟨hk, hv⟩, hl⟩ := h
    have ih := run_find x y w l cuts (i + 1) hl
    rw [Instr.findAsking, Sem.run_bind, hk, eqPair, List.findIdx?_cons]
    by_cases hc : isC x y c = true
    · have hc' : (x == c.1 && y == c.2) = true := hc
      rw [if_pos hc, hc']
      simp [hv]
    · have hc' : (x == c.1 && y == c.2) = false := by simpa [isC] using hc
      rw [if_neg hc, hc']
      simp only [Result.andThen_ok, Bool.false_eq_true, if_false]
      rw [ih]
      congr 1
      cases cuts.findIdx? (isC x y) with
      | none => rfl
      | some k => simp [Nat.add_assoc, Nat.add_comm 1]
theorem run_findKey (x y : Int) (w : World) (es : Array MapEntry) (cuts : List (Int × Int)) (h : MapOf es cuts) : Sem.run Try.prog (Instr.findKey 117 (pairV x y) es.toList) w = .ok ((cuts.findIdx? (isC x y)).map fun k => (k, .bool true)) w := by
  have h2 := run_find x y w es.toList cuts 0 h
  simp only [Nat.zero_add] at h2
  unfold MapOf at h
  rw [Instr.findKey, Sem.run_bind, run_underlying Try.underlying117, Result.andThen_ok]
  cases hl : es.toList with
  | nil =>
    rw [hl] at h2
    rw [hl] at h
    cases cuts with
    | nil => simp [Instr.findNow]
    | cons c cuts => simp at h
  | cons e l =>
    rw [hl] at h2
    simp only [Instr.findNow, Instr.sameNow]
    exact h2
def hasC (cuts : List (Int × Int)) (x y : Int) : Bool := cuts.any (isC x y)
theorem run_lookup (x y : Int) (w : World) (mb clock : Nat) (es : Array MapEntry) (cuts : List (Int × Int)) (h : MapOf es cuts) (hm : w.heap[mb]? = some (.map es clock)) :
    Sem.run Try.prog (Instr.lookup 93 (.map (some mb)) (pairV x y) false) w = .ok (.bool (hasC cuts x y)) w := by
  have z : Sem.run Try.prog (zeroValue 4) w = .ok (.bool false) w := by kernel_rfl
  have hf := run_findKey x y w es cuts h
  have hg : Sem.run Try.prog (getObj mb) w = .ok (.map es clock) w := by simp [getObj, Sem.run, hm]
  unfold Instr.lookup
  simp only [run_underlying Try.underlying93, hg, ckPair, hf, z, Sem.run_bind, Sem.run_pure, Result.andThen_ok]
  unfold hasC
  rw [← List.findIdx?_isSome]
  cases cuts.findIdx? (isC x y) with
  | none => simp [z]
  | some k => simp
def linkedB (n : Int) (cuts : List (Int × Int)) (a b : Int) : Bool := pairB n a b && !hasC cuts (min a b) (max a b)
set_option maxRecDepth 8000 in
set_option maxHeartbeats 1600000 in
theorem nLinked_any (nb mb clock : Nat) (n fa ta : Int) (es : Array MapEntry) (cuts : List (Int × Int)) (w : World) (hc : w.cell? ⟨nb, 0, none⟩ = some (.int .i64 n)) (hc3 : w.cell? ⟨nb, 3, none⟩ = some (.map (some mb))) (hm : w.heap[mb]? = some (.map es clock)) (hM : MapOf es cuts) :
    Calls Try.prog 26 #[.pointer (some ⟨nb, 0, none⟩), .int .i64 fa, .int .i64 ta] w fun e w' => e = .returned (.bool (linkedB n cuts fa ta)) ∧ Kp w w' := by
  have hmb : mb < w.heap.size := (Array.getElem?_eq_some_iff.1 hm).1
  have HM := hid hM
  clear hM
  generalize hr : linkedB n cuts fa ta = r
  have HR := hid hr
  clear hr
  cases hp : pairB n fa ta with
  | false =>
    have HF : Hid (r = false) := hid (by rw [← HR.out]; simp [linkedB, hp])
    replace hp := hid hp
    go_enter Try.func26, Try.ntmps26
    go_wp2
    refine G2.wp_region_growG Kp [] 15 22 (G2.pvL [G2.eqv (.pointer (some ⟨nb, 0, none⟩)), G2.eqv (.int .i64 fa), G2.eqv (.int .i64 ta), G2.eqv (.bool false), G2.eqv (.bool false), G2.eqv (undef), G2.eqv (undef), G2.eqv (undef), G2.eqv (undef), G2.eqv (undef), G2.eqv (undef), G2.eqv (undef), G2.eqv (undef), G2.eqv (undef), G2.eqv (.bool false)]) (by kernel_rfl) (by kernel_rfl) rfl (fun x => Kp.refl x) (fun _ _ _ h k => h.trans k) (Kp.refl _).drew (fun _ _ _ _ _ h => h) (G2.pvL_keep (G2.stabL_cons (G2.stab_eq _) (G2.stabL_cons (G2.stab_eq _) (G2.stabL_cons (G2.stab_eq _) (G2.stabL_cons (G2.stab_eq _) (G2.stabL_cons (G2.stab_eq _) (G2.stabL_cons (G2.stab_eq _) (G2.stabL_cons (G2.stab_eq _) (G2.stabL_cons (G2.stab_eq _) (G2.stabL_cons (G2.stab_eq _) (G2.stabL_cons (G2.stab_eq _) (G2.stabL_cons (G2.stab_eq _) (G2.stabL_cons (G2.stab_eq _) (G2.stabL_cons (G2.stab_eq _) (G2.stabL_cons (G2.stab_eq _) (G2.stabL_cons (G2.stab_eq _) (G2.stabL_nil))))))))))))))))) ?_ ?_ ?_
    · intro i0 hi0
      have hi' : i0 = 0 ∨ i0 = 1 ∨ i0 = 2 ∨ i0 = 3 ∨ i0 = 4 ∨ i0 = 5 ∨ i0 = 6 ∨ i0 = 7 ∨ i0 = 8 ∨ i0 = 9 ∨ i0 = 10 ∨ i0 = 11 ∨ i0 = 12 ∨ i0 = 13 ∨ i0 = 14 := by omega
      rcases hi' with rfl | rfl | rfl | rfl | rfl | rfl | rfl | rfl | rfl | rfl | rfl | rfl | rfl | rfl | rfl
      · intro a w' hk hF hD K hK
        simp only [List.getElem?_toArray, List.getElem?_cons_zero, List.getElem?_cons_succ, Option.map_some, Option.getD_some]
        have h0 : a.tmps[0]?.getD undef = .pointer (some ⟨nb, 0, none⟩) := hF 0 (by kernel_rfl)
        clear hF hD
        go_simp
        exact hK.out _ _ (Kp.refl _) rfl
      · intro a w' hk hF hD K hK
        simp only [List.getElem?_toArray, List.getElem?_cons_zero, List.getElem?_cons_succ, Option.map_some, Option.getD_some]
        have h1 : a.tmps[1]?.getD undef = .int .i64 fa := hF 1 (by kernel_rfl)
        clear hF hD
        go_simp
        exact hK.out _ _ (Kp.refl _) rfl
      · intro a w' hk hF hD K hK
        simp only [List.getElem?_toArray, List.getElem?_cons_zero, List.getElem?_cons_succ, Option.map_some, Option.getD_some]
        have h2 : a.tmps[2]?.getD undef = .int .i64 ta := hF 2 (by kernel_rfl)
        clear hF hD
        go_simp
        exact hK.out _ _ (Kp.refl _) rfl
      · intro a w' hk hF hD K hK
        simp only [List.getElem?_toArray, List.getElem?_cons_zero, List.getElem?_cons_succ, Option.map_some, Option.getD_some]
        have h7 : a.tmps[7]?.getD undef = .pointer (some ⟨nb, 0, none⟩) := hD 0 (by kernel_rfl)
        have h8 : a.tmps[8]?.getD undef = .int .i64 fa := hD 1 (by kernel_rfl)
        have h9 : a.tmps[9]?.getD undef = .int .i64 ta := hD 2 (by kernel_rfl)
        clear hF hD
        go_simp
        refine (nPair_any nb n fa ta _ (hk.cellS hc)).mono ?_
        rintro e w9 ⟨rfl, rfl⟩
        rw [hp.out]
        exact hK.out _ _ (Kp.refl _) rfl
      · intro a w' hk hF hD K hK
        simp only [List.getElem?_toArray, List.getElem?_cons_zero, List.getElem?_cons_succ, Option.map_some, Option.getD_some]
        have h10 : a.tmps[10]?.getD undef = .bool false := hD 3 (by kernel_rfl)
        clear hF hD
        go_simp
        exact hK.out _ _ (Kp.refl _) rfl
      · intro a w' hk hF hD K hK
        simp only [List.getElem?_toArray, List.getElem?_cons_zero, List.getElem?_cons_succ, Option.map_some, Option.getD_some]
        have h0 : a.tmps[0]?.getD undef = .pointer (some ⟨nb, 0, none⟩) := hF 0 (by kernel_rfl)
        have h11 : a.tmps[11]?.getD undef = .bool false := hD 4 (by kernel_rfl)
        have g11 := guard_get h11
        clear hF hD
        go_simp
        exact hK.out _ _ (Kp.refl _) rfl
      · intro a w' hk hF hD K hK
        simp only [List.getElem?_toArray, List.getElem?_cons_zero, List.getElem?_cons_succ, Option.map_some, Option.getD_some]
        have h12 : a.tmps[12]?.getD undef = undef := hD 5 (by kernel_rfl)
        have h11 : a.tmps[11]?.getD undef = .bool false := hD 4 (by kernel_rfl)
        have g11 := guard_get h11
        clear hF hD
        go_simp
        exact hK.out _ _ (Kp.refl _) rfl
      · intro a w' hk hF hD K hK
        simp only [List.getElem?_toArray, List.getElem?_cons_zero, List.getElem?_cons_succ, Option.map_some, Option.getD_some]
        have h13 : a.tmps[13]?.getD undef = undef := hD 6 (by kernel_rfl)
        have h11 : a.tmps[11]?.getD undef = .bool false := hD 4 (by kernel_rfl)
        have g11 := guard_get h11
        clear hF hD
        go_simp
        exact hK.out _ _ (Kp.refl _) rfl
      · intro a w' hk hF hD K hK
        simp only [List.getElem?_toArray, List.getElem?_cons_zero, List.getElem?_cons_succ, Option.map_some, Option.getD_some]
        have h14 : a.tmps[14]?.getD undef = undef := hD 7 (by kernel_rfl)
        have h11 : a.tmps[11]?.getD undef = .bool false := hD 4 (by kernel_rfl)
        have g11 := guard_get h11
        clear hF hD
        go_simp
        exact hK.out _ _ (Kp.refl _) rfl
      · intro a w' hk hF hD K hK
        simp only [List.getElem?_toArray, List.getElem?_cons_zero, List.getElem?_cons_succ, Option.map_some, Option.getD_some]
        have h1 : a.tmps[1]?.getD undef = .int .i64 fa := hF 1 (by kernel_rfl)
        have h11 : a.tmps[11]?.getD undef = .bool false := hD 4 (by kernel_rfl)
        have g11 := guard_get h11
        clear hF hD
        go_simp
        exact hK.out _ _ (Kp.refl _) rfl
      · intro a w' hk hF hD K hK
        simp only [List.getElem?_toArray, List.getElem?_cons_zero, List.getElem?_cons_succ, Option.map_some, Option.getD_some]
        have h2 : a.tmps[2]?.getD undef = .int .i64 ta := hF 2 (by kernel_rfl)
        have h11 : a.tmps[11]?.getD undef = .bool false := hD 4 (by kernel_rfl)
        have g11 := guard_get h11
        clear hF hD
        go_simp
        exact hK.out _ _ (Kp.refl _) rfl
      · intro a w' hk hF hD K hK
        simp only [List.getElem?_toArray, List.getElem?_cons_zero, List.getElem?_cons_succ, Option.map_some, Option.getD_some]
        have h16 : a.tmps[16]?.getD undef = undef := hD 9 (by kernel_rfl)
        have h17 : a.tmps[17]?.getD undef = undef := hD 10 (by kernel_rfl)
        have h11 : a.tmps[11]?.getD undef = .bool false := hD 4 (by kernel_rfl)
        have g11 := guard_get h11
        clear hF hD
        go_simp
        exact hK.out _ _ (Kp.refl _) rfl
      · intro a w' hk hF hD K hK
        simp only [List.getElem?_toArray, List.getElem?_cons_zero, List.getElem?_cons_succ, Option.map_some, Option.getD_some]
        have h15 : a.tmps[15]?.getD undef = undef := hD 8 (by kernel_rfl)
        have h18 : a.tmps[18]?.getD undef = undef := hD 11 (by kernel_rfl)
        have h11 : a.tmps[11]?.getD undef = .bool false := hD 4 (by kernel_rfl)
        have g11 := guard_get h11
        clear hF hD
        go_simp
        exact hK.out _ _ (Kp.refl _) rfl
      · intro a w' hk hF hD K hK
        simp only [List.getElem?_toArray, List.getElem?_cons_zero, List.getElem?_cons_succ, Option.map_some, Option.getD_some]
        have h19 : a.tmps[19]?.getD undef = undef := hD 12 (by kernel_rfl)
        have h11 : a.tmps[11]?.getD undef = .bool false := hD 4 (by kernel_rfl)
        have g11 := guard_get h11
        clear hF hD
        go_simp
        exact hK.out _ _ (Kp.refl _) rfl
      · intro a w' hk hF hD K hK
        simp only [List.getElem?_toArray, List.getElem?_cons_zero, List.getElem?_cons_succ, Option.map_some, Option.getD_some]
        have h11 : a.tmps[11]?.getD undef = .bool false := hD 4 (by kernel_rfl)
        have h20 : a.tmps[20]?.getD undef = undef := hD 13 (by kernel_rfl)
        clear hF hD
        go_simp
        exact hK.out _ _ (Kp.refl _) rfl
    · exact fun i0 hi0 => by simp at hi0
    intro v w9 k9 hv
    have v14 : v 14 = .bool false := hv 14 (by omega)
    clear hv
    simp only [G2.growPut, G2.gSlot, List.getElem?_toArray, List.getElem?_cons_zero, List.getElem?_cons_succ, Option.bind_some, List.setIfInBounds_toArray, List.set_cons_zero, List.set_cons_succ, List.drop_succ_cons, List.drop_zero, v14]
    go_wp2
    go_ret
    exact ⟨by rw [HF.out]; rfl, k9⟩
  | true =>
    have HF : Hid (r = !hasC cuts (min fa ta) (max fa ta)) := hid (by rw [← HR.out]; simp [linkedB, hp])
    replace hp := hid hp
    go_enter Try.func26, Try.ntmps26
    go_wp2
    refine G2.wp_region_growG Kp [] 15 22 (G2.pvL [G2.eqv (.pointer (some ⟨nb, 0, none⟩)), G2.eqv (.int .i64 fa), G2.eqv (.int .i64 ta), G2.eqv (.bool true), G2.eqv (.bool true), G2.eqv (.pointer (some ⟨nb, 0, none⟩)), G2.eqv (.pointer (some ⟨nb, 0, none⟩)), G2.eqv (.pointer (some ⟨nb, 3, none⟩)), G2.eqv (.map (some mb)), G2.eqv (.int .i64 fa), G2.eqv (.int .i64 ta), G2.eqv (pairV (min fa ta) (max fa ta)), G2.eqv (.bool (hasC cuts (min fa ta) (max fa ta))), G2.eqv (.bool (!hasC cuts (min fa ta) (max fa ta))), G2.eqv (.bool (!hasC cuts (min fa ta) (max fa ta)))]) (by kernel_rfl) (by kernel_rfl) rfl (fun x => Kp.refl x) (fun _ _ _ h k => h.trans k) (Kp.refl _).drew (fun _ _ _ _ _ h => h) (G2.pvL_keep (G2.stabL_cons (G2.stab_eq _) (G2.stabL_cons (G2.stab_eq _) (G2.stabL_cons (G2.stab_eq _) (G2.stabL_cons (G2.stab_eq _) (G2.stabL_cons (G2.stab_eq _) (G2.stabL_cons (G2.stab_eq _) (G2.stabL_cons (G2.stab_eq _) (G2.stabL_cons (G2.stab_eq _) (G2.stabL_cons (G2.stab_eq _) (G2.stabL_cons (G2.stab_eq _) (G2.stabL_cons (G2.stab_eq _) (G2.stabL_cons (G2.stab_eq _) (G2.stabL_cons (G2.stab_eq _) (G2.stabL_cons (G2.stab_eq _) (G2.stabL_cons (G2.stab_eq _) (G2.stabL_nil))))))))))))))))) ?_ ?_ ?_
    · intro i0 hi0
      have hi' : i0 = 0 ∨ i0 = 1 ∨ i0 = 2 ∨ i0 = 3 ∨ i0 = 4 ∨ i0 = 5 ∨ i0 = 6 ∨ i0 = 7 ∨ i0 = 8 ∨ i0 = 9 ∨ i0 = 10 ∨ i0 = 11 ∨ i0 = 12 ∨ i0 = 13 ∨ i0 = 14 := by omega
      rcases hi' with rfl | rfl | rfl | rfl | rfl | rfl | rfl | rfl | rfl | rfl | rfl | rfl | rfl | rfl | rfl
      · intro a w' hk hF hD K hK
        simp only [List.getElem?_toArray, List.getElem?_cons_zero, List.getElem?_cons_succ, Option.map_some, Option.getD_some]
        have h0 : a.tmps[0]?.getD undef = .pointer (some ⟨nb, 0, none⟩) := hF 0 (by kernel_rfl)
        clear hF hD
        go_simp
        exact hK.out _ _ (Kp.refl _) rfl
      · intro a w' hk hF hD K hK
        simp only [List.getElem?_toArray, List.getElem?_cons_zero, List.getElem?_cons_succ, Option.map_some, Option.getD_some]
        have h1 : a.tmps[1]?.getD undef = .int .i64 fa := hF 1 (by kernel_rfl)
        clear hF hD
        go_simp
        exact hK.out _ _ (Kp.refl _) rfl
      · intro a w' hk hF hD K hK
        simp only [List.getElem?_toArray, List.getElem?_cons_zero, List.getElem?_cons_succ, Option.map_some, Option.getD_some]
        have h2 : a.tmps[2]?.getD undef = .int .i64 ta := hF 2 (by kernel_rfl)
        clear hF hD
        go_simp
        exact hK.out _ _ (Kp.refl _) rfl
      · intro a w' hk hF hD K hK
        simp only [List.getElem?_toArray, List.getElem?_cons_zero, List.getElem?_cons_succ, Option.map_some, Option.getD_some]
        have h7 : a.tmps[7]?.getD undef = .pointer (some ⟨nb, 0, none⟩) := hD 0 (by kernel_rfl)
        have h8 : a.tmps[8]?.getD undef = .int .i64 fa := hD 1 (by kernel_rfl)
        have h9 : a.tmps[9]?.getD undef = .int .i64 ta := hD 2 (by kernel_rfl)
        clear hF hD
        go_simp
        refine (nPair_any nb n fa ta _ (hk.cellS hc)).mono ?_
        rintro e w9 ⟨rfl, rfl⟩
        rw [hp.out]
        exact hK.out _ _ (Kp.refl _) rfl
      · intro a w' hk hF hD K hK
        simp only [List.getElem?_toArray, List.getElem?_cons_zero, List.getElem?_cons_succ, Option.map_some, Option.getD_some]
        have h10 : a.tmps[10]?.getD undef = .bool true := hD 3 (by kernel_rfl)
        clear hF hD
        go_simp
        exact hK.out _ _ (Kp.refl _) rfl
      · intro a w' hk hF hD K hK
        simp only [List.getElem?_toArray, List.getElem?_cons_zero, List.getElem?_cons_succ, Option.map_some, Option.getD_some]
        have h0 : a.tmps[0]?.getD undef = .pointer (some ⟨nb, 0, none⟩) := hF 0 (by kernel_rfl)
        have h11 : a.tmps[11]?.getD undef = .bool true := hD 4 (by kernel_rfl)
        have g11 := guard_get h11
        clear hF hD
        go_simp
        exact hK.out _ _ (Kp.refl _) rfl
      · intro a w' hk hF hD K hK
        simp only [List.getElem?_toArray, List.getElem?_cons_zero, List.getElem?_cons_succ, Option.map_some, Option.getD_some]
        have h12 : a.tmps[12]?.getD undef = .pointer (some ⟨nb, 0, none⟩) := hD 5 (by kernel_rfl)
        have h11 : a.tmps[11]?.getD undef = .bool true := hD 4 (by kernel_rfl)
        have g11 := guard_get h11
        clear hF hD
        go_simp
        exact hK.out _ _ (Kp.refl _) rfl
      · intro a w' hk hF hD K hK
        simp only [List.getElem?_toArray, List.getElem?_cons_zero, List.getElem?_cons_succ, Option.map_some, Option.getD_some]
        have h13 : a.tmps[13]?.getD undef = .pointer (some ⟨nb, 0, none⟩) := hD 6 (by kernel_rfl)
        have h11 : a.tmps[11]?.getD undef = .bool true := hD 4 (by kernel_rfl)
        have g11 := guard_get h11
        clear hF hD
        go_simp
        exact hK.out _ _ (Kp.refl _) rfl
      · intro a w' hk hF hD K hK
        simp only [List.getElem?_toArray, List.getElem?_cons_zero, List.getElem?_cons_succ, Option.map_some, Option.getD_some]
        have h14 : a.tmps[14]?.getD undef = .pointer (some ⟨nb, 3, none⟩) := hD 7 (by kernel_rfl)
        have h11 : a.tmps[11]?.getD undef = .bool true := hD 4 (by kernel_rfl)
        have g11 := guard_get h11
        clear hF hD
        have z1 := hk.cellS hc3
        go_simp
        exact hK.out _ _ (Kp.refl _) rfl
      · intro a w' hk hF hD K hK
        simp only [List.getElem?_toArray, List.getElem?_cons_zero, List.getElem?_cons_succ, Option.map_some, Option.getD_some]
        have h1 : a.tmps[1]?.getD undef = .int .i64 fa := hF 1 (by kernel_rfl)
        have h11 : a.tmps[11]?.getD undef = .bool true := hD 4 (by kernel_rfl)
        have g11 := guard_get h11
        clear hF hD
        go_simp
        exact hK.out _ _ (Kp.refl _) rfl
      · intro a w' hk hF hD K hK
        simp only [List.getElem?_toArray, List.getElem?_cons_zero, List.getElem?_cons_succ, Option.map_some, Option.getD_some]
        have h2 : a.tmps[2]?.getD undef = .int .i64 ta := hF 2 (by kernel_rfl)
        have h11 : a.tmps[11]?.getD undef = .bool true := hD 4 (by kernel_rfl)
        have g11 := guard_get h11
        clear hF hD
        go_simp
        exact hK.out _ _ (Kp.refl _) rfl
      · intro a w' hk hF hD K hK
        simp only [List.getElem?_toArray, List.getElem?_cons_zero, List.getElem?_cons_succ, Option.map_some, Option.getD_some]
        have h16 : a.tmps[16]?.getD undef = .int .i64 fa := hD 9 (by kernel_rfl)
        have h17 : a.tmps[17]?.getD undef = .int .i64 ta := hD 10 (by kernel_rfl)
        have h11 : a.tmps[11]?.getD undef = .bool true := hD 4 (by kernel_rfl)
        have g11 := guard_get h11
        clear hF hD
        go_simp
        refine (nLink_any fa ta _).mono ?_
        rintro e w9 ⟨rfl, hk9⟩
        exact hK.out _ _ hk9 rfl
      · intro a w' hk hF hD K hK
        simp only [List.getElem?_toArray, List.getElem?_cons_zero, List.getElem?_cons_succ, Option.map_some, Option.getD_some]
        have h15 : a.tmps[15]?.getD undef = .map (some mb) := hD 8 (by kernel_rfl)
        have h18 : a.tmps[18]?.getD undef = pairV (min fa ta) (max fa ta) := hD 11 (by kernel_rfl)
        have h11 : a.tmps[11]?.getD undef = .bool true := hD 4 (by kernel_rfl)
        have g11 := guard_get h11
        clear hF hD
        have z1 := run_lookup (min fa ta) (max fa ta) w' mb clock es cuts HM.out ((hk.block hmb).trans hm)
        go_simp
        exact hK.out _ _ (Kp.refl _) rfl
      · intro a w' hk hF hD K hK
        simp only [List.getElem?_toArray, List.getElem?_cons_zero, List.getElem?_cons_succ, Option.map_some, Option.getD_some]
        have h19 : a.tmps[19]?.getD undef = .bool (hasC cuts (min fa ta) (max fa ta)) := hD 12 (by kernel_rfl)
        have h11 : a.tmps[11]?.getD undef = .bool true := hD 4 (by kernel_rfl)
        have g11 := guard_get h11
        clear hF hD
        go_simp
        exact hK.out _ _ (Kp.refl _) rfl
      · intro a w' hk hF hD K hK
        simp only [List.getElem?_toArray, List.getElem?_cons_zero, List.getElem?_cons_succ, Option.map_some, Option.getD_some]
        have h11 : a.tmps[11]?.getD undef = .bool true := hD 4 (by kernel_rfl)
        have h20 : a.tmps[20]?.getD undef = .bool (!hasC cuts (min fa ta) (max fa ta)) := hD 13 (by kernel_rfl)
        clear hF hD
        go_simp
        exact hK.out _ _ (Kp.refl _) rfl
    · exact fun i0 hi0 => by simp at hi0
    intro v w9 k9 hv
    have v14 : v 14 = .bool (!hasC cuts (min fa ta) (max fa ta)) := hv 14 (by omega)
    clear hv
    simp only [G2.growPut, G2.gSlot, List.getElem?_toArray, List.getElem?_cons_zero, List.getElem?_cons_succ, Option.bind_some, List.setIfInBounds_toArray, List.set_cons_zero, List.set_cons_succ, List.drop_succ_cons, List.drop_zero, v14]
    go_wp2
    go_ret
    exact ⟨by rw [HF.out]; rfl, k9⟩
end Go.Proofs.Ytmokpnkpfodppaa
namespace Go.Proofs.Ytmokpnkpfodppaa
set_option linter.unusedSimpArgs false
set_option linter.unusedVariables false
open Go.RowKit

structure Net where
  reps : Int
  tick : Int
  fates : List Fate
  cuts : List (Int × Int)
  fly : List Par
  copies : Int
  sent : Int
  delivered : Int
  lost : Int
/-- what holds of every network -/
structure OkN (N : Net) : Prop where
  nums : ∀ q ∈ N.fly, q.num < N.copies
  len : N.fly.length ≤ 1024
  fv : ∀ f ∈ N.fates, validF f = true
  flen : N.fates.length ≤ 256
  tick : 0 ≤ N.tick ∧ N.tick ≤ 1048576
  pos : 0 ≤ N.copies ∧ 0 ≤ N.sent ∧ 0 ≤ N.delivered ∧ 0 ≤ N.lost
/-- numbers that are far from any limit -/
def Few (N : Net) : Prop := N.copies ≤ 1000000 ∧ N.sent ≤ 1000000 ∧ N.delivered ≤ 1000000 ∧ N.lost ≤ 1000000
abbrev netCells (N : Net) (vf sv : Value) (mb : Nat) : List Value := [.int .i64 N.reps, .int .i64 N.tick, vf, .map (some mb), sv, .int .i64 N.copies, .int .i64 N.sent, .int .i64 N.delivered, .int .i64 N.lost]
/-- a network in memory -/
structure NetW (lo nb mb : Nat) (vf sv : Value) (w : World) (N : Net) : Prop where
  box : Bx w nb (netCells N vf sv mb)
  own : Own encFate 47 3 lo w vf N.fates
  ownb : ∀ k, vf.ownBlock = some k → k < nb ∧ k ≠ mb
  mp : ∃ es clock, w.heap[mb]? = some (.map es clock) ∧ MapOf es N.cuts
  mlo : lo ≤ mb
  mlt : mb < nb
  fl : ∃ Q, Own encPar 105 5 (nb + 1) w sv Q ∧ HeapOf Q N.fly
  ok : OkN N
section
variable {lo nb mb : Nat} {vf sv : Value} {w w' : World} {N : Net}
theorem NetW.lt (h : NetW lo nb mb vf sv w N) : nb < w.heap.size := h.box.lt (by simp)
theorem NetW.mblt (h : NetW lo nb mb vf sv w N) : mb < w.heap.size := Nat.lt_trans h.mlt h.lt
theorem NetW.kp (h : NetW lo nb mb vf sv w N) (k : Kp w w') : NetW lo nb mb vf sv w' N := by
  obtain ⟨es, clock, h1, h2⟩ := h.mp
  obtain ⟨Q, h3, h4⟩ := h.fl
  exact ⟨h.box.kp k h.lt, h.own.kp k, h.ownb, ⟨es, clock, (k.block h.mblt).trans h1, h2⟩, h.mlo, h.mlt, ⟨Q, h3.kp k, h4⟩, h.ok⟩
/-- nothing of its own has changed -/
theorem NetW.fr {S : Nat → Prop} (h : NetW lo nb mb vf sv w N) (k : Fr S w w') (h1 : ¬ S nb) (h2 : ¬ S mb) (h3 : ∀ g, vf.ownBlock = some g → ¬ S g) (h4 : ∀ g, sv.ownBlock = some g → ¬ S g) : NetW lo nb mb vf sv w' N := by
  obtain ⟨es, clock, h5, h6⟩ := h.mp
  obtain ⟨Q, h7, h8⟩ := h.fl
  refine ⟨h.box.keep (k.block nb h.lt h1), h.own.owS w' k.size fun i hi hlt => k.block i hlt (h3 i hi), h.ownb, ⟨es, clock, (k.block mb h.mblt h2).trans h5, h6⟩, h.mlo, h.mlt, ⟨Q, h7.owS w' k.size fun i hi hlt => k.block i hlt (h4 i hi), h8⟩, h.ok⟩
end
def badNew (r : Int) (fs : List Fate) : Bool := decide (r < 1) || decide (5 < r) || decide (256 < fs.length) || fs.any (fun f => !validF f)
def newN (r : Int) (fs : List Fate) : Net := ⟨r, 0, fs, [], [], 0, 0, 0, 0⟩
/-- what New returns -/
def NewR (r : Int) (fs : List Fate) (w : World) (e : Ending) (w' : World) : Prop :=
  (badNew r fs = true ∧ e = .returned (.tuple #[.pointer none, .int .i64 1]) ∨ badNew r fs = false ∧ ∃ nb mb vf, e = .returned (.tuple #[.pointer (some ⟨nb, 0, none⟩), .int .i64 0]) ∧ NetW w.heap.size nb mb vf (.slice none 0 0) w' (newN r fs)) ∧ Kp w w'
theorem okNew {r : Int} {fs : List Fate} (h : badNew r fs = false) : OkN (newN r fs) := by
  simp only [badNew, Bool.or_eq_false_iff, decide_eq_false_iff_not, List.any_eq_false] at h
  obtain ⟨⟨⟨-, -⟩, h3⟩, h4⟩ := h
  exact ⟨fun q hq => by simp [newN] at hq, by simp [newN], fun f hf => by simpa using h4 f hf, by simpa [newN] using h3, by simp [newN], by simp [newN]⟩
set_option maxRecDepth 8000 in
set_option maxHeartbeats 1600000 in
theorem nNew_any (r : Int) (v : Value) (fs : List Fate) (w : World) (hS : Fates w v fs) (hl : fs.length ≤ 1000000000) : Calls Try.prog 10 #[.int .i64 r, v] w (NewR r fs w) := by
  obtain ⟨A, c, rfl, hc, hm⟩ := hS.form
  have hmm := @run_makeMap Try.prog
  unfold NewR
  by_cases h1 : r < 1
  · have e1 : decide (r < 1) = true := decide_eq_true h1
    go_enter Try.func10, Try.ntmps10
    go_wp2
    go_ret2
    exact ⟨.inl ⟨by simp [badNew, *], rfl⟩, Kp.refl _⟩
  · have e1 : decide (r < 1) = false := decide_eq_false h1
    by_cases h2 : 5 < r
    · have e2 : decide (5 < r) = true := decide_eq_true h2
      go_enter Try.func10, Try.ntmps10
      go_wp2
      go_ret2
      exact ⟨.inl ⟨by simp [badNew, *], rfl⟩, Kp.refl _⟩
    · have e2 : decide (5 < r) = false := decide_eq_false h2
      by_cases h3 : 256 < fs.length
      · have e3 : decide (256 < (fs.length : Int)) = true := decide_eq_true (by omega)
        have e4 : decide (256 < fs.length) = true := decide_eq_true h3
        go_enter Try.func10, Try.ntmps10
        go_wp2
        go_ret2
        exact ⟨.inl ⟨by simp [badNew, *], rfl⟩, Kp.refl _⟩
      · have e3 : decide (256 < (fs.length : Int)) = false := decide_eq_false (by omega)
        have e4 : decide (256 < fs.length) = false := decide_eq_false h3
        go_enter Try.func10, Try.ntmps10
        go_wp2_with fail
        refine (ContainsFuncFate_any (fun f => !validF f) 34 [] _ fs _ hS nNew1_real (fun w' f k => (nNew1_any f w').mono fun e w2 h => h)).mono ?_
        rintro e w1 ⟨rfl, k1⟩
        have hb : badNew r fs = fs.any (fun f => !validF f) := by simp [badNew, e1, e2, e4]
        replace hb := hid hb
        generalize fs.any (fun f => !validF f) = ba at *
        cases ba with
        | true =>
          go_wp2
          go_ret2
          exact ⟨.inl ⟨hb.out, rfl⟩, k1⟩
        | false =>
          go_wp2_with fail
          refine (CloneFate_any _ fs _ (hS.keep (pl_stable _) k1) hl).mono ?_
          rintro e w2 ⟨v2, rfl, own2, k2⟩
          have hk12 := k1.trans k2
          have HB := hid hb.out
          obtain ⟨A2, c2, rfl, hc2, hm2⟩ := own2.form
          go_wp2_with fail
          go_ret2
          refine ⟨.inr ⟨HB.out, w2.heap.size + 1, w2.heap.size, .slice A2 fs.length c2, rfl, ?_⟩, ?_⟩
          rotate_left
          · exact (hk12.alloc _).alloc _
          have hb := Bx.new (w2.alloc (.map #[] 0)) #[.int .i64 r, .int .i64 0, .slice A2 fs.length c2, .map (some w2.heap.size), .slice none 0 0, .int .i64 0, .int .i64 0, .int .i64 0, .int .i64 0] 97
          rw [World.size_alloc] at hb
          have hz1 := k1.size
          have hz2 := k2.size
          refine ⟨hb, ((own2.less hz1).alloc _).alloc _, fun k hk => ?_, ⟨#[], 0, ?_, rfl⟩, by omega, Nat.lt_succ_self _, ⟨[], Own.nil _ _ _ _ _, heap_nil⟩, okNew HB.out⟩
          · have := own2.blk_lt k hk
            omega
          · rw [heap_alloc_old _ _ (by simp)]
            exact heap_alloc_new w2 _
theorem nInFlight_any (lo nb mb : Nat) (vf sv : Value) (w : World) (N : Net) (h : NetW lo nb mb vf sv w N) : Calls Try.prog 14 #[.pointer (some ⟨nb, 0, none⟩)] w fun e w' => e = .returned (.int .i64 N.fly.length) ∧ w' = w := by
  obtain ⟨Q, own, hp⟩ := h.fl
  have HL := hid hp.perm.length_eq
  obtain ⟨A, c, rfl, hc, hm⟩ := own.form
  have c0 := (h).box.cell (j := 0) rfl
  have c1 := (h).box.cell (j := 1) rfl
  have c2 := (h).box.cell (j := 2) rfl
  have c3 := (h).box.cell (j := 3) rfl
  have c4 := (h).box.cell (j := 4) rfl
  have c5 := (h).box.cell (j := 5) rfl
  have c6 := (h).box.cell (j := 6) rfl
  have c7 := (h).box.cell (j := 7) rfl
  have c8 := (h).box.cell (j := 8) rfl
  have hnb := h.lt
  clear h own hp
  go_enter Try.func14, Try.ntmps14
  go_wp2
  go_ret
  exact ⟨by rw [← HL.out]; rfl, rfl⟩
def nextR (N : Net) : Int × Bool := match N.fly with | [] => (0, false) | p :: _ => (p.due, true)
theorem HeapOf.nil_of {Q : List Par} (h : HeapOf Q []) : Q = [] := List.eq_nil_of_length_eq_zero (by rw [h.perm.length_eq]; rfl)
set_option maxHeartbeats 800000 in
theorem nNext_any (lo nb mb : Nat) (vf sv : Value) (w : World) (N : Net) (h : NetW lo nb mb vf sv w N) : Calls Try.prog 18 #[.pointer (some ⟨nb, 0, none⟩)] w fun e w' => e = .returned (.tuple #[.int .i64 (nextR N).1, .bool (nextR N).2]) ∧ w' = w := by
  obtain ⟨Q, own, hp⟩ := h.fl
  have c0 := (h).box.cell (j := 0) rfl
  have c1 := (h).box.cell (j := 1) rfl
  have c2 := (h).box.cell (j := 2) rfl
  have c3 := (h).box.cell (j := 3) rfl
  have c4 := (h).box.cell (j := 4) rfl
  have c5 := (h).box.cell (j := 5) rfl
  have c6 := (h).box.cell (j := 6) rfl
  have c7 := (h).box.cell (j := 7) rfl
  have c8 := (h).box.cell (j := 8) rfl
  have hnb := h.lt
  have hlen := h.ok.len
  clear h
  unfold nextR
  generalize N.fly = S at *
  cases S with
  | nil =>
    obtain rfl := hp.nil_of
    obtain ⟨A, c, rfl, hc, hm⟩ := own.form
    clear own hp
    go_enter Try.func18, Try.ntmps18
    go_wp2
    go_ret2
    exact ⟨rfl, rfl⟩
  | cons p S =>
    have HF := hid (heap_first hp)
    have HL : Hid (Q.length = S.length + 1) := hid hp.perm.length_eq
    have hpos : 0 < Q.length := by rw [HL.out]; omega
    obtain ⟨g, c, rfl, hc, hm, hg, hgl⟩ := own.row hpos
    obtain ⟨b, o, he, hb, i0, -⟩ := (own.sl encPar_len).par hpos
    injection he with he
    injection he with e1 e2
    subst e1 e2
    have hd : Q[0].due = p.due := by rw [← HF.out]; simp [gt, List.getD, hpos]
    rw [hd] at i0
    have hne : ((Q.length : Int) == 0) = false := beq_false_of_ne (by omega)
    have hne2 : (Q.length == 0) = false := beq_false_of_ne (by omega)
    clear own hp hd HF HL hlen
    generalize Q.length = n at *
    go_enter Try.func18, Try.ntmps18
    go_wp2
    go_ret2
    exact ⟨rfl, rfl⟩
def fateOf (N : Net) : Fate := if N.fates.length = 0 then ⟨false, 1, 0⟩ else N.fates.getD (N.sent.toNat % N.fates.length) default
theorem rem_nat {x : Int} (n : Nat) (h : 0 ≤ x) : x.tmod (n : Int) = ((x.toNat % n : Nat) : Int) := by
  rw [Int.tmod_eq_emod_of_nonneg h]
  have : x = (x.toNat : Int) := by omega
  rw [this]
  simp
set_option maxRecDepth 8000 in
set_option maxHeartbeats 1600000 in
theorem nFate_any (lo nb mb : Nat) (vf sv : Value) (w : World) (N : Net) (h : NetW lo nb mb vf sv w N) : Calls Try.prog 40 #[.pointer (some ⟨nb, 0, none⟩)] w fun e w' => e = .returned (.agg #[.bool (fateOf N).drop, .int .i64 (fateOf N).delay, .int .i64 (fateOf N).again]) ∧ Kp w w' := by
  have own := h.own
  have c0 := (h).box.cell (j := 0) rfl
  have c1 := (h).box.cell (j := 1) rfl
  have c2 := (h).box.cell (j := 2) rfl
  have c3 := (h).box.cell (j := 3) rfl
  have c4 := (h).box.cell (j := 4) rfl
  have c5 := (h).box.cell (j := 5) rfl
  have c6 := (h).box.cell (j := 6) rfl
  have c7 := (h).box.cell (j := 7) rfl
  have c8 := (h).box.cell (j := 8) rfl
  have hnb := h.lt
  have hfl := h.ok.flen
  have hsp := h.ok.pos.2.1
  have hB := Bx.new w #[.bool false, .int .i64 0, .int .i64 0] 47
  have k0 := (Kp.refl w).alloc (.cells #[.bool false, .int .i64 0, .int .i64 0] 47)
  clear h
  by_cases hz : N.fates.length = 0
  · have HF : Hid (fateOf N = ⟨false, 1, 0⟩) := hid (by rw [fateOf, if_pos hz])
    rw [HF.out]
    obtain ⟨A, c, rfl, hc, hm⟩ := own.form
    rw [hz] at c2
    rw [hz] at own
    have hE := Bx.new w #[.bool false, .int .i64 1, .int .i64 0] 47
    clear own hz HF
    go_enter Try.func40, Try.ntmps40
    go_wp2
    refine bodyPost_ret (results_cell_bx rfl _ _ w.heap.size [.bool false, .int .i64 1, .int .i64 0] _ rfl hE.range Try.underlying47 rfl (by kernel_rfl)) rfl ?_
    exact ⟨rfl, (Kp.refl w).alloc _⟩
  · have HF : Hid (fateOf N = N.fates.getD (N.sent.toNat % N.fates.length) default) := hid (by rw [fateOf, if_neg hz])
    have hk : N.sent.toNat % N.fates.length < N.fates.length := Nat.mod_lt _ (by omega)
    have hr := rem_nat N.fates.length hsp
    generalize hkk : N.sent.toNat % N.fates.length = k at *
    clear hkk
    have HG : Hid (N.fates.getD k default = N.fates[k]) := hid (by simp [List.getD, hk])
    have HF2 := hid (HF.out.trans HG.out)
    rw [HF2.out]
    obtain ⟨A, c, rfl, hc, hm⟩ := own.form
    obtain ⟨b, o, rfl, hb, i0, i1, i2⟩ := (own.sl encFate_len).fate hk
    have hne : ((N.fates.length : Int) == 0) = false := beq_false_of_ne (by omega)
    have hne2 : (N.fates.length == 0) = false := beq_false_of_ne hz
    have hkl : (k : Int) < (N.fates.length : Int) := by omega
    have hlp : ¬ (N.fates.length : Int) = 0 := by omega
    clear own HF HF2 HG
    generalize N.fates[k] = f at *
    generalize N.fates.length = n at *
    generalize N.sent = se at *
    obtain ⟨d, y, r⟩ := f
    dsimp only at i0 i1 i2 ⊢
    have hwb := alloc_lt w (.cells #[.bool false, .int .i64 0, .int .i64 0] 47)
    have hbf := hB.free (j := 0) (by simp)
    go_enter Try.func40, Try.ntmps40
    go_wp2_with fail
    generalize hw0 : w.alloc (.cells #[.bool false, .int .i64 0, .int .i64 0] 47) = w0 at *
    generalize hb0 : w.heap.size = b0 at *
    replace i0 := k0.cellS i0
    replace i1 := k0.cellS i1
    replace i2 := k0.cellS i2
    replace c2 := k0.cellS c2
    replace c6 := k0.cellS c6
    refine G2.wp_region_growG Kp [] 16 26 (G2.pvL [G2.eqv (.pointer (some ⟨nb, 0, none⟩)), G2.eqv (.pointer (some ⟨nb, 0, none⟩)), G2.eqv (.pointer (some ⟨nb, 2, none⟩)), G2.eqv (.slice (some ⟨b, o, none⟩) n c), G2.eqv (.pointer (some ⟨nb, 0, none⟩)), G2.eqv (.pointer (some ⟨nb, 0, none⟩)), G2.eqv (.pointer (some ⟨nb, 6, none⟩)), G2.eqv (.int .i64 se), G2.eqv (.pointer (some ⟨nb, 0, none⟩)), G2.eqv (.pointer (some ⟨nb, 0, none⟩)), G2.eqv (.pointer (some ⟨nb, 2, none⟩)), G2.eqv (.slice (some ⟨b, o, none⟩) n c), G2.eqv (.int .i64 n), G2.eqv (.int .i64 k), G2.eqv (.pointer (some ⟨b, o + k * 3, none⟩)), G2.eqv (.agg #[.bool d, .int .i64 y, .int .i64 r])]) (by kernel_rfl) (by kernel_rfl) rfl (fun x => Kp.refl x) (fun _ _ _ h k => h.trans k) (Kp.refl _).drew (fun _ _ _ _ _ h => h) (G2.pvL_keep (G2.stabL_cons (G2.stab_eq _) (G2.stabL_cons (G2.stab_eq _) (G2.stabL_cons (G2.stab_eq _) (G2.stabL_cons (G2.stab_eq _) (G2.stabL_cons (G2.stab_eq _) (G2.stabL_cons (G2.stab_eq _) (G2.stabL_cons (G2.stab_eq _) (G2.stabL_cons (G2.stab_eq _) (G2.stabL_cons (G2.stab_eq _) (G2.stabL_cons (G2.stab_eq _) (G2.stabL_cons (G2.stab_eq _) (G2.stabL_cons (G2.stab_eq _) (G2.stabL_cons (G2.stab_eq _) (G2.stabL_cons (G2.stab_eq _) (G2.stabL_cons (G2.stab_eq _) (G2.stabL_cons (G2.stab_eq _) (G2.stabL_nil)))))))))))))))))) ?_ ?_ ?_
    · intro i0 hi0
      have hi' : i0 = 0 ∨ i0 = 1 ∨ i0 = 2 ∨ i0 = 3 ∨ i0 = 4 ∨ i0 = 5 ∨ i0 = 6 ∨ i0 = 7 ∨ i0 = 8 ∨ i0 = 9 ∨ i0 = 10 ∨ i0 = 11 ∨ i0 = 12 ∨ i0 = 13 ∨ i0 = 14 ∨ i0 = 15 := by omega
      rcases hi' with rfl | rfl | rfl | rfl | rfl | rfl | rfl | rfl | rfl | rfl | rfl | rfl | rfl | rfl | rfl | rfl
      · intro a w' hk hF hD K hK
        simp only [List.getElem?_toArray, List.getElem?_cons_zero, List.getElem?_cons_succ, Option.map_some, Option.getD_some]
        have h0 : a.tmps[0]?.getD undef = .pointer (some ⟨nb, 0, none⟩) := hF 0 (by kernel_rfl)
        clear hF hD
        go_simp
        exact hK.out _ _ (Kp.refl _) rfl
      · intro a w' hk hF hD K hK
        simp only [List.getElem?_toArray, List.getElem?_cons_zero, List.getElem?_cons_succ, Option.map_some, Option.getD_some]
        have h10 : a.tmps[10]?.getD undef = .pointer (some ⟨nb, 0, none⟩) := hD 0 (by kernel_rfl)
        clear hF hD
        go_simp
        exact hK.out _ _ (Kp.refl _) rfl
      · intro a w' hk hF hD K hK
        simp only [List.getElem?_toArray, List.getElem?_cons_zero, List.getElem?_cons_succ, Option.map_some, Option.getD_some]
        have h11 : a.tmps[11]?.getD undef = .pointer (some ⟨nb, 0, none⟩) := hD 1 (by kernel_rfl)
        clear hF hD
        go_simp
        exact hK.out _ _ (Kp.refl _) rfl
      · intro a w' hk hF hD K hK
        simp only [List.getElem?_toArray, List.getElem?_cons_zero, List.getElem?_cons_succ, Option.map_some, Option.getD_some]
        have h12 : a.tmps[12]?.getD undef = .pointer (some ⟨nb, 2, none⟩) := hD 2 (by kernel_rfl)
        clear hF hD
        have z1 := hk.cellS c2
        go_simp
        exact hK.out _ _ (Kp.refl _) rfl
      · intro a w' hk hF hD K hK
        simp only [List.getElem?_toArray, List.getElem?_cons_zero, List.getElem?_cons_succ, Option.map_some, Option.getD_some]
        have h0 : a.tmps[0]?.getD undef = .pointer (some ⟨nb, 0, none⟩) := hF 0 (by kernel_rfl)
        clear hF hD
        go_simp
        exact hK.out _ _ (Kp.refl _) rfl
      · intro a w' hk hF hD K hK
        simp only [List.getElem?_toArray, List.getElem?_cons_zero, List.getElem?_cons_succ, Option.map_some, Option.getD_some]
        have h14 : a.tmps[14]?.getD undef = .pointer (some ⟨nb, 0, none⟩) := hD 4 (by kernel_rfl)
        clear hF hD
        go_simp
        exact hK.out _ _ (Kp.refl _) rfl
      · intro a w' hk hF hD K hK
        simp only [List.getElem?_toArray, List.getElem?_cons_zero, List.getElem?_cons_succ, Option.map_some, Option.getD_some]
        have h15 : a.tmps[15]?.getD undef = .pointer (some ⟨nb, 0, none⟩) := hD 5 (by kernel_rfl)
        clear hF hD
        go_simp
        exact hK.out _ _ (Kp.refl _) rfl
      · intro a w' hk hF hD K hK
        simp only [List.getElem?_toArray, List.getElem?_cons_zero, List.getElem?_cons_succ, Option.map_some, Option.getD_some]
        have h16 : a.tmps[16]?.getD undef = .pointer (some ⟨nb, 6, none⟩) := hD 6 (by kernel_rfl)
        clear hF hD
        have z1 := hk.cellS c6
        go_simp
        exact hK.out _ _ (Kp.refl _) rfl
      · intro a w' hk hF hD K hK
        simp only [List.getElem?_toArray, List.getElem?_cons_zero, List.getElem?_cons_succ, Option.map_some, Option.getD_some]
        have h0 : a.tmps[0]?.getD undef = .pointer (some ⟨nb, 0, none⟩) := hF 0 (by kernel_rfl)
        clear hF hD
        go_simp
        exact hK.out _ _ (Kp.refl _) rfl
      · intro a w' hk hF hD K hK
        simp only [List.getElem?_toArray, List.getElem?_cons_zero, List.getElem?_cons_succ, Option.map_some, Option.getD_some]
        have h18 : a.tmps[18]?.getD undef = .pointer (some ⟨nb, 0, none⟩) := hD 8 (by kernel_rfl)
        clear hF hD
        go_simp
        exact hK.out _ _ (Kp.refl _) rfl
      · intro a w' hk hF hD K hK
        simp only [List.getElem?_toArray, List.getElem?_cons_zero, List.getElem?_cons_succ, Option.map_some, Option.getD_some]
        have h19 : a.tmps[19]?.getD undef = .pointer (some ⟨nb, 0, none⟩) := hD 9 (by kernel_rfl)
        clear hF hD
        go_simp
        exact hK.out _ _ (Kp.refl _) rfl
      · intro a w' hk hF hD K hK
        simp only [List.getElem?_toArray, List.getElem?_cons_zero, List.getElem?_cons_succ, Option.map_some, Option.getD_some]
        have h20 : a.tmps[20]?.getD undef = .pointer (some ⟨nb, 2, none⟩) := hD 10 (by kernel_rfl)
        clear hF hD
        have z1 := hk.cellS c2
        go_simp
        exact hK.out _ _ (Kp.refl _) rfl
      · intro a w' hk hF hD K hK
        simp only [List.getElem?_toArray, List.getElem?_cons_zero, List.getElem?_cons_succ, Option.map_some, Option.getD_some]
        have h21 : a.tmps[21]?.getD undef = .slice (some ⟨b, o, none⟩) n c := hD 11 (by kernel_rfl)
        clear hF hD
        go_simp
        exact hK.out _ _ (Kp.refl _) rfl
      · intro a w' hk hF hD K hK
        simp only [List.getElem?_toArray, List.getElem?_cons_zero, List.getElem?_cons_succ, Option.map_some, Option.getD_some]
        have h17 : a.tmps[17]?.getD undef = .int .i64 se := hD 7 (by kernel_rfl)
        have h22 : a.tmps[22]?.getD undef = .int .i64 n := hD 12 (by kernel_rfl)
        clear hF hD
        go_simp
        exact hK.out _ _ (Kp.refl _) rfl
      · intro a w' hk hF hD K hK
        simp only [List.getElem?_toArray, List.getElem?_cons_zero, List.getElem?_cons_succ, Option.map_some, Option.getD_some]
        have h13 : a.tmps[13]?.getD undef = .slice (some ⟨b, o, none⟩) n c := hD 3 (by kernel_rfl)
        have h23 : a.tmps[23]?.getD undef = .int .i64 k := hD 13 (by kernel_rfl)
        clear hF hD
        go_simp
        exact hK.out _ _ (Kp.refl _) rfl
      · intro a w' hk hF hD K hK
        simp only [List.getElem?_toArray, List.getElem?_cons_zero, List.getElem?_cons_succ, Option.map_some, Option.getD_some]
        have h24 : a.tmps[24]?.getD undef = .pointer (some ⟨b, o + k * 3, none⟩) := hD 14 (by kernel_rfl)
        clear hF hD
        have z0 := hk.cellS i0
        have z1 := hk.cellS i1
        have z2 := hk.cellS i2
        go_simp
        exact hK.out _ _ (Kp.refl _) rfl
    · exact fun i0 hi0 => by simp at hi0
    intro v w9 k9 hv
    have v15 : v 15 = .agg #[.bool d, .int .i64 y, .int .i64 r] := hv 15 (by omega)
    clear hv
    simp only [G2.growPut, G2.gSlot, List.getElem?_toArray, List.getElem?_cons_zero, List.getElem?_cons_succ, Option.bind_some, List.setIfInBounds_toArray, List.set_cons_zero, List.set_cons_succ, List.drop_succ_cons, List.drop_zero, v15]
    have hB9 := hB.kp k9 hwb
    have hS := ((hB9.set (j := 0) (by simp) (.bool d)).set (j := 1) (by simp) (.int .i64 y)).set (j := 2) (by simp) (.int .i64 r)
    have d0 := hB9.cell (j := 0) rfl
    have d1 := hB9.cell (j := 1) rfl
    have d2 := hB9.cell (j := 2) rfl
    have f0 := hB9.free (j := 0) (by simp)
    have f1 := hB9.free (j := 1) (by simp)
    have f2 := hB9.free (j := 2) (by simp)
    go_wp2
    refine bodyPost_ret (results_cell_bx rfl _ _ b0 [.bool d, .int .i64 y, .int .i64 r] _ rfl hS.range Try.underlying47 rfl (by kernel_rfl)) rfl ?_
    have k1 := k0.trans k9
    exact ⟨rfl, ((k1.set (p := ⟨b0, 0, none⟩) (by show w.heap.size ≤ b0; omega) _).set (p := ⟨b0, 1, none⟩) (by show w.heap.size ≤ b0; omega) _).set (p := ⟨b0, 2, none⟩) (by show w.heap.size ≤ b0; omega) _⟩
end Go.Proofs.Ytmokpnkpfodppaa
namespace Go.Proofs.Ytmokpnkpfodppaa
set_option linter.unusedSimpArgs false
set_option linter.unusedVariables false
open Go.RowKit

/-- a copy of a message takes off -/
def addC (t : Int) (m : Message) (data : List UInt8) (N : Net) (dl : Int) : Net :=
  if dl ≠ 0 then { N with fly := insP ⟨t + dl, N.copies, m.sender, m.to, data⟩ N.fly, copies := N.copies + 1 } else N
def lostB (N : Net) (m : Message) : Bool := (fateOf N).drop || !linkedB N.reps N.cuts m.sender m.to
def fullB (N : Net) (m : Message) : Bool := decide (1024 ≤ N.fly.length) || (decide (N.fly.length = 1023) && !decide ((fateOf N).again = 0) && !lostB N m)
def sent1 (N : Net) (t : Int) : Net := { N with sent := N.sent + 1, tick := t }
def sendN (N : Net) (m : Message) (t : Int) : Net × Int :=
  if pairB N.reps m.sender m.to = false then (N, 1)
  else if lateB N.tick t then (N, 2)
  else if (encE (numMessage m)).2 ≠ 0 then (N, (encE (numMessage m)).2)
  else if fullB N m then (N, 8)
  else if lostB N m then ({ sent1 N t with lost := N.lost + 1 }, 0)
  else ([(fateOf N).delay, (fateOf N).again].foldl (addC t m (encE (numMessage m)).1) (sent1 N t), 0)

theorem insP_len (p : Par) (S : List Par) : (insP p S).length = S.length + 1 := by rw [(insP_perm p S).length_eq]; rfl
theorem OkN.sent1 {N : Net} (h : OkN N) {t : Int} (ht : 0 ≤ t ∧ t ≤ 1048576) : OkN (sent1 N t) :=
  ⟨h.nums, h.len, h.fv, h.flen, ht, h.pos.1, by have := h.pos.2.1; show 0 ≤ N.sent + 1; omega, h.pos.2.2⟩
theorem OkN.lost1 {N : Net} (h : OkN N) : OkN { N with lost := N.lost + 1 } :=
  ⟨h.nums, h.len, h.fv, h.flen, h.tick, h.pos.1, h.pos.2.1, h.pos.2.2.1, by have := h.pos.2.2.2; show 0 ≤ N.lost + 1; omega⟩
theorem OkN.addC {N : Net} (h : OkN N) {t dl : Int} {m : Message} {data : List UInt8} (hl : dl ≠ 0 → N.fly.length + 1 ≤ 1024) : OkN (addC t m data N dl) := by
  unfold Go.Proofs.Ytmokpnkpfodppaa.addC
  by_cases hd : dl ≠ 0
  · rw [if_pos hd]
    refine ⟨fun q hq => ?_, by show (insP _ _).length ≤ 1024; rw [insP_len]; exact hl hd, h.fv, h.flen, h.tick, by have := h.pos.1; show 0 ≤ N.copies + 1; omega, h.pos.2⟩
    show q.num < N.copies + 1
    rcases (insP_mem _ q N.fly).1 hq with rfl | hq
    · show N.copies < N.copies + 1
      omega
    · have := h.nums q hq
      omega
  · rw [if_neg hd]
    exact h
theorem fateOf_valid {N : Net} (h : OkN N) : validF (fateOf N) = true := by
  unfold fateOf
  split
  · rfl
  · rename_i hz
    have hk : N.sent.toNat % N.fates.length < N.fates.length := Nat.mod_lt _ (by omega)
    have : N.fates.getD (N.sent.toNat % N.fates.length) default = N.fates[N.sent.toNat % N.fates.length] := by simp [List.getD, hk]
    rw [this]
    exact h.fv _ (List.getElem_mem hk)
theorem validF_bounds {f : Fate} (h : validF f = true) : 0 ≤ f.delay ∧ f.delay ≤ 1024 ∧ 0 ≤ f.again ∧ f.again ≤ 1024 ∧ (f.drop = false → 1 ≤ f.delay) := by
  unfold validF at h
  cases hd : f.drop with
  | true =>
    rw [hd, if_pos rfl] at h
    simp only [Bool.and_eq_true, decide_eq_true_eq] at h
    refine ⟨by omega, by omega, by omega, by omega, fun h => by cases h⟩
  | false =>
    rw [hd, if_neg (by simp)] at h
    simp only [Bool.and_eq_true, decide_eq_true_eq] at h
    refine ⟨by omega, by omega, by omega, by omega, fun _ => by omega⟩
theorem addC_facts (t : Int) (m : Message) (data : List UInt8) (N : Net) (dl : Int) :
    N.copies ≤ (addC t m data N dl).copies ∧ (addC t m data N dl).copies ≤ N.copies + 1 ∧ (addC t m data N dl).fly.length ≤ N.fly.length + 1 ∧ (addC t m data N dl).reps = N.reps ∧ (addC t m data N dl).fates = N.fates ∧ (addC t m data N dl).cuts = N.cuts ∧ (addC t m data N dl).tick = N.tick ∧ (addC t m data N dl).sent = N.sent ∧ (addC t m data N dl).delivered = N.delivered ∧ (addC t m data N dl).lost = N.lost := by
  unfold addC
  split
  · refine ⟨?_, Int.le_refl _, ?_, rfl, rfl, rfl, rfl, rfl, rfl, rfl⟩
    · show N.copies ≤ N.copies + 1
      omega
    · show (insP _ _).length ≤ _
      rw [insP_len]
      omega
  · exact ⟨by omega, by omega, by omega, rfl, rfl, rfl, rfl, rfl, rfl, rfl⟩
theorem addK_facts (t : Int) (m : Message) (data : List UInt8) : ∀ (l : List Int) (N : Net),
    N.copies ≤ (l.foldl (addC t m data) N).copies ∧ (l.foldl (addC t m data) N).copies ≤ N.copies + l.length ∧ (l.foldl (addC t m data) N).fly.length ≤ N.fly.length + l.length ∧ (l.foldl (addC t m data) N).reps = N.reps ∧ (l.foldl (addC t m data) N).fates = N.fates ∧ (l.foldl (addC t m data) N).cuts = N.cuts ∧ (l.foldl (addC t m data) N).tick = N.tick ∧ (l.foldl (addC t m data) N).sent = N.sent ∧ (l.foldl (addC t m data) N).delivered = N.delivered ∧ (l.foldl (addC t m data) N).lost = N.lost
  | [], N => ⟨Int.le_refl _, by simp, by simp, rfl, rfl, rfl, rfl, rfl, rfl, rfl⟩
  | dl :: l, N => by
    obtain ⟨a1, a2, a3, a4, a5, a6, a7, a8, a9, a10⟩ := addC_facts t m data N dl
    obtain ⟨b1, b2, b3, b4, b5, b6, b7, b8, b9, b10⟩ := addK_facts t m data l (addC t m data N dl)
    rw [List.foldl_cons, List.length_cons]
    exact ⟨by omega, by push_cast; omega, by omega, b4.trans a4, b5.trans a5, b6.trans a6, b7.trans a7, b8.trans a8, b9.trans a9, b10.trans a10⟩
theorem foldl_take_succ {α β : Type} (f : β → α → β) (l : List α) (k : Nat) (b : β) (h : k < l.length) : (l.take (k + 1)).foldl f b = f ((l.take k).foldl f b) l[k] := by
  rw [List.take_succ_eq_append_getElem h, List.foldl_append]
  rfl
section
variable {lo nb mb : Nat} {vf sv sv' : Value} {w w' : World} {N N' : Net}
/-- a change of the network's own blocks -/
theorem NetW.upd (h : NetW lo nb mb vf sv w N) (k : Fr (Qb nb sv) w w') (hB : Bx w' nb (netCells N' vf sv' mb)) (h1 : N'.fates = N.fates) (h2 : N'.cuts = N.cuts) (h3 : ∃ Q, Own encPar 105 5 (nb + 1) w' sv' Q ∧ HeapOf Q N'.fly) (h4 : OkN N') : NetW lo nb mb vf sv' w' N' := by
  obtain ⟨es, clock, h5, h6⟩ := h.mp
  obtain ⟨Q, h7, h8⟩ := h.fl
  have hn : ∀ i, i < nb → ¬ Qb nb sv i := fun i hi hq => by
    rcases hq with e | e
    · omega
    · have := h7.ge i e
      omega
  refine ⟨hB, ?_, h.ownb, ⟨es, clock, (k.block mb h.mblt (hn mb h.mlt)).trans h5, by rw [h2]; exact h6⟩, h.mlo, h.mlt, h3, h4⟩
  rw [h1]
  exact h.own.owS w' k.size fun i hi hlt => k.block i hlt (hn i (h.ownb i hi).1)
/-- .. of its box alone -/
theorem NetW.updB (h : NetW lo nb mb vf sv w N) (k : Kg w w' nb) (hB : Bx w' nb (netCells N' vf sv mb)) (h1 : N'.fates = N.fates) (h2 : N'.cuts = N.cuts) (h3 : N'.fly = N.fly) (h4 : OkN N') : NetW lo nb mb vf sv w' N' := by
  obtain ⟨Q, h7, h8⟩ := h.fl
  exact h.upd (k.fr (.inl rfl)) hB h1 h2 ⟨Q, h7.kg k (Nat.lt_succ_self _), by rw [h3]; exact h8⟩ h4
end
/-- a message's cells -/
theorem MessageV.cells2 {w : World} {val : Value} {m : Message} (h : MessageV w val m) : ∃ cs : List Value, val = .agg cs.toArray ∧ cs.length = 18 ∧ (∀ u ∈ cs, u.oneCell' = true) ∧ cs[1]? = some (.int .i64 m.sender) ∧ cs[2]? = some (.int .i64 m.to) := by
  obtain ⟨cs, e, hl, h1⟩ := message_cells w val m h
  obtain ⟨v3, v4, v5, v6, v7, rfl, -⟩ := h
  injection e with e
  refine ⟨cs, congrArg Value.agg e, hl, h1, ?_, ?_⟩
  · have := congrArg (fun a : Array Value => a[1]?) e
    simpa using this.symm
  · have := congrArg (fun a : Array Value => a[2]?) e
    simpa using this.symm
end Go.Proofs.Ytmokpnkpfodppaa
