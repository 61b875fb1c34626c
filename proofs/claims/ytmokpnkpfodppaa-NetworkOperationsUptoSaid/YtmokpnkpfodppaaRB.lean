/-
The reader: structs without lists.
The reader: a list under way: its row and what its elements lead to.
The reader: lists of integers.
-/
import Derived.Test.YtmokpnkpfodppaaRA
import Derived.Test.YtmokpnkpfodppaaGN
namespace Go.Proofs.Ytmokpnkpfodppaa
set_option linter.unusedSimpArgs false
set_option linter.unusedVariables false
open Go.RowKit

set_option maxHeartbeats 1000000 in
theorem rdNeed_any (W0 : World) (g : Nat) (l : List Int) (bad : Bool) (w : World) (hr : Rdr W0 w g l bad) : Reads W0 g needP (VA (Pl encNeed)) l bad 97 #[.pointer (some ⟨g, 0, none⟩)] w := by
  have hg := hr.lt
  have hlo := hr.lo
  have k0 := (Kp.refl w).alloc (.cells #[.int .i64 0, .int .i64 0, .int .i64 0, .int .i64 0] 80)
  have hr0 := hr.keep k0
  have hB0 := Bx.new w #[.int .i64 0, .int .i64 0, .int .i64 0, .int .i64 0] 80
  have hg0 := k0.kg g
  go_enter Try.func97, Try.ntmps97
  go_wp2_with fail
  try rw [← World.size_alloc w (.cells #[.int .i64 0, .int .i64 0, .int .i64 0, .int .i64 0] 80)]
  generalize w.alloc (.cells #[.int .i64 0, .int .i64 0, .int .i64 0, .int .i64 0] 80) = w0 at *
  generalize hb : w.heap.size = b at *
  have HB := hid hb
  clear hb k0 hr
  have hK0 := Kb.refl g b w0
  have hlob : W0.heap.size ≤ b := by omega
  refine (into_lit W0 g b 0 4 _ _ _ w0 _ hr0 hg hB0 (by simp) (by simp) (by simp) rfl).mono ?_
  rintro e w1 ⟨rfl, xs, l1, bad1, hx, hs1, hr1, hB1, hk1⟩
  obtain ⟨x0, x1, x2, x3, rfl⟩ := len4 hx
  simp [putI] at hB1
  have hK1 := hK0.trans hk1
  try replace hoA := hoA.kb2 hk1 hg
  try replace hoB := hoB.kb2 hk1 hg
  try replace hoC := hoC.kb2 hk1 hg
  try replace hoD := hoD.kb2 hk1 hg
  try replace hoE := hoE.kb2 hk1 hg
  try replace hoF := hoF.kb2 hk1 hg
  try replace hcp := Kb.cell0 hk1 hcp hag hab
  clear hx hk1 hB0 hr0 hK0
  go_wp2_with (first | (refine wpList_load_mid rfl 80 (.tmp 2) rfl b 0 rfl _ _ hB1.range Try.underlying80 rfl (by kernel_rfl) ?_) | (refine wpList_store_mid rfl 80 (.tmp 2) (.tmp 13) rfl b 0 _ rfl rfl hB1.there (by kernel_rfl) (all_oneCell_toArray (by simp [Value.oneCell'])) ?_))
  try simp only [Exit.inBlock, Exit.then]
  refine bodyPost_ret (results_cell_bx rfl _ _ b _ _ rfl (hB1.self.range) Try.underlying80 rfl (by kernel_rfl)) rfl ?_
  refine fin_end hB1 hK1 hg0 (Nat.le_of_eq HB.out) hr1 hlob hg (x := (⟨x0, x1, x2, x3⟩ : Need)) ?ow ?sp
  case ow => exact fun _ _ _ => ⟨_, rfl, rfl⟩
  case sp => exact SpecP.of_eq (many4 _) (hs1.bind (SpecP.ret _ _ _))
set_option maxHeartbeats 1000000 in
theorem rdSpan_any (W0 : World) (g : Nat) (l : List Int) (bad : Bool) (w : World) (hr : Rdr W0 w g l bad) : Reads W0 g spanP (VA (Pl encSpan)) l bad 82 #[.pointer (some ⟨g, 0, none⟩)] w := by
  have hg := hr.lt
  have hlo := hr.lo
  have k0 := (Kp.refl w).alloc (.cells #[.int .i64 0, .int .i64 0, .int .i64 0] 84)
  have hr0 := hr.keep k0
  have hB0 := Bx.new w #[.int .i64 0, .int .i64 0, .int .i64 0] 84
  have hg0 := k0.kg g
  go_enter Try.func82, Try.ntmps82
  go_wp2_with fail
  try rw [← World.size_alloc w (.cells #[.int .i64 0, .int .i64 0, .int .i64 0] 84)]
  generalize w.alloc (.cells #[.int .i64 0, .int .i64 0, .int .i64 0] 84) = w0 at *
  generalize hb : w.heap.size = b at *
  have HB := hid hb
  clear hb k0 hr
  have hK0 := Kb.refl g b w0
  have hlob : W0.heap.size ≤ b := by omega
  refine (into_lit W0 g b 0 3 _ _ _ w0 _ hr0 hg hB0 (by simp) (by simp) (by simp) rfl).mono ?_
  rintro e w1 ⟨rfl, xs, l1, bad1, hx, hs1, hr1, hB1, hk1⟩
  obtain ⟨x0, x1, x2, rfl⟩ := len3 hx
  simp [putI] at hB1
  have hK1 := hK0.trans hk1
  try replace hoA := hoA.kb2 hk1 hg
  try replace hoB := hoB.kb2 hk1 hg
  try replace hoC := hoC.kb2 hk1 hg
  try replace hoD := hoD.kb2 hk1 hg
  try replace hoE := hoE.kb2 hk1 hg
  try replace hoF := hoF.kb2 hk1 hg
  try replace hcp := Kb.cell0 hk1 hcp hag hab
  clear hx hk1 hB0 hr0 hK0
  go_wp2_with (first | (refine wpList_load_mid rfl 84 (.tmp 2) rfl b 0 rfl _ _ hB1.range Try.underlying84 rfl (by kernel_rfl) ?_) | (refine wpList_store_mid rfl 84 (.tmp 2) (.tmp 9) rfl b 0 _ rfl rfl hB1.there (by kernel_rfl) (all_oneCell_toArray (by simp [Value.oneCell'])) ?_))
  try simp only [Exit.inBlock, Exit.then]
  refine bodyPost_ret (results_cell_bx rfl _ _ b _ _ rfl (hB1.self.range) Try.underlying84 rfl (by kernel_rfl)) rfl ?_
  refine fin_end hB1 hK1 hg0 (Nat.le_of_eq HB.out) hr1 hlob hg (x := (⟨x0, x1, x2⟩ : Span)) ?ow ?sp
  case ow => exact fun _ _ _ => ⟨_, rfl, rfl⟩
  case sp => exact SpecP.of_eq (many3 _) (hs1.bind (SpecP.ret _ _ _))
theorem rdNeed_real : Real Try.prog 97 := ⟨_, Try.func97, by kernel_rfl, by kernel_rfl⟩
theorem rdSpan_real : Real Try.prog 82 := ⟨_, Try.func82, by kernel_rfl, by kernel_rfl⟩
theorem rdInteger_real : Real Try.prog 95 := ⟨_, Try.func95, by kernel_rfl, by kernel_rfl⟩
end Go.Proofs.Ytmokpnkpfodppaa
namespace Go.Proofs.Ytmokpnkpfodppaa
set_option linter.unusedSimpArgs false
set_option linter.unusedVariables false
open Go.RowKit

/-- what the elements lead to lies elsewhere than the row -/
def Els {α : Type} {size : Nat} (R : Rd α) (base : Nat) (w : World) (s : Option Nat) (css : List (Elm size)) (xs : List α) : Prop :=
  css.length = xs.length ∧ ∀ k (h1 : k < css.length) (h2 : k < xs.length), ∃ b t, base ≤ b ∧ t ≤ w.heap.size ∧ (∀ q, s = some q → q < b ∨ t ≤ q) ∧ Ow b t w fun w' => R w' css[k].val xs[k]
section
variable {α : Type} {size : Nat} {R : Rd α} {base g : Nat} {w w' : World} {s s' : Option Nat} {css : List (Elm size)} {xs : List α}
theorem Els.nil (R : Rd α) (size base : Nat) (w : World) (s : Option Nat) : Els (size := size) R base w s [] [] := ⟨rfl, fun k h1 _ => absurd h1 (by simp)⟩
theorem Els.kg (h : Els R base w s css xs) (hk : Kg w w' g) (hg : g < base) : Els R base w' s css xs := by
  refine ⟨h.1, fun k h1 h2 => ?_⟩
  obtain ⟨b, t, hb, ht, hs, ho⟩ := h.2 k h1 h2
  exact ⟨b, t, hb, Nat.le_trans ht hk.size, hs, ho.kg hk (by omega) ht⟩
theorem Els.grow (h : Els R base w s css xs) (hk : w.grownBy w' s) (hs' : s' = s ∨ s' = some w.heap.size) : Els R base w' s' css xs := by
  refine ⟨h.1, fun k h1 h2 => ?_⟩
  obtain ⟨b, t, hb, ht, hs, ho⟩ := h.2 k h1 h2
  refine ⟨b, t, hb, Nat.le_trans ht hk.size, fun q hq => ?_, ho.step hk.size fun i hi1 hi2 => hk.block i (by omega) ?_⟩
  · rcases hs' with e | e
    · exact hs q (e ▸ hq)
    · rw [e] at hq
      injection hq with hq
      right
      omega
  · intro e
    rcases hs i e.symm with h3 | h3 <;> omega
theorem Els.snoc (h : Els R base w s css xs) (c : Elm size) (x : α) {b t : Nat} (hb : base ≤ b) (ht : t ≤ w.heap.size) (hs : ∀ q, s = some q → q < b ∨ t ≤ q) (ho : Ow b t w fun w' => R w' c.val x) : Els R base w s (css ++ [c]) (xs ++ [x]) := by
  have hl := h.1
  refine ⟨by simp [h.1], fun k h1 h2 => ?_⟩
  by_cases hk : k < css.length
  · rw [List.getElem_append_left hk, List.getElem_append_left (by omega)]
    exact h.2 k hk (by omega)
  · have e1 : k = css.length := by simp at h1; omega
    subst e1
    have e2 : (css ++ [c])[css.length] = c := by simp
    have e3 : (xs ++ [x])[css.length]'h2 = x := by simp [hl]
    rw [e2, e3]
    exact ⟨b, t, hb, ht, hs, ho⟩
theorem Els.fin {e : Nat} {v : Value} (h : Els R base w s css xs) (own : Own encC e size base w v css) : Ow base w.heap.size w fun w' => Sl R size w' v xs := by
  intro w' h1 h2
  refine sl_of ((own.ow w' h1 h2).sl encC_len) h.1 fun k h3 h4 => ?_
  obtain ⟨b, t, hb, ht, hs, ho⟩ := h.2 k h3 h4
  exact ho w' h1 fun i hi1 hi2 => h2 i (by omega) (by omega)
end
theorem VA.inj {α : Type} {R : Rd α} {w : World} {cs : List Value} {x : α} (h : VA R w (.agg cs.toArray) x) : R w cs x := by
  obtain ⟨cs', h1, h2⟩ := h
  injection h1 with h1
  have : cs = cs' := by
    have := congrArg Array.toList h1
    simpa using this
  rw [this]
  exact h2
/-- the length of a list -/
def lenK (n : Int) : Ps Nat := fun l => if n < 0 ∨ (l.length : Int) < n then none else some (n.toNat, l)
theorem lenP_eq : lenP = bindP intP lenK := by
  funext l
  cases l with
  | nil => rfl
  | cons n l => rfl
theorem SpecP.lenBad {n : Int} {l l1 l2 : List Int} {bad b1 : Bool} (x : Nat) (h : SpecP intP l bad n l1 b1) (hn : n < 0 ∨ (l1.length : Int) < n) : SpecP lenP l bad x l2 true := by
  rw [lenP_eq]
  refine h.bind ?_
  unfold SpecP lenK
  cases b1 with
  | true => simp
  | false => simp [hn]
theorem SpecP.lenOk {n : Int} {l l1 : List Int} {bad b1 : Bool} (h : SpecP intP l bad n l1 b1) (hn : ¬ (n < 0 ∨ (l1.length : Int) < n)) : SpecP lenP l bad n.toNat l1 b1 := by
  rw [lenP_eq]
  refine h.bind ?_
  unfold SpecP lenK
  cases b1 with
  | true => simp
  | false => simp [hn]
theorem loopP_none {α : Type} {P : Ps α} {l : List Int} {k : Nat} (h : loopP P k l = none) : ∀ d, loopP P (k + d) l = none
  | 0 => h
  | d + 1 => by
    rw [← Nat.add_assoc, loopP_snoc]
    unfold bindP
    rw [loopP_none h d]
theorem SpecP.early {α : Type} {P : Ps α} {l l' : List Int} {bad : Bool} {k n : Nat} {xs : List α} (h : SpecP (loopP P k) l bad xs l' true) (hkn : k ≤ n) : SpecP (loopP P n) l bad xs l' true := by
  unfold SpecP at *
  cases bad with
  | true => simp
  | false =>
    simp only [Bool.false_eq_true, if_false] at h ⊢
    cases h1 : loopP P k l with
    | some q => rw [h1] at h; exact absurd h.1 (by simp)
    | none =>
      have := loopP_none h1 (n - k)
      rw [show k + (n - k) = n by omega] at this
      rw [this]
      trivial
theorem SpecP.bad {α : Type} (P : Ps α) (l l' : List Int) (x : α) : SpecP P l true x l' true := by unfold SpecP; simp
end Go.Proofs.Ytmokpnkpfodppaa
namespace Go.Proofs.Ytmokpnkpfodppaa
set_option linter.unusedSimpArgs false
set_option linter.unusedVariables false
open Go.RowKit

theorem stInt : SliceT Try.prog 24 3 1 8 := SliceT.mk' Try.underlying24 (z := .int .i64 0) (by kernel_rfl) rfl (by omega)
set_option maxRecDepth 8000 in
set_option maxHeartbeats 4000000 in
theorem elemInt_any (W0 : World) (g : Nat) (l : List Int) (bad : Bool) (P : Ps Int) (F : FuncId) (bound cap : List Value) (w : World) (hr : Rdr W0 w g l bad) (hF : Real Try.prog F)
    (hf : ∀ (w' : World) (l' : List Int) (bad' : Bool), Kg w w' g → Rdr W0 w' g l' bad' → Reads W0 g P (V1 (Pl encInt)) l' bad' F (bound ++ cap).toArray w') :
    Reads W0 g (listP P) (Sl (Pl encInt) 1) l bad 96 #[.pointer (some ⟨g, 0, none⟩), .func (.func F) bound.toArray cap.toArray] w := by
  have HC := hid hf
  clear hf
  have hcf := fun args w => hF.run args w
  have hg := hr.lt
  have hkp := hr.kp
  have hlo := hr.lo
  go_enter Try.func96, Try.ntmps96
  go_wp2_with fail
  refine (rdInteger_any W0 g l bad w hr).mono ?_
  rintro e w1 ⟨v, n, l1, b1, rfl, hv, hs, hr1, hk1⟩
  obtain rfl := hv.here
  clear hv hr
  obtain ⟨v1, h1, h2, h3, h4, h5⟩ := hr1.cells
  have hg1 := hr1.lt
  have hlen := hr1.len
  obtain ⟨A, c, rfl, hc, hm⟩ := h1.form
  by_cases hn : n < 0 ∨ (l1.length : Int) < n
  · have hspec : SpecP (listP P) l bad [] l1 true := SpecP.bind (hs.lenBad (l2 := l1) 0 hn) (SpecP.bad _ _ _ _)
    have hrE := hr1.bad true
    have hkE := hk1.setg 1 (.bool true)
    have hcE := World.cell?_setCell_same w1 ⟨g, 1, none⟩ (.bool true) h4
    have hsz := set_size w1 ⟨g, 1, none⟩ (.bool true)
    clear hs hr1 hk1 HC
    by_cases hn0 : n < 0
    · have e1 : decide (n < 0) = true := decide_eq_true hn0
      go_wp2
      generalize w1.setCell ⟨g, 1, none⟩ (.bool true) = wE at *
      have hgE : g < wE.heap.size := by omega
      clear hsz
      go_loopw [6, 7] (fun v i wr => v = .slice none 0 0 ∧ i = .int .i64 0 ∧ wr = wE) (fun _ _ _ => 0)
      case atStart => exact ⟨rfl, rfl, rfl⟩
      case round =>
        obtain ⟨rfl, rfl, rfl⟩ := hrel
        by_cases hpos : 0 < n
        all_goals
          first
            | (exfalso; omega)
            | (go_wp2
               go_ret
               exact ⟨_, [], _, _, rfl, fun _ _ _ => Sl.nil _ _ _, hspec, hrE, hkE⟩)
    · have e1 : decide (n < 0) = false := decide_eq_false hn0
      have e2 : decide ((l1.length : Int) < n) = true := decide_eq_true (by omega)
      go_wp2
      generalize w1.setCell ⟨g, 1, none⟩ (.bool true) = wE at *
      have hgE : g < wE.heap.size := by omega
      clear hsz
      go_loopw [6, 7] (fun v i wr => v = .slice none 0 0 ∧ i = .int .i64 0 ∧ wr = wE) (fun _ _ _ => 0)
      case atStart => exact ⟨rfl, rfl, rfl⟩
      case round =>
        obtain ⟨rfl, rfl, rfl⟩ := hrel
        by_cases hpos : 0 < n
        all_goals
          first
            | (exfalso; omega)
            | (go_wp2
               go_ret
               exact ⟨_, [], _, _, rfl, fun _ _ _ => Sl.nil _ _ _, hspec, hrE, hkE⟩)
  · have e1 : decide (n < 0) = false := decide_eq_false (by omega)
    have e2 : decide ((l1.length : Int) < n) = false := decide_eq_false (by omega)
    have hlp := hs.lenOk hn
    clear hs
    cases b1 with
    | true =>
      have hspec : SpecP (listP P) l bad [] l1 true := SpecP.bind hlp (SpecP.bad _ _ _ _)
      have hrE := hr1
      have hkE := hk1
      have hcE := h4
      clear hlp HC
      go_wp2
      generalize w1 = wE at *
      go_loopw [6, 7] (fun v i wr => v = .slice none 0 0 ∧ i = .int .i64 0 ∧ wr = wE) (fun _ _ _ => 0)
      case atStart => exact ⟨rfl, rfl, rfl⟩
      case round =>
        obtain ⟨rfl, rfl, rfl⟩ := hrel
        by_cases hpos : 0 < n
        all_goals
          first
            | (exfalso; omega)
            | (go_wp2
               go_ret
               exact ⟨_, [], _, _, rfl, fun _ _ _ => Sl.nil _ _ _, hspec, hrE, hkE⟩)
    | false =>
      go_wp2
      go_loopw [6, 7] (fun v i wr => ∃ (css : List (Elm 1)) (xs : List Int) (l' : List Int) (bad' : Bool), xs.length ≤ n.toNat ∧ i = .int .i64 (xs.length : Int) ∧ Own encC 3 1 w.heap.size wr v css ∧ Els (Pl encInt) w.heap.size wr v.ownBlock css xs ∧ SpecP (loopP P xs.length) l1 false xs l' bad' ∧ Rdr W0 wr g l' bad' ∧ Kg w wr g) (fun _ i _ => n.toNat - (intOf i).toNat)
      case atStart => exact ⟨[], [], l1, false, Nat.zero_le _, rfl, Own.nil _ _ _ _ _, Els.nil _ _ _ _ _, SpecP.ret _ _ _, hr1, hk1⟩
      case round =>
        clear hr1 hk1 h1 h2 h3 h4 h5 hg1
        obtain ⟨css, xs, l2, b2, hxs, rfl, own, hels, hs2, hr2, hk2⟩ := hrel
        obtain ⟨v2, -, h2, h3, h4, h5⟩ := hr2.cells
        have hg2 := hr2.lt
        obtain ⟨A2, c2, rfl, hc2, hm2⟩ := own.form
        have hcl := hels.1
        rw [hcl] at own hels hc2 ⊢
        cases b2 with
        | true =>
          have hspec : SpecP (listP P) l bad xs l2 true := SpecP.bind hlp (hs2.early hxs)
          have hfin := hels.fin own
          by_cases hpos : xs.length < n.toNat
          all_goals
            go_wp2
            go_ret
            exact ⟨_, xs, l2, _, rfl, hfin, hspec, hr2, hk2⟩
        | false =>
          by_cases hpos : xs.length < n.toNat
          · have e3 : decide ((xs.length : Int) < n) = true := decide_eq_true (by omega)
            have hxn : ((xs.length : Int) < n) := by omega
            go_wp2_with fail
            refine (HC.out _ l2 false hk2 hr2).mono ?_
            rintro e w3 ⟨v3, x, l3, b3, rfl, ho, hs3, hr3, hk3⟩
            obtain rfl : v3 = .int .i64 x := (by simpa [V1, Pl, encInt] using ho.here); have hlen3 : [Value.int .i64 x].length = 1 := rfl; have hone3 : ∀ u ∈ [Value.int .i64 x], u.oneCell' = true := (by simp [Value.oneCell']); have hEl : Ow wr.heap.size w3.heap.size w3 (fun w' => Pl encInt w' [Value.int .i64 x] x) := ho
            have own3 := own.kg hk3 hg
            have hels3 := hels.kg hk3 hg
            have hge := own.ge
            have hlt3 := World.ownsRow.lt own
            have hkk := hk2.trans hk3
            have hz3 := hk2.size
            have hz4 := hk3.size
            clear own hels h2 h3 h4 h5 hr2
            have hcap : (css ++ [(⟨_, hlen3, hone3⟩ : Elm 1)]).length = css.length + 1 := by simp
            go_wp2_with (at_builtin; skip; refine wpl_append_flat rfl (.tmp 36) (.tmp 39) rfl stInt encC_len encC_one rfl (own3.alloc _) rfl (Sl.one (R := Pl encC) w3 _ 3 1 (⟨_, hlen3, hone3⟩ : Elm 1) hlen3 rfl) (by simp; omega) (by simp; omega) (by simp; omega) ?_; intro v4 w4 hown4 hgrow4 hat4 hnil4)
            have hk4 : Kg w w4 g := ⟨hgrow4.os.trans hkk.os, hgrow4.tape.trans hkk.tape, hgrow4.output.trans hkk.output, by have := hgrow4.size; simp at this; omega, fun k hk hne => by rw [hgrow4.block k (by simp; omega) (fun e => by have := hge k e.symm; omega), heap_alloc_old _ _ (by omega)]; exact hkk.block k hk hne⟩
            have hg4 : w4.heap[g]? = w3.heap[g]? := by rw [hgrow4.block g (by simp; omega) (fun e => by have := hge g e.symm; omega), heap_alloc_old _ _ (by omega)]
            have hr4 := hr3.keepG (Kg.to_kp hkp hk4 hlo) hg4
            have hels4 := ((hels3.snoc (⟨_, hlen3, hone3⟩ : Elm 1) x hz3 (Nat.le_refl _) (fun q hq => .inl (hlt3 q hq).2) hEl).kg (((Kp.refl w3).alloc _).kg g) hg).grow hgrow4 hat4
            have hs4 := SpecP.bind (Q := fun ys => bindP P fun y => retP (ys ++ [y])) hs2 (SpecP.bind (Q := fun y => retP (xs ++ [y])) hs3 (SpecP.ret (xs ++ [x]) l3 b3))
            rw [← loopP_snoc] at hs4
            clear hgrow4 hat4 hnil4 own3 hels3 ho hEl hr3 hk3 hs3 hs2 hkk
            go_roundw
            case rel => exact ⟨_, xs ++ [x], l3, b3, by simp; omega, by simp, hown4, hels4, by simpa using hs4, hr4, hk4⟩
            case measure => simp [intOf]; omega
          · have e3 : decide ((xs.length : Int) < n) = false := decide_eq_false (by omega)
            have hxe := hid (show xs.length = n.toNat by omega)
            rw [hxe.out] at hs2
            have hspec : SpecP (listP P) l bad xs l2 false := SpecP.bind hlp hs2
            have hfin := hels.fin own
            go_wp2
            go_ret
            exact ⟨_, xs, l2, _, rfl, hfin, hspec, hr2, hk2⟩
theorem Reads.imp {α : Type} {W0 : World} {g : Nat} {P : Ps α} {Q Q' : World → Value → α → Prop} {l : List Int} {bad : Bool} {F : FuncId} {args : Array Value} {w : World} (h : Reads W0 g P Q l bad F args w) (hi : ∀ w v x, Q w v x → Q' w v x) : Reads W0 g P Q' l bad F args w := by
  refine h.mono ?_
  rintro e w' ⟨v, x, l', b', rfl, ho, h1, h2, h3⟩
  exact ⟨v, x, l', b', rfl, ho.imp fun w2 h => hi _ _ _ h, h1, h2, h3⟩
set_option maxHeartbeats 1000000 in
theorem rdIntegers_any (W0 : World) (g : Nat) (l : List Int) (bad : Bool) (w : World) (hr : Rdr W0 w g l bad) : Reads W0 g intsP Ints l bad 78 #[.pointer (some ⟨g, 0, none⟩)] w := by
  go_enter Try.func78, Try.ntmps78
  go_wp2_with fail
  refine (elemInt_any W0 g l bad intP 95 [.pointer (some ⟨g, 0, none⟩)] [] w hr rdInteger_real (fun w' l' b' _ h => (rdInteger_any W0 g l' b' w' h).imp (fun w v x h => by unfold VI at h; subst h; rfl))).mono ?_
  rintro e w1 ⟨v, xs, l1, b1, rfl, ho, hs, hr1, hk1⟩
  obtain ⟨A, c, rfl, hc, hm⟩ := ho.here.form
  go_wp2
  go_ret
  exact ⟨_, xs, l1, b1, rfl, ho, hs, hr1, hk1⟩
theorem rdIntegers_real : Real Try.prog 78 := ⟨_, Try.func78, by kernel_rfl, by kernel_rfl⟩
end Go.Proofs.Ytmokpnkpfodppaa
