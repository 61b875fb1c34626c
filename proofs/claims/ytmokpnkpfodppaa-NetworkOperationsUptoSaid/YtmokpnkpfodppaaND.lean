/-
The reader of a message once more: the clock that it makes may be written.
What delivering does to a network: plain facts; lists of results that lie apart.
A network's Deliver: the walk.
-/
import Derived.Test.YtmokpnkpfodppaaCodD4
import Derived.Test.YtmokpnkpfodppaaNetS
import Derived.Deep.LoopGhost
namespace Go.Proofs.Ytmokpnkpfodppaa
set_option linter.unusedSimpArgs false
set_option linter.unusedVariables false
open Go.RowKit

/-- a list's row may be written -/
def SlO {α : Type} (R : Rd α) (size : Nat) (w : World) (v : Value) (l : List α) : Prop := Sl R size w v l ∧ ∀ q o n c, v = .slice (some ⟨q, o, none⟩) n c → ∀ j, w.frozen? ⟨q, j, none⟩ = false
theorem SlO.nil {α : Type} (R : Rd α) (size : Nat) (w : World) : SlO R size w (.slice none 0 0) [] := ⟨Sl.nil _ _ _, fun q o n c h => by cases h⟩
theorem Els.finO {α : Type} {size base e : Nat} {R : Rd α} {w : World} {v : Value} {css : List (Elm size)} {xs : List α} (h : Els R base w v.ownBlock css xs) (own : Own encC e size base w v css) : Ow base w.heap.size w fun w' => SlO R size w' v xs := by
  intro w' h1 h2
  refine ⟨h.fin own w' h1 h2, fun q o n c hv j => ?_⟩
  have ho := own.ow w' h1 h2
  subst hv
  have hn := ho.1
  rcases ho.2 with ⟨h0, -⟩ | ⟨g, cap, cur, h3, -⟩
  · cases h0
  · injection h3 with a1 a2 a3
    injection a1 with a1
    injection a1 with b1 b2
    subst b1 b2 a2
    exact ho.frozen rfl j
set_option maxRecDepth 8000 in
set_option maxHeartbeats 4000000 in
theorem elemIntO_any (W0 : World) (g : Nat) (l : List Int) (bad : Bool) (P : Ps Int) (F : FuncId) (bound cap : List Value) (w : World) (hr : Rdr W0 w g l bad) (hF : Real Try.prog F)
    (hf : ∀ (w' : World) (l' : List Int) (bad' : Bool), Kg w w' g → Rdr W0 w' g l' bad' → Reads W0 g P (V1 (Pl encInt)) l' bad' F (bound ++ cap).toArray w') :
    Reads W0 g (listP P) (SlO (Pl encInt) 1) l bad 96 #[.pointer (some ⟨g, 0, none⟩), .func (.func F) bound.toArray cap.toArray] w := by
  have HC := hid hf
  clear hf
  have hcf := fun args w => hF.run args w
  have hg := hr.lt
  have hkp := hr.kp
  have hlo := hr.lo
  go_enter Try.func96, Try.ntmps96
  go_wp2_with fail
  refine (rdInteger_any W0 g l bad w hr).mono ?_
  rintro e w1 ⟨v, n, l1, b1, rfl, hv, hs, hr1, hk1⟩
  obtain rfl := hv.here
  clear hv hr
  obtain ⟨v1, h1, h2, h3, h4, h5⟩ := hr1.cells
  have hg1 := hr1.lt
  have hlen := hr1.len
  obtain ⟨A, c, rfl, hc, hm⟩ := h1.form
  by_cases hn : n < 0 ∨ (l1.length : Int) < n
  · have hspec : SpecP (listP P) l bad [] l1 true := SpecP.bind (hs.lenBad (l2 := l1) 0 hn) (SpecP.bad _ _ _ _)
    have hrE := hr1.bad true
    have hkE := hk1.setg 1 (.bool true)
    have hcE := World.cell?_setCell_same w1 ⟨g, 1, none⟩ (.bool true) h4
    have hsz := set_size w1 ⟨g, 1, none⟩ (.bool true)
    clear hs hr1 hk1 HC
    by_cases hn0 : n < 0
    · have e1 : decide (n < 0) = true := decide_eq_true hn0
      go_wp2
      generalize w1.setCell ⟨g, 1, none⟩ (.bool true) = wE at *
      have hgE : g < wE.heap.size := by omega
      clear hsz
      go_loopw [6, 7] (fun v i wr => v = .slice none 0 0 ∧ i = .int .i64 0 ∧ wr = wE) (fun _ _ _ => 0)
      case atStart => exact ⟨rfl, rfl, rfl⟩
      case round =>
        obtain ⟨rfl, rfl, rfl⟩ := hrel
        by_cases hpos : 0 < n
        all_goals
          first
            | (exfalso; omega)
            | (go_wp2
               go_ret
               exact ⟨_, [], _, _, rfl, fun _ _ _ => SlO.nil _ _ _, hspec, hrE, hkE⟩)
    · have e1 : decide (n < 0) = false := decide_eq_false hn0
      have e2 : decide ((l1.length : Int) < n) = true := decide_eq_true (by omega)
      go_wp2
      generalize w1.setCell ⟨g, 1, none⟩ (.bool true) = wE at *
      have hgE : g < wE.heap.size := by omega
      clear hsz
      go_loopw [6, 7] (fun v i wr => v = .slice none 0 0 ∧ i = .int .i64 0 ∧ wr = wE) (fun _ _ _ => 0)
      case atStart => exact ⟨rfl, rfl, rfl⟩
      case round =>
        obtain ⟨rfl, rfl, rfl⟩ := hrel
        by_cases hpos : 0 < n
        all_goals
          first
            | (exfalso; omega)
            | (go_wp2
               go_ret
               exact ⟨_, [], _, _, rfl, fun _ _ _ => SlO.nil _ _ _, hspec, hrE, hkE⟩)
  · have e1 : decide (n < 0) = false := decide_eq_false (by omega)
    have e2 : decide ((l1.length : Int) < n) = false := decide_eq_false (by omega)
    have hlp := hs.lenOk hn
    clear hs
    cases b1 with
    | true =>
      have hspec : SpecP (listP P) l bad [] l1 true := SpecP.bind hlp (SpecP.bad _ _ _ _)
      have hrE := hr1
      have hkE := hk1
      have hcE := h4
      clear hlp HC
      go_wp2
      generalize w1 = wE at *
      go_loopw [6, 7] (fun v i wr => v = .slice none 0 0 ∧ i = .int .i64 0 ∧ wr = wE) (fun _ _ _ => 0)
      case atStart => exact ⟨rfl, rfl, rfl⟩
      case round =>
        obtain ⟨rfl, rfl, rfl⟩ := hrel
        by_cases hpos : 0 < n
        all_goals
          first
            | (exfalso; omega)
            | (go_wp2
               go_ret
               exact ⟨_, [], _, _, rfl, fun _ _ _ => SlO.nil _ _ _, hspec, hrE, hkE⟩)
    | false =>
      go_wp2
      go_loopw [6, 7] (fun v i wr => ∃ (css : List (Elm 1)) (xs : List Int) (l' : List Int) (bad' : Bool), xs.length ≤ n.toNat ∧ i = .int .i64 (xs.length : Int) ∧ Own encC 3 1 w.heap.size wr v css ∧ Els (Pl encInt) w.heap.size wr v.ownBlock css xs ∧ SpecP (loopP P xs.length) l1 false xs l' bad' ∧ Rdr W0 wr g l' bad' ∧ Kg w wr g) (fun _ i _ => n.toNat - (intOf i).toNat)
      case atStart => exact ⟨[], [], l1, false, Nat.zero_le _, rfl, Own.nil _ _ _ _ _, Els.nil _ _ _ _ _, SpecP.ret _ _ _, hr1, hk1⟩
      case round =>
        clear hr1 hk1 h1 h2 h3 h4 h5 hg1
        obtain ⟨css, xs, l2, b2, hxs, rfl, own, hels, hs2, hr2, hk2⟩ := hrel
        obtain ⟨v2, -, h2, h3, h4, h5⟩ := hr2.cells
        have hg2 := hr2.lt
        obtain ⟨A2, c2, rfl, hc2, hm2⟩ := own.form
        have hcl := hels.1
        rw [hcl] at own hels hc2 ⊢
        cases b2 with
        | true =>
          have hspec : SpecP (listP P) l bad xs l2 true := SpecP.bind hlp (hs2.early hxs)
          have hfin := hels.finO own
          by_cases hpos : xs.length < n.toNat
          all_goals
            go_wp2
            go_ret
            exact ⟨_, xs, l2, _, rfl, hfin, hspec, hr2, hk2⟩
        | false =>
          by_cases hpos : xs.length < n.toNat
          · have e3 : decide ((xs.length : Int) < n) = true := decide_eq_true (by omega)
            have hxn : ((xs.length : Int) < n) := by omega
            go_wp2_with fail
            refine (HC.out _ l2 false hk2 hr2).mono ?_
            rintro e w3 ⟨v3, x, l3, b3, rfl, ho, hs3, hr3, hk3⟩
            obtain rfl : v3 = .int .i64 x := (by simpa [V1, Pl, encInt] using ho.here); have hlen3 : [Value.int .i64 x].length = 1 := rfl; have hone3 : ∀ u ∈ [Value.int .i64 x], u.oneCell' = true := (by simp [Value.oneCell']); have hEl : Ow wr.heap.size w3.heap.size w3 (fun w' => Pl encInt w' [Value.int .i64 x] x) := ho
            have own3 := own.kg hk3 hg
            have hels3 := hels.kg hk3 hg
            have hge := own.ge
            have hlt3 := World.ownsRow.lt own
            have hkk := hk2.trans hk3
            have hz3 := hk2.size
            have hz4 := hk3.size
            clear own hels h2 h3 h4 h5 hr2
            have hcap : (css ++ [(⟨_, hlen3, hone3⟩ : Elm 1)]).length = css.length + 1 := by simp
            go_wp2_with (at_builtin; skip; refine wpl_append_flat rfl (.tmp 36) (.tmp 39) rfl stInt encC_len encC_one rfl (own3.alloc _) rfl (Sl.one (R := Pl encC) w3 _ 3 1 (⟨_, hlen3, hone3⟩ : Elm 1) hlen3 rfl) (by simp; omega) (by simp; omega) (by simp; omega) ?_; intro v4 w4 hown4 hgrow4 hat4 hnil4)
            have hk4 : Kg w w4 g := ⟨hgrow4.os.trans hkk.os, hgrow4.tape.trans hkk.tape, hgrow4.output.trans hkk.output, by have := hgrow4.size; simp at this; omega, fun k hk hne => by rw [hgrow4.block k (by simp; omega) (fun e => by have := hge k e.symm; omega), heap_alloc_old _ _ (by omega)]; exact hkk.block k hk hne⟩
            have hg4 : w4.heap[g]? = w3.heap[g]? := by rw [hgrow4.block g (by simp; omega) (fun e => by have := hge g e.symm; omega), heap_alloc_old _ _ (by omega)]
            have hr4 := hr3.keepG (Kg.to_kp hkp hk4 hlo) hg4
            have hels4 := ((hels3.snoc (⟨_, hlen3, hone3⟩ : Elm 1) x hz3 (Nat.le_refl _) (fun q hq => .inl (hlt3 q hq).2) hEl).kg (((Kp.refl w3).alloc _).kg g) hg).grow hgrow4 hat4
            have hs4 := SpecP.bind (Q := fun ys => bindP P fun y => retP (ys ++ [y])) hs2 (SpecP.bind (Q := fun y => retP (xs ++ [y])) hs3 (SpecP.ret (xs ++ [x]) l3 b3))
            rw [← loopP_snoc] at hs4
            clear hgrow4 hat4 hnil4 own3 hels3 ho hEl hr3 hk3 hs3 hs2 hkk
            go_roundw
            case rel => exact ⟨_, xs ++ [x], l3, b3, by simp; omega, by simp, hown4, hels4, by simpa using hs4, hr4, hk4⟩
            case measure => simp [intOf]; omega
          · have e3 : decide ((xs.length : Int) < n) = false := decide_eq_false (by omega)
            have hxe := hid (show xs.length = n.toNat by omega)
            rw [hxe.out] at hs2
            have hspec : SpecP (listP P) l bad xs l2 false := SpecP.bind hlp hs2
            have hfin := hels.finO own
            go_wp2
            go_ret
            exact ⟨_, xs, l2, _, rfl, hfin, hspec, hr2, hk2⟩
set_option maxHeartbeats 1000000 in
theorem rdIntegersO_any (W0 : World) (g : Nat) (l : List Int) (bad : Bool) (w : World) (hr : Rdr W0 w g l bad) : Reads W0 g intsP (SlO (Pl encInt) 1) l bad 78 #[.pointer (some ⟨g, 0, none⟩)] w := by
  go_enter Try.func78, Try.ntmps78
  go_wp2_with fail
  refine (elemIntO_any W0 g l bad intP 95 [.pointer (some ⟨g, 0, none⟩)] [] w hr rdInteger_real (fun w' l' b' _ h => (rdInteger_any W0 g l' b' w' h).imp (fun w v x h => by unfold VI at h; subst h; rfl))).mono ?_
  rintro e w1 ⟨v, xs, l1, b1, rfl, ho, hs, hr1, hk1⟩
  obtain ⟨A, c, rfl, hc, hm⟩ := ho.here.1.form
  go_wp2
  go_ret
  exact ⟨_, xs, l1, b1, rfl, ho, hs, hr1, hk1⟩
/-- a message whose clock may be written -/
def MessageVO (w : World) (v : Value) (x : Message) : Prop := MessageV w v x ∧ ∀ cs : List Value, v = .agg cs.toArray → ∀ q o n c, cs[3]? = some (.slice (some ⟨q, o, none⟩) n c) → ∀ j, w.frozen? ⟨q, j, none⟩ = false
set_option maxHeartbeats 4000000 in
theorem rdMessageO_any (W0 : World) (g : Nat) (l : List Int) (bad : Bool) (w : World) (hr : Rdr W0 w g l bad) : Reads W0 g messageP MessageVO l bad 62 #[.pointer (some ⟨g, 0, none⟩)] w := by
  have hg := hr.lt
  have hlo := hr.lo
  have k0 := (Kp.refl w).alloc (.cells #[.int .i64 0, .int .i64 0, .int .i64 0, .slice none 0 0, .slice none 0 0, .slice none 0 0, .int .i64 0, .int .i64 0, .int .i64 0, .int .i64 0, .int .i64 0, .slice none 0 0, .int .i64 0, .int .i64 0, .int .i64 0, .int .i64 0, .bool false, .slice none 0 0] 34)
  have hr0 := hr.keep k0
  have hB0 := Bx.new w #[.int .i64 0, .int .i64 0, .int .i64 0, .slice none 0 0, .slice none 0 0, .slice none 0 0, .int .i64 0, .int .i64 0, .int .i64 0, .int .i64 0, .int .i64 0, .slice none 0 0, .int .i64 0, .int .i64 0, .int .i64 0, .int .i64 0, .bool false, .slice none 0 0] 34
  have hg0 := k0.kg g
  go_enter Try.func62, Try.ntmps62
  go_wp2_with fail
  try rw [← World.size_alloc w (.cells #[.int .i64 0, .int .i64 0, .int .i64 0, .slice none 0 0, .slice none 0 0, .slice none 0 0, .int .i64 0, .int .i64 0, .int .i64 0, .int .i64 0, .int .i64 0, .slice none 0 0, .int .i64 0, .int .i64 0, .int .i64 0, .int .i64 0, .bool false, .slice none 0 0] 34)]
  generalize w.alloc (.cells #[.int .i64 0, .int .i64 0, .int .i64 0, .slice none 0 0, .slice none 0 0, .slice none 0 0, .int .i64 0, .int .i64 0, .int .i64 0, .int .i64 0, .int .i64 0, .slice none 0 0, .int .i64 0, .int .i64 0, .int .i64 0, .int .i64 0, .bool false, .slice none 0 0] 34) = w0 at *
  generalize hb : w.heap.size = b at *
  have HB := hid hb
  clear hb k0 hr
  have hK0 := Kb.refl g b w0
  have hlob : W0.heap.size ≤ b := by omega
  refine (into_lit W0 g b 0 3 _ _ _ w0 _ hr0 hg hB0 (by simp) (by simp) (by simp) rfl).mono ?_
  rintro e w1 ⟨rfl, xs, l1, bad1, hx, hs1, hr1, hB1, hk1⟩
  obtain ⟨x0, x1, x2, rfl⟩ := len3 hx
  simp [putI] at hB1
  have hK1 := hK0.trans hk1
  try replace hoA := hoA.kb2 hk1 hg
  try replace hoB := hoB.kb2 hk1 hg
  try replace hoC := hoC.kb2 hk1 hg
  try replace hoD := hoD.kb2 hk1 hg
  try replace hoE := hoE.kb2 hk1 hg
  try replace hoF := hoF.kb2 hk1 hg
  try replace hcp := Kb.cell0 hk1 hcp hag hab
  clear hx hk1 hB0 hr0 hK0
  go_wp2_with fail
  refine (rdIntegersO_any W0 g _ _ w1 hr1).mono ?_
  rintro e w2 ⟨v2, y2, l2, bad2, rfl, ho2, hs2, hr2, hk2⟩
  have hB2 := hB1.keep (World.grownBy.block hk2 b (hB1.lt (by simp)) (by simp; omega))
  have hK2 := hK1.trans (hk2.kb b)
  try replace hoA := hoA.kb2 (hk2.kb b) hg
  try replace hoB := hoB.kb2 (hk2.kb b) hg
  try replace hoC := hoC.kb2 (hk2.kb b) hg
  try replace hoD := hoD.kb2 (hk2.kb b) hg
  try replace hoE := hoE.kb2 (hk2.kb b) hg
  try replace hoF := hoF.kb2 (hk2.kb b) hg
  try replace hcp := Kb.cell0 (hk2.kb b) hcp hag hab
  replace ho2 := ho2.wide (Nat.succ_le_of_lt (hB1.lt (by simp))) (Nat.le_refl _)
  clear hk2 hB1 hr1 hK1
  obtain ⟨A2, c2, rfl, hc2, hm2⟩ := ho2.here.1.form
  have hoA := ho2
  clear ho2
  have hB3 := hB2.set (j := 3) (by simp) (.slice A2 y2.length c2)
  simp only [List.set_cons_zero, List.set_cons_succ] at hB3
  have hkS := (Kb.refl g b w2).set 3 (.slice A2 y2.length c2)
  have hr3 := hr2.kb hkS hlob (set_block _ _ _ _ (by show g ≠ b; omega))
  have hK3 := hK2.trans hkS
  try replace hoA := hoA.kb2 hkS hg
  try replace hoB := hoB.kb2 hkS hg
  try replace hoC := hoC.kb2 hkS hg
  try replace hoD := hoD.kb2 hkS hg
  try replace hoE := hoE.kb2 hkS hg
  try replace hoF := hoF.kb2 hkS hg
  try replace hcp := Kb.cell0 hkS hcp hag hab
  have f1 := hB2.cell (j := 3) rfl
  have f2 := hB2.free (j := 3) (by simp)
  have hsz := set_size w2 ⟨b, 3, none⟩ (.slice A2 y2.length c2)
  clear hkS hr2 hK2
  clear hB2
  go_wp2_with fail
  try rw [← hsz]
  generalize w2.setCell ⟨b, 3, none⟩ (.slice A2 y2.length c2) = w3 at *
  clear f1 f2 hsz
  refine (elemEvent_any W0 g _ _ eventP 80 [.pointer (some ⟨g, 0, none⟩)] [] w3 hr3 rdEvent_real (fun w' l' b' _ h => rdEvent_any W0 g l' b' w' h)).mono ?_
  rintro e w4 ⟨v4, y4, l4, bad4, rfl, ho4, hs4, hr4, hk4⟩
  have hB4 := hB3.keep (World.grownBy.block hk4 b (hB3.lt (by simp)) (by simp; omega))
  have hK4 := hK3.trans (hk4.kb b)
  try replace hoA := hoA.kb2 (hk4.kb b) hg
  try replace hoB := hoB.kb2 (hk4.kb b) hg
  try replace hoC := hoC.kb2 (hk4.kb b) hg
  try replace hoD := hoD.kb2 (hk4.kb b) hg
  try replace hoE := hoE.kb2 (hk4.kb b) hg
  try replace hoF := hoF.kb2 (hk4.kb b) hg
  try replace hcp := Kb.cell0 (hk4.kb b) hcp hag hab
  replace ho4 := ho4.wide (Nat.succ_le_of_lt (hB3.lt (by simp))) (Nat.le_refl _)
  clear hk4 hB3 hr3 hK3
  obtain ⟨A4, c4, rfl, hc4, hm4⟩ := ho4.here.form
  have hoB := ho4
  clear ho4
  have hB5 := hB4.set (j := 4) (by simp) (.slice A4 y4.length c4)
  simp only [List.set_cons_zero, List.set_cons_succ] at hB5
  have hkS := (Kb.refl g b w4).set 4 (.slice A4 y4.length c4)
  have hr5 := hr4.kb hkS hlob (set_block _ _ _ _ (by show g ≠ b; omega))
  have hK5 := hK4.trans hkS
  try replace hoA := hoA.kb2 hkS hg
  try replace hoB := hoB.kb2 hkS hg
  try replace hoC := hoC.kb2 hkS hg
  try replace hoD := hoD.kb2 hkS hg
  try replace hoE := hoE.kb2 hkS hg
  try replace hoF := hoF.kb2 hkS hg
  try replace hcp := Kb.cell0 hkS hcp hag hab
  have f1 := hB4.cell (j := 4) rfl
  have f2 := hB4.free (j := 4) (by simp)
  have hsz := set_size w4 ⟨b, 4, none⟩ (.slice A4 y4.length c4)
  clear hkS hr4 hK4
  clear hB4
  go_wp2_with fail
  try rw [← hsz]
  generalize w4.setCell ⟨b, 4, none⟩ (.slice A4 y4.length c4) = w5 at *
  clear f1 f2 hsz
  refine (elemSpan_any W0 g _ _ spanP 82 [.pointer (some ⟨g, 0, none⟩)] [] w5 hr5 rdSpan_real (fun w' l' b' _ h => rdSpan_any W0 g l' b' w' h)).mono ?_
  rintro e w6 ⟨v6, y6, l6, bad6, rfl, ho6, hs6, hr6, hk6⟩
  have hB6 := hB5.keep (World.grownBy.block hk6 b (hB5.lt (by simp)) (by simp; omega))
  have hK6 := hK5.trans (hk6.kb b)
  try replace hoA := hoA.kb2 (hk6.kb b) hg
  try replace hoB := hoB.kb2 (hk6.kb b) hg
  try replace hoC := hoC.kb2 (hk6.kb b) hg
  try replace hoD := hoD.kb2 (hk6.kb b) hg
  try replace hoE := hoE.kb2 (hk6.kb b) hg
  try replace hoF := hoF.kb2 (hk6.kb b) hg
  try replace hcp := Kb.cell0 (hk6.kb b) hcp hag hab
  replace ho6 := ho6.wide (Nat.succ_le_of_lt (hB5.lt (by simp))) (Nat.le_refl _)
  clear hk6 hB5 hr5 hK5
  obtain ⟨A6, c6, rfl, hc6, hm6⟩ := ho6.here.form
  have hoC := ho6
  clear ho6
  have hB7 := hB6.set (j := 5) (by simp) (.slice A6 y6.length c6)
  simp only [List.set_cons_zero, List.set_cons_succ] at hB7
  have hkS := (Kb.refl g b w6).set 5 (.slice A6 y6.length c6)
  have hr7 := hr6.kb hkS hlob (set_block _ _ _ _ (by show g ≠ b; omega))
  have hK7 := hK6.trans hkS
  try replace hoA := hoA.kb2 hkS hg
  try replace hoB := hoB.kb2 hkS hg
  try replace hoC := hoC.kb2 hkS hg
  try replace hoD := hoD.kb2 hkS hg
  try replace hoE := hoE.kb2 hkS hg
  try replace hoF := hoF.kb2 hkS hg
  try replace hcp := Kb.cell0 hkS hcp hag hab
  have f1 := hB6.cell (j := 5) rfl
  have f2 := hB6.free (j := 5) (by simp)
  have hsz := set_size w6 ⟨b, 5, none⟩ (.slice A6 y6.length c6)
  clear hkS hr6 hK6
  clear hB6
  go_wp2_with fail
  try rw [← hsz]
  generalize w6.setCell ⟨b, 5, none⟩ (.slice A6 y6.length c6) = w7 at *
  clear f1 f2 hsz
  refine (rdAsk_any W0 g _ _ w7 hr7).mono ?_
  rintro e w8 ⟨v8, y8, l8, bad8, rfl, ho8, hs8, hr8, hk8⟩
  have hB8 := hB7.keep (World.grownBy.block hk8 b (hB7.lt (by simp)) (by simp; omega))
  have hK8 := hK7.trans (hk8.kb b)
  try replace hoA := hoA.kb2 (hk8.kb b) hg
  try replace hoB := hoB.kb2 (hk8.kb b) hg
  try replace hoC := hoC.kb2 (hk8.kb b) hg
  try replace hoD := hoD.kb2 (hk8.kb b) hg
  try replace hoE := hoE.kb2 (hk8.kb b) hg
  try replace hoF := hoF.kb2 (hk8.kb b) hg
  try replace hcp := Kb.cell0 (hk8.kb b) hcp hag hab
  replace ho8 := ho8.wide (Nat.succ_le_of_lt (hB7.lt (by simp))) (Nat.le_refl _)
  clear hk8 hB7 hr7 hK7
  obtain ⟨cs, rfl, hcs⟩ := ho8.here
  have hoD := ho8
  clear ho8
  obtain ⟨hl8, h18⟩ := ask_one hcs
  have hB9 := hB8.setCells cs 6 _ _ (by rw [hl8]; simp)
  have hth := hB8.thereAt 6 (cs).length (by rw [hl8]; simp)
  have hin : (Try.prog.info? 31).map (·.size) = some (cs).toArray.size := by rw [List.size_toArray, hl8]; kernel_rfl
  have hkS := Kb.setCells cs 6 _ (Kb.refl g b w8)
  have hr9 := hr8.kb hkS hlob (setCells_block b g (by omega) cs 6 w8)
  have hK9 := hK8.trans hkS
  try replace hoA := hoA.kb2 hkS hg
  try replace hoB := hoB.kb2 hkS hg
  try replace hoC := hoC.kb2 hkS hg
  try replace hoD := hoD.kb2 hkS hg
  try replace hoE := hoE.kb2 hkS hg
  try replace hoF := hoF.kb2 hkS hg
  try replace hcp := Kb.cell0 hkS hcp hag hab
  have hsz := setCells_size b cs 6 w8
  clear hkS hr8 hK8 hB8
  go_wp2_with (refine wpList_store_mid rfl 31 (.tmp 24) (.tmp 23) rfl b 6 (cs).toArray rfl rfl hth hin (all_oneCell_toArray h18) ?_)
  try rw [← hsz]
  generalize w8.setCells b 6 cs = w9 at *
  clear hth hsz hin
  obtain ⟨z0, z1, z2, z3, z4, z5⟩ := y8
  obtain ⟨vz, rfl, hN⟩ := hcs
  obtain ⟨A9, c9, rfl, hc9, hm9⟩ := hN.form
  clear hN
  dsimp only at *
  simp [putV] at hB9
  refine (into_lit W0 g b 12 4 _ _ _ w9 _ hr9 hg hB9 (by simp) (by simp) (by simp) rfl).mono ?_
  rintro e w10 ⟨rfl, xs, l10, bad10, hx, hs10, hr10, hB10, hk10⟩
  obtain ⟨t0, t1, t2, t3, rfl⟩ := len4 hx
  simp [putI] at hB10
  have hK10 := hK9.trans hk10
  try replace hoA := hoA.kb2 hk10 hg
  try replace hoB := hoB.kb2 hk10 hg
  try replace hoC := hoC.kb2 hk10 hg
  try replace hoD := hoD.kb2 hk10 hg
  try replace hoE := hoE.kb2 hk10 hg
  try replace hoF := hoF.kb2 hk10 hg
  try replace hcp := Kb.cell0 hk10 hcp hag hab
  clear hx hk10 hB9 hr9 hK9
  go_wp2_with fail
  refine (rdTruth_any W0 g _ _ w10 hr10).mono ?_
  rintro e w11 ⟨v11, y11, l11, bad11, rfl, ho11, hs11, hr11, hk11⟩
  have hB11 := hB10.keep (World.grownBy.block hk11 b (hB10.lt (by simp)) (by simp; omega))
  have hK11 := hK10.trans (hk11.kb b)
  try replace hoA := hoA.kb2 (hk11.kb b) hg
  try replace hoB := hoB.kb2 (hk11.kb b) hg
  try replace hoC := hoC.kb2 (hk11.kb b) hg
  try replace hoD := hoD.kb2 (hk11.kb b) hg
  try replace hoE := hoE.kb2 (hk11.kb b) hg
  try replace hoF := hoF.kb2 (hk11.kb b) hg
  try replace hcp := Kb.cell0 (hk11.kb b) hcp hag hab
  replace ho11 := ho11.wide (Nat.succ_le_of_lt (hB10.lt (by simp))) (Nat.le_refl _)
  clear hk11 hB10 hr10 hK10
  obtain rfl := ho11.here
  clear ho11
  have hB12 := hB11.set (j := 16) (by simp) (.bool y11)
  simp only [List.set_cons_zero, List.set_cons_succ] at hB12
  have hkS := (Kb.refl g b w11).set 16 (.bool y11)
  have hr12 := hr11.kb hkS hlob (set_block _ _ _ _ (by show g ≠ b; omega))
  have hK12 := hK11.trans hkS
  try replace hoA := hoA.kb2 hkS hg
  try replace hoB := hoB.kb2 hkS hg
  try replace hoC := hoC.kb2 hkS hg
  try replace hoD := hoD.kb2 hkS hg
  try replace hoE := hoE.kb2 hkS hg
  try replace hoF := hoF.kb2 hkS hg
  try replace hcp := Kb.cell0 hkS hcp hag hab
  have f1 := hB11.cell (j := 16) rfl
  have f2 := hB11.free (j := 16) (by simp)
  have hsz := set_size w11 ⟨b, 16, none⟩ (.bool y11)
  clear hkS hr11 hK11
  clear hB11
  go_wp2_with fail
  try rw [← hsz]
  generalize w11.setCell ⟨b, 16, none⟩ (.bool y11) = w12 at *
  clear f1 f2 hsz
  refine (elemEntry_any W0 g _ _ entryP 86 [.pointer (some ⟨g, 0, none⟩)] [] w12 hr12 rdEntry_real (fun w' l' b' _ h => rdEntry_any W0 g l' b' w' h)).mono ?_
  rintro e w13 ⟨v13, y13, l13, bad13, rfl, ho13, hs13, hr13, hk13⟩
  have hB13 := hB12.keep (World.grownBy.block hk13 b (hB12.lt (by simp)) (by simp; omega))
  have hK13 := hK12.trans (hk13.kb b)
  try replace hoA := hoA.kb2 (hk13.kb b) hg
  try replace hoB := hoB.kb2 (hk13.kb b) hg
  try replace hoC := hoC.kb2 (hk13.kb b) hg
  try replace hoD := hoD.kb2 (hk13.kb b) hg
  try replace hoE := hoE.kb2 (hk13.kb b) hg
  try replace hoF := hoF.kb2 (hk13.kb b) hg
  try replace hcp := Kb.cell0 (hk13.kb b) hcp hag hab
  replace ho13 := ho13.wide (Nat.succ_le_of_lt (hB12.lt (by simp))) (Nat.le_refl _)
  clear hk13 hB12 hr12 hK12
  obtain ⟨A13, c13, rfl, hc13, hm13⟩ := ho13.here.form
  have hoE := ho13
  clear ho13
  have hB14 := hB13.set (j := 17) (by simp) (.slice A13 y13.length c13)
  simp only [List.set_cons_zero, List.set_cons_succ] at hB14
  have hkS := (Kb.refl g b w13).set 17 (.slice A13 y13.length c13)
  have hr14 := hr13.kb hkS hlob (set_block _ _ _ _ (by show g ≠ b; omega))
  have hK14 := hK13.trans hkS
  try replace hoA := hoA.kb2 hkS hg
  try replace hoB := hoB.kb2 hkS hg
  try replace hoC := hoC.kb2 hkS hg
  try replace hoD := hoD.kb2 hkS hg
  try replace hoE := hoE.kb2 hkS hg
  try replace hoF := hoF.kb2 hkS hg
  try replace hcp := Kb.cell0 hkS hcp hag hab
  have f1 := hB13.cell (j := 17) rfl
  have f2 := hB13.free (j := 17) (by simp)
  have hsz := set_size w13 ⟨b, 17, none⟩ (.slice A13 y13.length c13)
  clear hkS hr13 hK13
  go_wp2_with (first | (refine wpList_load_mid rfl 34 (.tmp 2) rfl b 0 rfl _ _ hB14.range Try.underlying34 rfl (by kernel_rfl) ?_) | (refine wpList_store_mid rfl 34 (.tmp 2) (.tmp 40) rfl b 0 _ rfl rfl hB14.there (by kernel_rfl) (all_oneCell_toArray (by simp [Value.oneCell'])) ?_))
  try simp only [Exit.inBlock, Exit.then]
  refine bodyPost_ret (results_cell_bx rfl _ _ b _ _ rfl (hB14.self.range) Try.underlying34 rfl (by kernel_rfl)) rfl ?_
  refine fin_end hB14 hK14 hg0 (Nat.le_of_eq HB.out) hr14 hlob hg (x := (⟨x0, x1, x2, y2, y4, y6, ⟨z0, z1, z2, z3, z4, z5⟩, t0, t1, t2, t3, y11, y13⟩ : Message)) ?ow ?sp
  case ow => exact (hoA.and (hoB.and (hoC.and ((hoD.imp fun _ h => ask_in (VA.inj h)).and hoE)))).imp fun w' h => ⟨⟨_, _, _, _, _, rfl, h.1.1, h.2⟩, fun cs hcs q o n c hq j => by
    injection hcs with hcs
    have h3 := congrArg (fun a : Array Value => a[3]?) hcs
    have h4 : cs[3]? = some (.slice A2 y2.length c2) := by simpa using h3.symm
    rw [h4] at hq
    injection hq with hq
    injection hq with a1 a2 a3
    subst a1
    exact h.1.2 q o _ _ rfl j⟩
  case sp => exact SpecP.of_eq message_eq (hs1.bind (hs2.bind (hs4.bind (hs6.bind (hs8.bind (hs10.bind (hs11.bind (hs13.bind (SpecP.ret _ _ _)))))))))
theorem decodeMessageO (bs : List UInt8) (w : World) : Calls Try.prog 43 #[strV bs] w (DecEnd MessageVO zM (readE messageP bs) w) :=
  DecodeMessage_any messageP MessageVO zM bs w (fun w v x h => message_cells w v x h.1) (fun w => ⟨⟨_, _, _, _, _, rfl, Sl.nil _ _ _, Sl.nil _ _ _, Sl.nil _ _ _, Sl.nil _ _ _, Sl.nil _ _ _⟩, fun cs hcs q o n c hq => by
    injection hcs with hcs
    have h3 := congrArg (fun a : Array Value => a[3]?) hcs
    have h4 : cs[3]? = some (.slice none 0 0) := by simpa using h3.symm
    rw [h4] at hq
    cases hq⟩) rdMessageO_any
end Go.Proofs.Ytmokpnkpfodppaa
namespace Go.Proofs.Ytmokpnkpfodppaa
set_option linter.unusedSimpArgs false
set_option linter.unusedVariables false
open Go.RowKit

def dueL (t : Int) (S : List Par) : List Par := S.takeWhile fun p => decide (p.due ≤ t)
def lkP (N : Net) (p : Par) : Bool := linkedB N.reps N.cuts p.frm p.dst
def msgOf (p : Par) : Message := (readE messageP p.data).1.getD zM
def delK (N : Net) (t : Int) (k : Nat) : Net :=
  { N with tick := t, fly := N.fly.drop k, delivered := N.delivered + ((N.fly.take k).filter (lkP N)).length, lost := N.lost + ((N.fly.take k).filter fun p => !lkP N p).length }
def outK (N : Net) (k : Nat) : List Message := ((N.fly.take k).filter (lkP N)).map msgOf
def deliverN (N : Net) (t : Int) : Net × List Message × Int :=
  if lateB N.tick t then (N, [], 2) else (delK N t (dueL t N.fly).length, outK N (dueL t N.fly).length, 0)
theorem delK_zero (N : Net) (t : Int) : delK N t 0 = { N with tick := t } := by simp [delK]
theorem outK_zero (N : Net) : outK N 0 = [] := rfl
def popK (N : Net) (t : Int) (k : Nat) : Net := { delK N t k with fly := N.fly.drop (k + 1) }
theorem delK_del {N : Net} {t : Int} {k : Nat} {p : Par} (h : N.fly[k]? = some p) (hl : lkP N p = true) : delK N t (k + 1) = { popK N t k with delivered := (delK N t k).delivered + 1 } ∧ outK N (k + 1) = outK N k ++ [msgOf p] := by
  obtain ⟨hk, e⟩ := List.getElem?_eq_some_iff.1 h
  unfold delK outK popK delK
  rw [List.take_succ_eq_append_getElem hk, e, List.filter_append, List.filter_append]
  simp [hl]
  omega
theorem delK_lost {N : Net} {t : Int} {k : Nat} {p : Par} (h : N.fly[k]? = some p) (hl : lkP N p = false) : delK N t (k + 1) = { popK N t k with lost := (delK N t k).lost + 1 } ∧ outK N (k + 1) = outK N k := by
  obtain ⟨hk, e⟩ := List.getElem?_eq_some_iff.1 h
  unfold delK outK popK delK
  rw [List.take_succ_eq_append_getElem hk, e, List.filter_append, List.filter_append]
  simp [hl]
  omega
theorem due_cases (t : Int) : ∀ (S : List Par) (k : Nat), k ≤ (dueL t S).length →
    (k < (dueL t S).length → ∃ p, S[k]? = some p ∧ S.drop k = p :: S.drop (k + 1) ∧ p.due ≤ t) ∧ (k = (dueL t S).length → S.drop k = [] ∨ ∃ p S', S.drop k = p :: S' ∧ t < p.due)
  | [], k, h => by
    simp only [dueL, List.takeWhile_nil, List.length_nil] at h
    exact ⟨fun h1 => by simp [dueL] at h1, fun _ => .inl (by simp)⟩
  | p :: S, k, h => by
    have ih := due_cases t S
    unfold dueL at h ih ⊢
    by_cases hp : p.due ≤ t
    · rw [List.takeWhile_cons_of_pos (by simpa using hp), List.length_cons] at h ⊢
      cases k with
      | zero => exact ⟨fun _ => ⟨p, rfl, rfl, hp⟩, fun h => by omega⟩
      | succ k =>
        obtain ⟨h1, h2⟩ := ih k (by omega)
        refine ⟨fun hk => ?_, fun hk => ?_⟩
        · obtain ⟨q, q1, q2, q3⟩ := h1 (by omega)
          exact ⟨q, by simpa using q1, by simpa using q2, q3⟩
        · simpa using h2 (by omega)
    · rw [List.takeWhile_cons_of_neg (by simpa using hp), List.length_nil] at h ⊢
      obtain rfl : k = 0 := by omega
      exact ⟨fun h => by omega, fun _ => .inr ⟨p, S, rfl, by omega⟩⟩
theorem dueL_len (t : Int) (S : List Par) : (dueL t S).length ≤ S.length := by
  unfold dueL
  exact (List.takeWhile_sublist _).length_le
theorem dueL_take (t : Int) (S : List Par) : S.take (dueL t S).length = dueL t S := by
  unfold dueL
  exact (List.prefix_iff_eq_take.1 (List.takeWhile_prefix _)).symm
theorem OkN.delK {N : Net} (h : OkN N) {t : Int} (ht : 0 ≤ t ∧ t ≤ 1048576) (k : Nat) : OkN (delK N t k) := by
  refine ⟨fun q hq => h.nums q (List.mem_of_mem_drop hq), ?_, h.fv, h.flen, ht, h.pos.1, h.pos.2.1, ?_, ?_⟩
  · have := h.len
    show (N.fly.drop k).length ≤ 1024
    simp
    omega
  · have := h.pos.2.2.1
    show 0 ≤ N.delivered + _
    omega
  · have := h.pos.2.2.2
    show 0 ≤ N.lost + _
    omega
theorem OkN.popK {N : Net} (h : OkN N) {t : Int} (ht : 0 ≤ t ∧ t ≤ 1048576) (k : Nat) : OkN (popK N t k) := by
  have h1 := h.delK ht k
  refine ⟨fun q hq => h.nums q (List.mem_of_mem_drop hq), ?_, h.fv, h.flen, ht, h1.pos⟩
  have := h.len
  show (N.fly.drop (k + 1)).length ≤ 1024
  simp
  omega
theorem delK_bounds {N : Net} (h : Few N) (hl : N.fly.length ≤ 1024) (t : Int) (k : Nat) : (delK N t k).delivered ≤ 1001024 ∧ (delK N t k).lost ≤ 1001024 := by
  have h1 : ((N.fly.take k).filter (lkP N)).length ≤ 1024 := Nat.le_trans (List.length_filter_le _ _) (by simp; omega)
  have h2 : ((N.fly.take k).filter fun p => !lkP N p).length ≤ 1024 := Nat.le_trans (List.length_filter_le _ _) (by simp; omega)
  have h3 := h.2.2.1
  have h4 := h.2.2.2
  constructor
  · show N.delivered + _ ≤ _
    omega
  · show N.lost + _ ≤ _
    omega

/-! results that lie apart -/
def EmX {α : Type} {size : Nat} (R : Rd α) (base top : Nat) (w : World) (s : Option Nat) (css : List (Elm size)) (xs : List α) : Prop :=
  css.length = xs.length ∧ base ≤ top ∧ top ≤ w.heap.size ∧ ∃ bs ts : Nat → Nat, (∀ j k, j < k → k < css.length → ts j ≤ bs k) ∧
    ∀ k (h1 : k < css.length) (h2 : k < xs.length), base ≤ bs k ∧ ts k ≤ top ∧ (∀ q, s = some q → q < bs k ∨ ts k ≤ q) ∧ Ow (bs k) (ts k) w fun w' => R w' css[k].val xs[k]
section
variable {α : Type} {size : Nat} {R : Rd α} {base top g : Nat} {w w' : World} {s s' : Option Nat} {css : List (Elm size)} {xs : List α}
theorem EmX.nil (R : Rd α) (size base : Nat) (w : World) (s : Option Nat) (hb : base ≤ w.heap.size) : EmX (size := size) R base base w s [] [] :=
  ⟨rfl, Nat.le_refl _, hb, fun _ => 0, fun _ => 0, fun _ _ _ h => absurd h (by simp), fun k h1 _ => absurd h1 (by simp)⟩
theorem EmX.step (h : EmX R base top w s css xs) (hs : w.heap.size ≤ w'.heap.size) (hb : ∀ i, base ≤ i → i < top → s ≠ some i → w'.heap[i]? = w.heap[i]?) : EmX R base top w' s css xs := by
  obtain ⟨h1, h2, h3, bs, ts, h4, h5⟩ := h
  refine ⟨h1, h2, Nat.le_trans h3 hs, bs, ts, h4, fun k k1 k2 => ?_⟩
  obtain ⟨a1, a2, a3, a4⟩ := h5 k k1 k2
  refine ⟨a1, a2, a3, a4.step hs fun i i1 i2 => hb i (by omega) (by omega) fun e => ?_⟩
  rcases a3 i e with h | h <;> omega
theorem EmX.grow (h : EmX R base top w s css xs) (hk : w.grownBy w' s) (hs' : s' = s ∨ s' = some w.heap.size) : EmX R base top w' s' css xs := by
  have h0 := h.step (w' := w') hk.size fun i _ hi hn => hk.block i (Nat.lt_of_lt_of_le hi h.2.2.1) (fun e => hn e.symm)
  obtain ⟨h1, h2, h3, bs, ts, h4, h5⟩ := h0
  refine ⟨h1, h2, h3, bs, ts, h4, fun k k1 k2 => ?_⟩
  obtain ⟨a1, a2, a3, a4⟩ := h5 k k1 k2
  refine ⟨a1, a2, fun q hq => ?_, a4⟩
  rcases hs' with e | e
  · exact a3 q (e ▸ hq)
  · rw [e] at hq
    injection hq with hq
    have := h.2.2.1
    right
    omega
theorem EmX.snoc (h : EmX R base top w s css xs) (c : Elm size) (x : α) {b t : Nat} (hb : top ≤ b) (hbt : b ≤ t) (ht : t ≤ w.heap.size) (hs : ∀ q, s = some q → q < b ∨ t ≤ q) (ho : Ow b t w fun w' => R w' c.val x) : EmX R base t w s (css ++ [c]) (xs ++ [x]) := by
  obtain ⟨h1, h2, h3, bs, ts, h4, h5⟩ := h
  refine ⟨by simp [h1], by omega, ht, fun k => if k < css.length then bs k else b, fun k => if k < css.length then ts k else t, fun j k hjk hk => ?_, fun k k1 k2 => ?_⟩
  · rw [List.length_append, List.length_singleton] at hk
    have hj : j < css.length := by omega
    show (if j < css.length then ts j else t) ≤ if k < css.length then bs k else b
    rw [if_pos hj]
    by_cases hk2 : k < css.length
    · rw [if_pos hk2]
      exact h4 j k hjk hk2
    · rw [if_neg hk2]
      have := (h5 j hj (by omega)).2.1
      omega
  · by_cases hk : k < css.length
    · simp only [if_pos hk]
      rw [List.getElem_append_left hk, List.getElem_append_left (by omega)]
      obtain ⟨a1, a2, a3, a4⟩ := h5 k hk (by omega)
      exact ⟨a1, by omega, a3, a4⟩
    · have e1 : k = css.length := by simp at k1; omega
      subst e1
      simp only [if_neg hk]
      have e2 : (css ++ [c])[css.length] = c := by simp
      have e3 : (xs ++ [x])[css.length]'k2 = x := by simp [h1]
      rw [e2, e3]
      exact ⟨by omega, Nat.le_refl _, hs, ho⟩
theorem EmX.fin {e : Nat} {v : Value} (h : EmX R base top w v.ownBlock css xs) (own : Own encC e size base w v css) : Ow base w.heap.size w fun w' => Sl R size w' v xs := by
  intro w' h1 h2
  obtain ⟨a1, -, a3, bs, ts, -, a5⟩ := h
  refine sl_of ((own.ow w' h1 h2).sl encC_len) a1 fun k h3 h4 => ?_
  obtain ⟨hb, ht, hs, ho⟩ := a5 k h3 h4
  exact ho w' h1 fun i hi1 hi2 => h2 i (by omega) (by omega)
end
end Go.Proofs.Ytmokpnkpfodppaa
namespace Go.Proofs.Ytmokpnkpfodppaa
set_option linter.unusedSimpArgs false
set_option linter.unusedVariables false
open Go.RowKit

/-- how a message's cells read -/
def rdMsg : Rd Message := fun w cs x => MessageV w (.agg cs.toArray) x
theorem rdMsg_one {w : World} {cs : List Value} {x : Message} (h : rdMsg w cs x) : cs.length = 18 ∧ ∀ u ∈ cs, u.oneCell' = true := by
  obtain ⟨cs', e, h1, h2⟩ := message_cells _ _ _ h
  injection e with e
  have := congrArg Array.toList e
  simp at this
  subst this
  exact ⟨h1, h2⟩
theorem stMsgM : SliceT Try.prog 22 34 18 224 := SliceT.mk' Try.underlying22 (z := .agg #[.int .i64 0, .int .i64 0, .int .i64 0, .slice none 0 0, .slice none 0 0, .slice none 0 0, .int .i64 0, .int .i64 0, .int .i64 0, .int .i64 0, .int .i64 0, .slice none 0 0, .int .i64 0, .int .i64 0, .int .i64 0, .int .i64 0, .bool false, .slice none 0 0]) (by kernel_rfl) rfl (by omega)
/-- how the cells of a message read whose clock may be written -/
def rdMsgO : Rd Message := fun w cs x => MessageVO w (.agg cs.toArray) x
theorem EmX.imp {α : Type} {size : Nat} {R R' : Rd α} {base top : Nat} {w : World} {s : Option Nat} {css : List (Elm size)} {xs : List α} (h : EmX R base top w s css xs) (hi : ∀ w cs x, R w cs x → R' w cs x) : EmX R' base top w s css xs := by
  obtain ⟨h1, h2, h3, bs, ts, h4, h5⟩ := h
  refine ⟨h1, h2, h3, bs, ts, h4, fun k k1 k2 => ?_⟩
  obtain ⟨a1, a2, a3, a4⟩ := h5 k k1 k2
  exact ⟨a1, a2, a3, a4.imp fun w' h => hi _ _ _ h⟩
/-- what Deliver leaves -/
def DelO (lo nb mb : Nat) (vf sv : Value) (w : World) (r : Net × List Message × Int) (e : Ending) (w' : World) : Prop :=
  ∃ v, e = .returned (.tuple #[v, .int .i64 r.2.2]) ∧ ∃ (sv' : Value) (top : Nat) (css : List (Elm 18)), NetW lo nb mb vf sv' w' r.1 ∧ Fr (Qb nb sv) w w' ∧ (∀ k, sv'.ownBlock = some k → sv.ownBlock = some k) ∧
    Own encC 34 18 w.heap.size w' v css ∧ EmX rdMsgO w.heap.size top w' v.ownBlock css r.2.1
def DelE (lo nb mb : Nat) (vf sv : Value) (w : World) (r : Net × List Message × Int) (e : Ending) (w' : World) : Prop :=
  ∃ v, e = .returned (.tuple #[v, .int .i64 r.2.2]) ∧ ∃ (sv' : Value) (top : Nat) (css : List (Elm 18)), NetW lo nb mb vf sv' w' r.1 ∧ Fr (Qb nb sv) w w' ∧ (∀ k, sv'.ownBlock = some k → sv.ownBlock = some k) ∧
    Own encC 34 18 w.heap.size w' v css ∧ EmX rdMsg w.heap.size top w' v.ownBlock css r.2.1
theorem assertPar (v : Value) (w : World) : Sem.run Try.prog (Instr.typeAssert (.iface 105 v) 20 105 false) w = .ok v w := by kernel_rfl
set_option maxRecDepth 8000 in
set_option maxHeartbeats 4000000 in
theorem nDeliverO_any (lo nb mb : Nat) (vf sv : Value) (N : Net) (t : Int) (w : World) (h : NetW lo nb mb vf sv w N) (hf : Few N) :
    Calls Try.prog 12 #[.pointer (some ⟨nb, 0, none⟩), .int .i64 t] w (DelO lo nb mb vf sv w (deliverN N t)) := by
  obtain ⟨A0, cA, rfl⟩ := h.svForm
  generalize hR : deliverN N t = R
  have HR := hid hR
  clear hR
  have hnbw := h.lt
  have hsvw : ∀ k, (Value.slice A0 N.fly.length cA).ownBlock = some k → k < w.heap.size := fun k hk => by
    obtain ⟨Q, own, -⟩ := h.fl
    exact own.blk_lt k hk
  have HSV := hid hsvw
  have HOK := hid h.ok
  have HFF := hid hf
  have ff0 := h.box.free (j := 1) (by simp)
  have hN := hid h
  have c0 := (h).box.cell (j := 0) rfl
  have c1 := (h).box.cell (j := 1) rfl
  have c2 := (h).box.cell (j := 2) rfl
  have c3 := (h).box.cell (j := 3) rfl
  have c4 := (h).box.cell (j := 4) rfl
  have c5 := (h).box.cell (j := 5) rfl
  have c6 := (h).box.cell (j := 6) rfl
  have c7 := (h).box.cell (j := 7) rfl
  have c8 := (h).box.cell (j := 8) rfl
  clear h hsvw hf
  go_enter Try.func12, Try.ntmps12
  go_wp2_with fail
  refine (nLate_any nb _ _ _ c1).mono ?_
  rintro e w1 ⟨rfl, rfl⟩
  cases hlt : lateB N.tick t with
  | true =>
    have HF : Hid (R = (N, [], 2)) := hid (by rw [← HR.out, deliverN, if_pos hlt])
    obtain rfl := HF.out
    go_wp2
    go_ret2
    exact ⟨_, rfl, _, _, [], hN.out, Fr.refl _ _, fun k hk => hk, Own.nil _ _ _ _ _, EmX.nil _ _ _ _ _ (Nat.le_refl _)⟩
  | false =>
    have HF : Hid (R = (delK N t (dueL t N.fly).length, outK N (dueL t N.fly).length, 0)) := hid (by rw [← HR.out, deliverN, if_neg (by rw [hlt]; simp)])
    obtain rfl := HF.out
    have HT : Hid (0 ≤ t ∧ t ≤ 1048576) := hid (by
      have := HOK.out.tick
      simp only [lateB, Bool.or_eq_false_iff, decide_eq_false_iff_not] at hlt
      omega)
    have hkS := (Kg.refl w1 nb).set (p := ⟨nb, 1, none⟩) (.inl rfl) (.int .i64 t)
    have N2 : NetW lo nb mb vf (.slice A0 N.fly.length cA) (w1.setCell ⟨nb, 1, none⟩ (.int .i64 t)) (delK N t 0) := by
      rw [delK_zero]
      exact hN.out.updB hkS (hN.out.box.set (j := 1) (by simp) (.int .i64 t)) rfl rfl rfl (by have := HOK.out.delK HT.out 0; rwa [delK_zero] at this)
    have F2 := hkS.fr (S := Qb nb (.slice A0 N.fly.length cA)) (.inl rfl)
    go_wp2_with fail
    generalize w1.setCell ⟨nb, 1, none⟩ (.int .i64 t) = w2 at *
    have HD := hid (due_cases t N.fly)
    generalize hn : (dueL t N.fly).length = n at *
    clear hn hkS c0 c1 c2 c3 c4 c5 c6 c7 c8 ff0 HR hlt
    go_loopg [6] (n + 1) (fun gk v wr => ∃ (k : Nat) (sv' : Value) (css : List (Elm 18)) (top : Nat), n < k + gk ∧ k ≤ n ∧ NetW lo nb mb vf sv' wr (delK N t k) ∧ Fr (Qb nb (.slice A0 N.fly.length cA)) w1 wr ∧ Hid (∀ q, sv'.ownBlock = some q → (Value.slice A0 N.fly.length cA).ownBlock = some q) ∧ Own encC 34 18 w1.heap.size wr v css ∧ EmX rdMsgO w1.heap.size top wr v.ownBlock css (outK N k))
    case atStart => exact ⟨0, _, [], _, by omega, by omega, N2, F2, hid fun q hq => hq, Own.nil _ _ _ _ _, EmX.nil _ _ _ _ _ F2.size⟩
    case round =>
      clear N2 F2
      obtain ⟨k, sv', css, top, hgk, hkn, NK, KK, HQ, own, hem⟩ := hrel
      have HGK := hid hgk
      clear hgk
      have HE := hid hem
      have HOW := hid own
      have hkz := hid KK.size
      obtain ⟨Q, ownQ, hp⟩ := NK.fl
      have hNK := hid NK
      have c0 := (NK).box.cell (j := 0) rfl
      have c1 := (NK).box.cell (j := 1) rfl
      have c2 := (NK).box.cell (j := 2) rfl
      have c3 := (NK).box.cell (j := 3) rfl
      have c4 := (NK).box.cell (j := 4) rfl
      have c5 := (NK).box.cell (j := 5) rfl
      have c6 := (NK).box.cell (j := 6) rfl
      have c7 := (NK).box.cell (j := 7) rfl
      have c8 := (NK).box.cell (j := 8) rfl
      have hnbk := NK.lt
      have hfb := hid (delK_bounds HFF.out HOK.out.len t k)
      by_cases hk : k < n
      · obtain ⟨p, hpk, hdr, hdue⟩ := (HD.out k hkn).1 hk
        have hp' : HeapOf Q (p :: N.fly.drop (k + 1)) := by rw [← hdr]; exact hp
        have HP1 := hid (heap_first hp')
        have hlen : Q.length = (N.fly.drop (k + 1)).length + 1 := hp'.perm.length_eq
        generalize hm : (N.fly.drop (k + 1)).length = m at *
        have HM := hid hm
        have HPOP := hid (heap_pop hp' m (by omega))
        have HPK := hid hpk
        have HLEN := hid hlen
        obtain ⟨g, c, hsv, hc1, hc2, hg1, hg2⟩ := ownQ.row (by omega)
        rw [hlen] at hsv hc1
        subst hsv
        rw [← HLEN.out] at ownQ
        obtain ⟨b', o', he, hb', i0, -⟩ := (ownQ.sl encPar_len).par (k := 0) (by omega)
        rw [HLEN.out] at ownQ
        injection he with he
        injection he with e1 e2
        subst e1 e2
        have hq0 : (Q[0]'(by omega)).due = p.due := by rw [← HP1.out]; simp [gt, List.getD, show 0 < Q.length by omega]
        rw [hq0] at i0
        have hm2 : m + 1 ≤ 1024 := by
          have h1 := HOK.out.len
          have h2 := HM.out
          rw [List.length_drop] at h2
          have h3 : (N.fly.drop k).length = m + 1 := by rw [hdr, List.length_cons, HM.out]
          rw [List.length_drop] at h3
          omega
        clear hp hp' hem own NK hdr hpk hm hlen hq0
        have e3 : decide (p.due ≤ t) = true := decide_eq_true hdue
        have hpos : (0 : Int) < (m : Int) + 1 := by omega
        have hpos2 : (0 : Int) < ((m + 1 : Nat) : Int) := by omega
        have hQlt : ∀ i, Qb nb (.slice (some ⟨g, 0, none⟩) (m + 1) c) i → i < w1.heap.size := fun i hi => by
          rcases hi with rfl | hi
          · exact hnbw
          · exact HSV.out i (HQ.out i hi)
        have hQq : ∀ i, Qb nb (.slice (some ⟨g, 0, none⟩) (m + 1) c) i → Qb nb (.slice A0 N.fly.length cA) i := fun i hi => by
          rcases hi with rfl | hi
          · exact .inl rfl
          · exact .inr (HQ.out i hi)
        have HQLT := hid hQlt
        have HQQ := hid hQq
        clear hQlt hQq
        go_wp2_with fail
        refine (hPop_any nb g m c _ Q _ hNK.out.box rfl ownQ HLEN.out.symm (by rw [HLEN.out]; omega)).mono ?_
        rintro e w4 ⟨rfl, own4, B4, fr4⟩
        rw [HPOP.out.1, show (encPar p).toArray = #[.int .i64 p.due, .int .i64 p.num, .int .i64 p.frm, .int .i64 p.dst, strV p.data] from rfl]
        have N4 : NetW lo nb mb vf (.slice (some ⟨g, 0, none⟩) m c) w4 (popK N t k) := hNK.out.upd fr4 B4 rfl rfl ⟨_, own4, HPOP.out.2⟩ (HOK.out.popK HT.out k)
        have K4 := KK.trans2 fr4 fun i hi _ => HQQ.out i hi
        have E4 := HE.out.step (w' := w4) fr4.size fun i hi1 hi2 _ => fr4.block i (by have := HE.out.2.2.1; omega) (fun hq => by have := HQLT.out i hq; omega)
        have O4 := HOW.out.owS w4 fr4.size fun i hi hlt => fr4.block i hlt (fun hq => by have := HQLT.out i hq; have := HOW.out.ge i hi; omega)
        have hfz := hid fr4.size
        clear HPOP own4 B4 fr4 c0 c1 c2 c3 c4 c5 c6 c7 c8 i0 ownQ KK HE HOW hNK e3 hpos hpos2 hnbk hg1 hg2 hc1 hc2 hb'
        have tA := assertPar (.agg #[.int .i64 p.due, .int .i64 p.num, .int .i64 p.frm, .int .i64 p.dst, strV p.data]) w4
        have k5 := (Kp.refl w4).alloc (.cells #[.int .i64 p.due, .int .i64 p.num, .int .i64 p.frm, .int .i64 p.dst, .string ⟨p.data.toArray⟩] 105)
        have P5 := Bx.new w4 #[.int .i64 p.due, .int .i64 p.num, .int .i64 p.frm, .int .i64 p.dst, .string ⟨p.data.toArray⟩] 105
        have N5 := N4.kp k5
        have K5 := K4.kp k5
        have E5 := E4.step k5.size fun i hi1 hi2 _ => k5.block (Nat.lt_of_lt_of_le hi2 E4.2.2.1)
        have O5 := O4.kp k5
        have hp5 := alloc_lt w4 (.cells #[.int .i64 p.due, .int .i64 p.num, .int .i64 p.frm, .int .i64 p.dst, .string ⟨p.data.toArray⟩] 105)
        clear N4 K4 E4 O4 k5
        go_upto_region 7 with (fail)
        clear tA
        generalize w4.alloc (.cells #[.int .i64 p.due, .int .i64 p.num, .int .i64 p.frm, .int .i64 p.dst, .string ⟨p.data.toArray⟩] 105) = w5 at *
        generalize hbb : w4.heap.size = bp at *
        clear hbb
        have c0 := (N5).box.cell (j := 0) rfl
        have c1 := (N5).box.cell (j := 1) rfl
        have c2 := (N5).box.cell (j := 2) rfl
        have c3 := (N5).box.cell (j := 3) rfl
        have c4 := (N5).box.cell (j := 4) rfl
        have c5 := (N5).box.cell (j := 5) rfl
        have c6 := (N5).box.cell (j := 6) rfl
        have c7 := (N5).box.cell (j := 7) rfl
        have c8 := (N5).box.cell (j := 8) rfl
        obtain ⟨es, clock, hmp, hmo⟩ := N5.mp
        have e2 := P5.cell (j := 2) rfl
        have e3 := P5.cell (j := 3) rfl
        go_wp2_with fail
        refine (nLinked_any nb mb clock _ _ _ es _ _ c0 c3 hmp hmo).mono ?_
        rintro e w6 ⟨rfl, k6⟩
        have HLK : Hid (lkP N p = linkedB (popK N t k).reps (popK N t k).cuts p.frm p.dst) := hid rfl
        generalize linkedB (popK N t k).reps (popK N t k).cuts p.frm p.dst = lk at *
        have N6 := N5.kp k6
        have K6 := K5.kp k6
        have E6 := E5.step k6.size fun i hi1 hi2 _ => k6.block (Nat.lt_of_lt_of_le hi2 E5.2.2.1)
        have O6 := O5.kp k6
        have P6 := P5.kp k6 hp5
        have hp6 := Nat.lt_of_lt_of_le hp5 k6.size
        clear N5 K5 E5 O5 P5 hp5 k6 c0 c1 c2 c3 c4 c5 c6 c7 c8 e2 e3 hmp hmo
        have hnb6 := N6.lt
        have hff := HOK.out.pos
        cases lk with
        | false =>
          obtain ⟨a1, a2⟩ := delK_lost (t := t) HPK.out HLK.out
          have a1 := hid a1
          have a2 := hid a2
          have c8 : w6.cell? ⟨nb, 8, none⟩ = some (.int .i64 (delK N t k).lost) := N6.box.cell (j := 8) rfl
          have df := N6.box.free (j := 8) (by simp)
          have hl0 := (HOK.out.delK HT.out k).pos.2.2.2
          have hl1 := hfb.out.2
          have hkS := (Kg.refl w6 nb).set (p := ⟨nb, 8, none⟩) (.inl rfl) (.int .i64 ((delK N t k).lost + 1))
          have N7 : NetW lo nb mb vf (.slice (some ⟨g, 0, none⟩) m c) (w6.setCell ⟨nb, 8, none⟩ (.int .i64 ((delK N t k).lost + 1))) (delK N t (k + 1)) := by
            have ok1 := HOK.out.delK HT.out (k + 1)
            rw [a1.out] at ok1 ⊢
            exact N6.updB hkS (N6.box.set (j := 8) (by simp) (.int .i64 ((delK N t k).lost + 1))) rfl rfl rfl ok1
          have K7 := K6.trans (hkS.fr (S := Qb nb (.slice A0 N.fly.length cA)) (.inl rfl))
          have E7 := E6.step hkS.size fun i hi1 hi2 _ => hkS.block i (Nat.lt_of_lt_of_le hi2 E6.2.2.1) (fun e => by injection e with e; omega)
          have O7 := O6.kg hkS hnbw
          clear N6 K6 E6 O6 P6 hkS
          generalize (delK N t k).lost = ls at *
          go_wp2_with fail
          go_roundg (gk - 1)
          case measure => have := HGK.out; omega
          case rel => exact ⟨k + 1, _, css, top, by have := HGK.out; omega, hk, N7, K7, hid fun q hq => HQ.out q hq, O7, by rw [a2.out]; exact E7⟩
        | true =>
          obtain ⟨a1, a2⟩ := delK_del (t := t) HPK.out HLK.out
          have a1 := hid a1
          have a2 := hid a2
          obtain ⟨A2, c2, rfl, hc2, hm2'⟩ := O6.form
          have hcl : css.length ≤ 1024 := by
            rw [E6.1]
            unfold outK
            rw [List.length_map]
            refine Nat.le_trans (List.length_filter_le _ _) ?_
            have := HOK.out.len
            simp
            omega
          have e4 : w6.cell? ⟨bp, 4, none⟩ = some (strV p.data) := P6.cell (j := 4) rfl
          go_wp2_with fail
          refine (decodeMessageO p.data w6).mono ?_
          rintro e w7 ⟨v7, rfl, ho, k7⟩
          have ho : Ow w6.heap.size w7.heap.size w7 (fun w2 => MessageVO w2 v7 (msgOf p)) := ho
          generalize (readE messageP p.data).2 = er at *
          obtain ⟨cm, rfl, hl7, h17⟩ := message_cells _ _ _ ho.here.1
          have hth := there_new w7 #[.int .i64 0, .int .i64 0, .int .i64 0, .slice none 0 0, .slice none 0 0, .slice none 0 0, .int .i64 0, .int .i64 0, .int .i64 0, .int .i64 0, .int .i64 0, .slice none 0 0, .int .i64 0, .int .i64 0, .int .i64 0, .int .i64 0, .bool false, .slice none 0 0] 34 cm.length (by rw [hl7]; rfl)
          have hin : (Try.prog.info? 34).map (·.size) = some cm.length := by rw [hl7]; kernel_rfl
          have hfl3 : cm.length = (#[.int .i64 0, .int .i64 0, .int .i64 0, .slice none 0 0, .slice none 0 0, .slice none 0 0, .int .i64 0, .int .i64 0, .int .i64 0, .int .i64 0, .int .i64 0, .slice none 0 0, .int .i64 0, .int .i64 0, .int .i64 0, .int .i64 0, .bool false, .slice none 0 0] : Array Value).size := hl7
          have hB := (Bx.new w7 #[.int .i64 0, .int .i64 0, .int .i64 0, .slice none 0 0, .slice none 0 0, .slice none 0 0, .int .i64 0, .int .i64 0, .int .i64 0, .int .i64 0, .int .i64 0, .slice none 0 0, .int .i64 0, .int .i64 0, .int .i64 0, .int .i64 0, .bool false, .slice none 0 0] 34).all (cs := cm) (by rw [hl7]; rfl)
          have k8 : Kp w7 ((w7.alloc (.cells #[.int .i64 0, .int .i64 0, .int .i64 0, .slice none 0 0, .slice none 0 0, .slice none 0 0, .int .i64 0, .int .i64 0, .int .i64 0, .int .i64 0, .int .i64 0, .slice none 0 0, .int .i64 0, .int .i64 0, .int .i64 0, .int .i64 0, .bool false, .slice none 0 0] 34)).setCells w7.heap.size 0 cm) := Kp.setCells (Nat.le_refl _) cm 0 _ ((Kp.refl w7).alloc _)
          have k78 := k7.trans k8
          have N8 := N6.kp k78
          have K8 := K6.kp k78
          have E8 := E6.step k78.size fun i hi1 hi2 _ => k78.block (Nat.lt_of_lt_of_le hi2 E6.2.2.1)
          have O8 := O6.kp k78
          have ho8 := ho.step k8.size fun i hi1 hi2 => k8.block hi2
          have hz7 := k7.size
          have hz8 := k8.size
          have hbl := O6.blk_lt
          have htop := E6.2.2.1
          have HLEN7 := hid hl7
          have HONE7 := hid h17
          clear N6 K6 E6 O6 P6 k7 k8 k78 ho hl7 hp6 hnb6
          go_upto_region 10 with (refine wpList_store_mid rfl 34 (.tmp 8) (.tmp 58) rfl w7.heap.size 0 cm.toArray rfl rfl hth hin (all_oneCell_toArray HONE7.out) ?_; generalize (w7.alloc (.cells #[.int .i64 0, .int .i64 0, .int .i64 0, .slice none 0 0, .slice none 0 0, .slice none 0 0, .int .i64 0, .int .i64 0, .int .i64 0, .int .i64 0, .int .i64 0, .slice none 0 0, .int .i64 0, .int .i64 0, .int .i64 0, .int .i64 0, .bool false, .slice none 0 0] 34)).setCells w7.heap.size 0 cm = w8 at *)
          clear hth
          generalize hb8 : w7.heap.size = b8 at *
          clear hb8
          have kA := (Kp.refl w8).alloc (.cells cm.toArray 34)
          have NA := N8.kp kA
          have KA := K8.kp kA
          have EA := E8.step kA.size fun i hi1 hi2 _ => kA.block (Nat.lt_of_lt_of_le hi2 E8.2.2.1)
          have hoA := ho8.step kA.size fun i hi1 hi2 => kA.block (by omega)
          have hzA := kA.size
          have hzK := K8.size
          go_upto_region 11 with (first | (refine wpList_load_mid rfl 34 (.tmp 8) rfl b8 0 rfl cm _ hB.range Try.underlying34 rfl hin ?_) | (at_builtin; rw [fold_fill #[.int .i64 0, .int .i64 0, .int .i64 0, .slice none 0 0, .slice none 0 0, .slice none 0 0, .int .i64 0, .int .i64 0, .int .i64 0, .int .i64 0, .int .i64 0, .slice none 0 0, .int .i64 0, .int .i64 0, .int .i64 0, .int .i64 0, .bool false, .slice none 0 0] cm hfl3]; refine wpl_append_flat rfl (.tmp 60) (.tmp 62) rfl stMsgM encC_len encC_one rfl (O8.alloc _) rfl (Sl.one (R := Pl encC) w8 _ 34 18 (⟨cm, HLEN7.out, HONE7.out⟩ : Elm 18) HLEN7.out rfl) (by simp; omega) (by simp; omega) (by simp; omega) ?_; intro v9 w9 hown9 hgrow9 hat9 hnil9; obtain ⟨A9, c9, e9, hc9, hm9⟩ := hown9.form; rw [List.length_append, List.length_singleton] at e9; subst e9))
          have hgr : (w8.alloc (.cells cm.toArray 34)).grownBy w9 (Value.slice A2 css.length c2).ownBlock := hgrow9
          clear hgrow9 hnil9
          have EB := (EA.snoc (⟨cm, HLEN7.out, HONE7.out⟩ : Elm 18) (msgOf p) htop hz7 (by omega) (fun q hq => .inl (hbl q hq)) hoA).grow hgr hat9
          have hfr9 : Fr (fun q => (Value.slice A2 css.length c2).ownBlock = some q) (w8.alloc (.cells cm.toArray 34)) w9 := ⟨hgr.os, hgr.tape, hgr.output, hgr.size, fun q hq hn => hgr.block q hq (fun e => hn e.symm)⟩
          have hge := O8.ge
          have N9 : NetW lo nb mb vf (.slice (some ⟨g, 0, none⟩) m c) w9 (popK N t k) := NA.fr hfr9 (fun h => by have := hge nb h; omega) (fun h => by have := hge mb h; have := NA.mlt; omega) (fun q hq h => by have := hge q h; have := (NA.ownb q hq).1; omega) (fun q hq h => by have := hge q h; have := HQLT.out q (.inr hq); omega)
          have K9 := KA.trans2 hfr9 fun i hi hlt => by have := hge i hi; omega
          have hnb9 := N9.lt
          have c7 : w9.cell? ⟨nb, 7, none⟩ = some (.int .i64 (delK N t k).delivered) := N9.box.cell (j := 7) rfl
          have df := N9.box.free (j := 7) (by simp)
          have hl0 := (HOK.out.delK HT.out k).pos.2.2.1
          have hl1 := hfb.out.1
          have hkS := (Kg.refl w9 nb).set (p := ⟨nb, 7, none⟩) (.inl rfl) (.int .i64 ((delK N t k).delivered + 1))
          have NB : NetW lo nb mb vf (.slice (some ⟨g, 0, none⟩) m c) (w9.setCell ⟨nb, 7, none⟩ (.int .i64 ((delK N t k).delivered + 1))) (delK N t (k + 1)) := by
            have ok1 := HOK.out.delK HT.out (k + 1)
            rw [a1.out] at ok1 ⊢
            exact N9.updB hkS (N9.box.set (j := 7) (by simp) (.int .i64 ((delK N t k).delivered + 1))) rfl rfl rfl ok1
          have KB := K9.trans (hkS.fr (S := Qb nb (.slice A0 N.fly.length cA)) (.inl rfl))
          have EC := EB.step hkS.size fun i hi1 hi2 _ => hkS.block i (Nat.lt_of_lt_of_le hi2 EB.2.2.1) (fun e => by injection e with e; omega)
          have OC := hown9.kg hkS hnbw
          clear N9 K9 EB hown9 hkS NA KA EA hoA N8 K8 E8 O8 ho8 hB hgr hfr9 hge hat9 kA hbl htop hin hfl3
          generalize (delK N t k).delivered = ds at *
          go_wp2_with fail
          go_roundg (gk - 1)
          case measure => have := HGK.out; omega
          case rel => exact ⟨k + 1, _, _, _, by have := HGK.out; omega, hk, NB, KB, hid fun q hq => HQ.out q hq, OC, by rw [a2.out]; exact EC⟩
      · obtain rfl : k = n := by omega
        have hend := (HD.out k hkn).2 rfl
        have hlen := hp.perm.length_eq
        have hfl : (delK N t k).fly = N.fly.drop k := rfl
        rw [hfl] at hp hlen
        obtain ⟨A2, c2, rfl, hc2, hm2'⟩ := own.form
        rcases hend with hend | ⟨p, S', hend, hdue⟩
        · rw [hend] at hp
          obtain rfl := hp.nil_of
          obtain ⟨A1, c1', rfl, hc1, hm1⟩ := ownQ.form
          clear hp hend hlen hfl own hem ownQ
          go_wp2_with fail
          go_ret2
          exact ⟨_, rfl, _, top, css, hNK.out, KK, HQ.out, HOW.out, HE.out⟩
        · rw [hend] at hp hlen
          have HP1 := hid (heap_first hp)
          have hq1 : 0 < Q.length := by rw [hlen]; simp
          obtain ⟨g, c, rfl, hc1, hc2', hg1, hg2⟩ := ownQ.row hq1
          obtain ⟨b', o', he, hb', i0, -⟩ := (ownQ.sl encPar_len).par hq1
          injection he with he
          injection he with e1 e2
          subst e1 e2
          have hq0 : Q[0].due = p.due := by rw [← HP1.out]; simp [gt, List.getD, hq1]
          rw [hq0] at i0
          have e3 : decide (p.due ≤ t) = false := decide_eq_false (by omega)
          have hpos : (0 : Int) < (Q.length : Int) := by omega
          have hdn : ¬ p.due ≤ t := by omega
          clear hp hend hlen hfl own hem ownQ hq0 HP1
          generalize Q.length = ql at *
          go_wp2_with fail
          go_ret2
          exact ⟨_, rfl, _, top, css, hNK.out, KK, HQ.out, HOW.out, HE.out⟩
theorem nDeliver_any (lo nb mb : Nat) (vf sv : Value) (N : Net) (t : Int) (w : World) (h : NetW lo nb mb vf sv w N) (hf : Few N) :
    Calls Try.prog 12 #[.pointer (some ⟨nb, 0, none⟩), .int .i64 t] w (DelE lo nb mb vf sv w (deliverN N t)) :=
  (nDeliverO_any lo nb mb vf sv N t w h hf).mono fun _ _ ⟨v, h1, sv', top, css, h2, h3, h4, h5, h6⟩ => ⟨v, h1, sv', top, css, h2, h3, h4, h5, h6.imp fun _ _ _ h => h.1⟩
end Go.Proofs.Ytmokpnkpfodppaa
