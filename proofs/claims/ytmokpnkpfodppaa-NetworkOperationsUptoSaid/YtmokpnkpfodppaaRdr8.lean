
/-
The reader: lists of marks, needs, spans.
-/
import Derived.Test.YtmokpnkpfodppaaRB
namespace Go.Proofs.Ytmokpnkpfodppaa
set_option linter.unusedSimpArgs false
set_option linter.unusedVariables false
open Go.RowKit

theorem pl_one {α : Type} {enc : α → List Value} {size : Nat} (hl : ∀ x, (enc x).length = size) (h1 : ∀ x, ∀ u ∈ enc x, u.oneCell' = true) {w : World} {cs : List Value} {x : α} (h : Pl enc w cs x) : cs.length = size ∧ ∀ u ∈ cs, u.oneCell' = true := by
  unfold Pl at h
  subst h
  exact ⟨hl x, h1 x⟩
theorem stNeed : SliceT Try.prog 29 80 4 32 := SliceT.mk' Try.underlying29 (z := .agg #[.int .i64 0, .int .i64 0, .int .i64 0, .int .i64 0]) (by kernel_rfl) rfl (by omega)
theorem stSpan : SliceT Try.prog 26 84 3 24 := SliceT.mk' Try.underlying26 (z := .agg #[.int .i64 0, .int .i64 0, .int .i64 0]) (by kernel_rfl) rfl (by omega)
theorem mark_one {w : World} {cs : List Value} {x : Mark} (h : Pl encMark w cs x) : cs.length = 4 ∧ ∀ u ∈ cs, u.oneCell' = true := pl_one encMark_len encMark_one h
theorem need_one {w : World} {cs : List Value} {x : Need} (h : Pl encNeed w cs x) : cs.length = 4 ∧ ∀ u ∈ cs, u.oneCell' = true := pl_one encNeed_len encNeed_one h
theorem span_one {w : World} {cs : List Value} {x : Span} (h : Pl encSpan w cs x) : cs.length = 3 ∧ ∀ u ∈ cs, u.oneCell' = true := pl_one encSpan_len encSpan_one h
set_option maxRecDepth 8000 in
set_option maxHeartbeats 4000000 in
theorem elemNeed_any (W0 : World) (g : Nat) (l : List Int) (bad : Bool) (P : Ps Need) (F : FuncId) (bound cap : List Value) (w : World) (hr : Rdr W0 w g l bad) (hF : Real Try.prog F)
    (hf : ∀ (w' : World) (l' : List Int) (bad' : Bool), Kg w w' g → Rdr W0 w' g l' bad' → Reads W0 g P (VA (Pl encNeed)) l' bad' F (bound ++ cap).toArray w') :
    Reads W0 g (listP P) (Sl (Pl encNeed) 4) l bad 98 #[.pointer (some ⟨g, 0, none⟩), .func (.func F) bound.toArray cap.toArray] w := by
  have HC := hid hf
  clear hf
  have hcf := fun args w => hF.run args w
  have hg := hr.lt
  have hkp := hr.kp
  have hlo := hr.lo
  go_enter Try.func98, Try.ntmps98
  go_wp2_with fail
  refine (rdInteger_any W0 g l bad w hr).mono ?_
  rintro e w1 ⟨v, n, l1, b1, rfl, hv, hs, hr1, hk1⟩
  obtain rfl := hv.here
  clear hv hr
  obtain ⟨v1, h1, h2, h3, h4, h5⟩ := hr1.cells
  have hg1 := hr1.lt
  have hlen := hr1.len
  obtain ⟨A, c, rfl, hc, hm⟩ := h1.form
  by_cases hn : n < 0 ∨ (l1.length : Int) < n
  · have hspec : SpecP (listP P) l bad [] l1 true := SpecP.bind (hs.lenBad (l2 := l1) 0 hn) (SpecP.bad _ _ _ _)
    have hrE := hr1.bad true
    have hkE := hk1.setg 1 (.bool true)
    have hcE := World.cell?_setCell_same w1 ⟨g, 1, none⟩ (.bool true) h4
    have hsz := set_size w1 ⟨g, 1, none⟩ (.bool true)
    clear hs hr1 hk1 HC
    by_cases hn0 : n < 0
    · have e1 : decide (n < 0) = true := decide_eq_true hn0
      go_wp2
      generalize w1.setCell ⟨g, 1, none⟩ (.bool true) = wE at *
      have hgE : g < wE.heap.size := by omega
      clear hsz
      go_loopw [6, 7] (fun v i wr => v = .slice none 0 0 ∧ i = .int .i64 0 ∧ wr = wE) (fun _ _ _ => 0)
      case atStart => exact ⟨rfl, rfl, rfl⟩
      case round =>
        obtain ⟨rfl, rfl, rfl⟩ := hrel
        by_cases hpos : 0 < n
        all_goals
          first
            | (exfalso; omega)
            | (go_wp2
               go_ret
               exact ⟨_, [], _, _, rfl, fun _ _ _ => Sl.nil _ _ _, hspec, hrE, hkE⟩)
    · have e1 : decide (n < 0) = false := decide_eq_false hn0
      have e2 : decide ((l1.length : Int) < n) = true := decide_eq_true (by omega)
      go_wp2
      generalize w1.setCell ⟨g, 1, none⟩ (.bool true) = wE at *
      have hgE : g < wE.heap.size := by omega
      clear hsz
      go_loopw [6, 7] (fun v i wr => v = .slice none 0 0 ∧ i = .int .i64 0 ∧ wr = wE) (fun _ _ _ => 0)
      case atStart => exact ⟨rfl, rfl, rfl⟩
      case round =>
        obtain ⟨rfl, rfl, rfl⟩ := hrel
        by_cases hpos : 0 < n
        all_goals
          first
            | (exfalso; omega)
            | (go_wp2
               go_ret
               exact ⟨_, [], _, _, rfl, fun _ _ _ => Sl.nil _ _ _, hspec, hrE, hkE⟩)
  · have e1 : decide (n < 0) = false := decide_eq_false (by omega)
    have e2 : decide ((l1.length : Int) < n) = false := decide_eq_false (by omega)
    have hlp := hs.lenOk hn
    clear hs
    cases b1 with
    | true =>
      have hspec : SpecP (listP P) l bad [] l1 true := SpecP.bind hlp (SpecP.bad _ _ _ _)
      have hrE := hr1
      have hkE := hk1
      have hcE := h4
      clear hlp HC
      go_wp2
      generalize w1 = wE at *
      go_loopw [6, 7] (fun v i wr => v = .slice none 0 0 ∧ i = .int .i64 0 ∧ wr = wE) (fun _ _ _ => 0)
      case atStart => exact ⟨rfl, rfl, rfl⟩
      case round =>
        obtain ⟨rfl, rfl, rfl⟩ := hrel
        by_cases hpos : 0 < n
        all_goals
          first
            | (exfalso; omega)
            | (go_wp2
               go_ret
               exact ⟨_, [], _, _, rfl, fun _ _ _ => Sl.nil _ _ _, hspec, hrE, hkE⟩)
    | false =>
      go_wp2
      go_loopw [6, 7] (fun v i wr => ∃ (css : List (Elm 4)) (xs : List Need) (l' : List Int) (bad' : Bool), xs.length ≤ n.toNat ∧ i = .int .i64 (xs.length : Int) ∧ Own encC 80 4 w.heap.size wr v css ∧ Els (Pl encNeed) w.heap.size wr v.ownBlock css xs ∧ SpecP (loopP P xs.length) l1 false xs l' bad' ∧ Rdr W0 wr g l' bad' ∧ Kg w wr g) (fun _ i _ => n.toNat - (intOf i).toNat)
      case atStart => exact ⟨[], [], l1, false, Nat.zero_le _, rfl, Own.nil _ _ _ _ _, Els.nil _ _ _ _ _, SpecP.ret _ _ _, hr1, hk1⟩
      case round =>
        clear hr1 hk1 h1 h2 h3 h4 h5 hg1
        obtain ⟨css, xs, l2, b2, hxs, rfl, own, hels, hs2, hr2, hk2⟩ := hrel
        obtain ⟨v2, -, h2, h3, h4, h5⟩ := hr2.cells
        have hg2 := hr2.lt
        obtain ⟨A2, c2, rfl, hc2, hm2⟩ := own.form
        have hcl := hels.1
        rw [hcl] at own hels hc2 ⊢
        cases b2 with
        | true =>
          have hspec : SpecP (listP P) l bad xs l2 true := SpecP.bind hlp (hs2.early hxs)
          have hfin := hels.fin own
          by_cases hpos : xs.length < n.toNat
          all_goals
            go_wp2
            go_ret
            exact ⟨_, xs, l2, _, rfl, hfin, hspec, hr2, hk2⟩
        | false =>
          by_cases hpos : xs.length < n.toNat
          · have e3 : decide ((xs.length : Int) < n) = true := decide_eq_true (by omega)
            have hxn : ((xs.length : Int) < n) := by omega
            go_wp2_with fail
            refine (HC.out _ l2 false hk2 hr2).mono ?_
            rintro e w3 ⟨v3, x, l3, b3, rfl, ho, hs3, hr3, hk3⟩
            obtain ⟨cs3, rfl, hrd3⟩ := ho.here; obtain ⟨hlen3, hone3⟩ := need_one hrd3; have hEl := ho.imp (fun w' h => VA.inj h); have hfl3 : cs3.length = ((#[.int .i64 0, .int .i64 0, .int .i64 0, .int .i64 0] : Array Value)).size := hlen3
            have own3 := own.kg hk3 hg
            have hels3 := hels.kg hk3 hg
            have hge := own.ge
            have hlt3 := World.ownsRow.lt own
            have hkk := hk2.trans hk3
            have hz3 := hk2.size
            have hz4 := hk3.size
            clear own hels h2 h3 h4 h5 hr2
            have hcap : (css ++ [(⟨_, hlen3, hone3⟩ : Elm 4)]).length = css.length + 1 := by simp
            go_wp2_with (at_builtin; rw [fold_fill #[.int .i64 0, .int .i64 0, .int .i64 0, .int .i64 0] cs3 hfl3]; refine wpl_append_flat rfl (.tmp 36) (.tmp 39) rfl stNeed encC_len encC_one rfl (own3.alloc _) rfl (Sl.one (R := Pl encC) w3 _ 80 4 (⟨_, hlen3, hone3⟩ : Elm 4) hlen3 rfl) (by simp; omega) (by simp; omega) (by simp; omega) ?_; intro v4 w4 hown4 hgrow4 hat4 hnil4)
            have hk4 : Kg w w4 g := ⟨hgrow4.os.trans hkk.os, hgrow4.tape.trans hkk.tape, hgrow4.output.trans hkk.output, by have := hgrow4.size; simp at this; omega, fun k hk hne => by rw [hgrow4.block k (by simp; omega) (fun e => by have := hge k e.symm; omega), heap_alloc_old _ _ (by omega)]; exact hkk.block k hk hne⟩
            have hg4 : w4.heap[g]? = w3.heap[g]? := by rw [hgrow4.block g (by simp; omega) (fun e => by have := hge g e.symm; omega), heap_alloc_old _ _ (by omega)]
            have hr4 := hr3.keepG (Kg.to_kp hkp hk4 hlo) hg4
            have hels4 := ((hels3.snoc (⟨_, hlen3, hone3⟩ : Elm 4) x hz3 (Nat.le_refl _) (fun q hq => .inl (hlt3 q hq).2) hEl).kg (((Kp.refl w3).alloc _).kg g) hg).grow hgrow4 hat4
            have hs4 := SpecP.bind (Q := fun ys => bindP P fun y => retP (ys ++ [y])) hs2 (SpecP.bind (Q := fun y => retP (xs ++ [y])) hs3 (SpecP.ret (xs ++ [x]) l3 b3))
            rw [← loopP_snoc] at hs4
            clear hgrow4 hat4 hnil4 own3 hels3 ho hEl hr3 hk3 hs3 hs2 hkk
            go_roundw
            case rel => exact ⟨_, xs ++ [x], l3, b3, by simp; omega, by simp, hown4, hels4, by simpa using hs4, hr4, hk4⟩
            case measure => simp [intOf]; omega
          · have e3 : decide ((xs.length : Int) < n) = false := decide_eq_false (by omega)
            have hxe := hid (show xs.length = n.toNat by omega)
            rw [hxe.out] at hs2
            have hspec : SpecP (listP P) l bad xs l2 false := SpecP.bind hlp hs2
            have hfin := hels.fin own
            go_wp2
            go_ret
            exact ⟨_, xs, l2, _, rfl, hfin, hspec, hr2, hk2⟩
set_option maxRecDepth 8000 in
set_option maxHeartbeats 4000000 in
theorem elemSpan_any (W0 : World) (g : Nat) (l : List Int) (bad : Bool) (P : Ps Span) (F : FuncId) (bound cap : List Value) (w : World) (hr : Rdr W0 w g l bad) (hF : Real Try.prog F)
    (hf : ∀ (w' : World) (l' : List Int) (bad' : Bool), Kg w w' g → Rdr W0 w' g l' bad' → Reads W0 g P (VA (Pl encSpan)) l' bad' F (bound ++ cap).toArray w') :
    Reads W0 g (listP P) (Sl (Pl encSpan) 3) l bad 81 #[.pointer (some ⟨g, 0, none⟩), .func (.func F) bound.toArray cap.toArray] w := by
  have HC := hid hf
  clear hf
  have hcf := fun args w => hF.run args w
  have hg := hr.lt
  have hkp := hr.kp
  have hlo := hr.lo
  go_enter Try.func81, Try.ntmps81
  go_wp2_with fail
  refine (rdInteger_any W0 g l bad w hr).mono ?_
  rintro e w1 ⟨v, n, l1, b1, rfl, hv, hs, hr1, hk1⟩
  obtain rfl := hv.here
  clear hv hr
  obtain ⟨v1, h1, h2, h3, h4, h5⟩ := hr1.cells
  have hg1 := hr1.lt
  have hlen := hr1.len
  obtain ⟨A, c, rfl, hc, hm⟩ := h1.form
  by_cases hn : n < 0 ∨ (l1.length : Int) < n
  · have hspec : SpecP (listP P) l bad [] l1 true := SpecP.bind (hs.lenBad (l2 := l1) 0 hn) (SpecP.bad _ _ _ _)
    have hrE := hr1.bad true
    have hkE := hk1.setg 1 (.bool true)
    have hcE := World.cell?_setCell_same w1 ⟨g, 1, none⟩ (.bool true) h4
    have hsz := set_size w1 ⟨g, 1, none⟩ (.bool true)
    clear hs hr1 hk1 HC
    by_cases hn0 : n < 0
    · have e1 : decide (n < 0) = true := decide_eq_true hn0
      go_wp2
      generalize w1.setCell ⟨g, 1, none⟩ (.bool true) = wE at *
      have hgE : g < wE.heap.size := by omega
      clear hsz
      go_loopw [6, 7] (fun v i wr => v = .slice none 0 0 ∧ i = .int .i64 0 ∧ wr = wE) (fun _ _ _ => 0)
      case atStart => exact ⟨rfl, rfl, rfl⟩
      case round =>
        obtain ⟨rfl, rfl, rfl⟩ := hrel
        by_cases hpos : 0 < n
        all_goals
          first
            | (exfalso; omega)
            | (go_wp2
               go_ret
               exact ⟨_, [], _, _, rfl, fun _ _ _ => Sl.nil _ _ _, hspec, hrE, hkE⟩)
    · have e1 : decide (n < 0) = false := decide_eq_false hn0
      have e2 : decide ((l1.length : Int) < n) = true := decide_eq_true (by omega)
      go_wp2
      generalize w1.setCell ⟨g, 1, none⟩ (.bool true) = wE at *
      have hgE : g < wE.heap.size := by omega
      clear hsz
      go_loopw [6, 7] (fun v i wr => v = .slice none 0 0 ∧ i = .int .i64 0 ∧ wr = wE) (fun _ _ _ => 0)
      case atStart => exact ⟨rfl, rfl, rfl⟩
      case round =>
        obtain ⟨rfl, rfl, rfl⟩ := hrel
        by_cases hpos : 0 < n
        all_goals
          first
            | (exfalso; omega)
            | (go_wp2
               go_ret
               exact ⟨_, [], _, _, rfl, fun _ _ _ => Sl.nil _ _ _, hspec, hrE, hkE⟩)
  · have e1 : decide (n < 0) = false := decide_eq_false (by omega)
    have e2 : decide ((l1.length : Int) < n) = false := decide_eq_false (by omega)
    have hlp := hs.lenOk hn
    clear hs
    cases b1 with
    | true =>
      have hspec : SpecP (listP P) l bad [] l1 true := SpecP.bind hlp (SpecP.bad _ _ _ _)
      have hrE := hr1
      have hkE := hk1
      have hcE := h4
      clear hlp HC
      go_wp2
      generalize w1 = wE at *
      go_loopw [6, 7] (fun v i wr => v = .slice none 0 0 ∧ i = .int .i64 0 ∧ wr = wE) (fun _ _ _ => 0)
      case atStart => exact ⟨rfl, rfl, rfl⟩
      case round =>
        obtain ⟨rfl, rfl, rfl⟩ := hrel
        by_cases hpos : 0 < n
        all_goals
          first
            | (exfalso; omega)
            | (go_wp2
               go_ret
               exact ⟨_, [], _, _, rfl, fun _ _ _ => Sl.nil _ _ _, hspec, hrE, hkE⟩)
    | false =>
      go_wp2
      go_loopw [6, 7] (fun v i wr => ∃ (css : List (Elm 3)) (xs : List Span) (l' : List Int) (bad' : Bool), xs.length ≤ n.toNat ∧ i = .int .i64 (xs.length : Int) ∧ Own encC 84 3 w.heap.size wr v css ∧ Els (Pl encSpan) w.heap.size wr v.ownBlock css xs ∧ SpecP (loopP P xs.length) l1 false xs l' bad' ∧ Rdr W0 wr g l' bad' ∧ Kg w wr g) (fun _ i _ => n.toNat - (intOf i).toNat)
      case atStart => exact ⟨[], [], l1, false, Nat.zero_le _, rfl, Own.nil _ _ _ _ _, Els.nil _ _ _ _ _, SpecP.ret _ _ _, hr1, hk1⟩
      case round =>
        clear hr1 hk1 h1 h2 h3 h4 h5 hg1
        obtain ⟨css, xs, l2, b2, hxs, rfl, own, hels, hs2, hr2, hk2⟩ := hrel
        obtain ⟨v2, -, h2, h3, h4, h5⟩ := hr2.cells
        have hg2 := hr2.lt
        obtain ⟨A2, c2, rfl, hc2, hm2⟩ := own.form
        have hcl := hels.1
        rw [hcl] at own hels hc2 ⊢
        cases b2 with
        | true =>
          have hspec : SpecP (listP P) l bad xs l2 true := SpecP.bind hlp (hs2.early hxs)
          have hfin := hels.fin own
          by_cases hpos : xs.length < n.toNat
          all_goals
            go_wp2
            go_ret
            exact ⟨_, xs, l2, _, rfl, hfin, hspec, hr2, hk2⟩
        | false =>
          by_cases hpos : xs.length < n.toNat
          · have e3 : decide ((xs.length : Int) < n) = true := decide_eq_true (by omega)
            have hxn : ((xs.length : Int) < n) := by omega
            go_wp2_with fail
            refine (HC.out _ l2 false hk2 hr2).mono ?_
            rintro e w3 ⟨v3, x, l3, b3, rfl, ho, hs3, hr3, hk3⟩
            obtain ⟨cs3, rfl, hrd3⟩ := ho.here; obtain ⟨hlen3, hone3⟩ := span_one hrd3; have hEl := ho.imp (fun w' h => VA.inj h); have hfl3 : cs3.length = ((#[.int .i64 0, .int .i64 0, .int .i64 0] : Array Value)).size := hlen3
            have own3 := own.kg hk3 hg
            have hels3 := hels.kg hk3 hg
            have hge := own.ge
            have hlt3 := World.ownsRow.lt own
            have hkk := hk2.trans hk3
            have hz3 := hk2.size
            have hz4 := hk3.size
            clear own hels h2 h3 h4 h5 hr2
            have hcap : (css ++ [(⟨_, hlen3, hone3⟩ : Elm 3)]).length = css.length + 1 := by simp
            go_wp2_with (at_builtin; rw [fold_fill #[.int .i64 0, .int .i64 0, .int .i64 0] cs3 hfl3]; refine wpl_append_flat rfl (.tmp 36) (.tmp 39) rfl stSpan encC_len encC_one rfl (own3.alloc _) rfl (Sl.one (R := Pl encC) w3 _ 84 3 (⟨_, hlen3, hone3⟩ : Elm 3) hlen3 rfl) (by simp; omega) (by simp; omega) (by simp; omega) ?_; intro v4 w4 hown4 hgrow4 hat4 hnil4)
            have hk4 : Kg w w4 g := ⟨hgrow4.os.trans hkk.os, hgrow4.tape.trans hkk.tape, hgrow4.output.trans hkk.output, by have := hgrow4.size; simp at this; omega, fun k hk hne => by rw [hgrow4.block k (by simp; omega) (fun e => by have := hge k e.symm; omega), heap_alloc_old _ _ (by omega)]; exact hkk.block k hk hne⟩
            have hg4 : w4.heap[g]? = w3.heap[g]? := by rw [hgrow4.block g (by simp; omega) (fun e => by have := hge g e.symm; omega), heap_alloc_old _ _ (by omega)]
            have hr4 := hr3.keepG (Kg.to_kp hkp hk4 hlo) hg4
            have hels4 := ((hels3.snoc (⟨_, hlen3, hone3⟩ : Elm 3) x hz3 (Nat.le_refl _) (fun q hq => .inl (hlt3 q hq).2) hEl).kg (((Kp.refl w3).alloc _).kg g) hg).grow hgrow4 hat4
            have hs4 := SpecP.bind (Q := fun ys => bindP P fun y => retP (ys ++ [y])) hs2 (SpecP.bind (Q := fun y => retP (xs ++ [y])) hs3 (SpecP.ret (xs ++ [x]) l3 b3))
            rw [← loopP_snoc] at hs4
            clear hgrow4 hat4 hnil4 own3 hels3 ho hEl hr3 hk3 hs3 hs2 hkk
            go_roundw
            case rel => exact ⟨_, xs ++ [x], l3, b3, by simp; omega, by simp, hown4, hels4, by simpa using hs4, hr4, hk4⟩
            case measure => simp [intOf]; omega
          · have e3 : decide ((xs.length : Int) < n) = false := decide_eq_false (by omega)
            have hxe := hid (show xs.length = n.toNat by omega)
            rw [hxe.out] at hs2
            have hspec : SpecP (listP P) l bad xs l2 false := SpecP.bind hlp hs2
            have hfin := hels.fin own
            go_wp2
            go_ret
            exact ⟨_, xs, l2, _, rfl, hfin, hspec, hr2, hk2⟩
end Go.Proofs.Ytmokpnkpfodppaa
