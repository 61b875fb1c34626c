
/-
CodecEvents: for every event and every base the law returns true and leaves its arguments as they were; the arguments are of bulk at most 1048576 (the form '..UptoSaid').
-/
import Derived.Test.YtmeafoakbkjifaaEventsWalk
import Derived.Test.YtmeafoakbkjifaaCodOpen
import Derived.JoinedCond
namespace Go.Proofs.Ytmeafoakbkjifaa.lawEvents
set_option linter.unusedSimpArgs false
set_option linter.unusedVariables false
open Go.ChangeShapes Go.WideShapes Go.ChangeAt Go.RowKit

theorem own : ownKnob Try.prog.godebug = none := by kernel_rfl
theorem laidOut : laidOutB Try.prog = true := by kernel_rfl
theorem opE {H : Type} {enc : TypeId × Value → H} {w : World} {base : Nat} {spare : Nat → Bool} {held : Bool} (n : Nat) (cs : List Value) (y : DataW H × List MemPlace) (h : DataW.trod enc Try.prog w base spare held n 37 cs = some y) : ∃ x : Event, EventV w (.agg cs.toArray) x ∧ (numEvent x).length ≤ bulk y.1 := by
  obtain ⟨x, ⟨v, rfl, h1⟩, h2⟩ := opEvent n cs y h
  exact ⟨x, ⟨v, rfl, h1⟩, h2⟩
theorem opB {H : Type} {enc : TypeId × Value → H} {w : World} {base : Nat} {spare : Nat → Bool} {held : Bool} (n : Nat) (cs : List Value) (y : DataW H × List MemPlace) (h : DataW.trod enc Try.prog w base spare held n 42 cs = some y) : ∃ x : Base, BaseV w (.agg cs.toArray) x ∧ (numBase x).length ≤ bulk y.1 := by
  obtain ⟨x, h1, h2⟩ := opBase n cs y h
  exact ⟨x, BaseV.va ⟨cs, rfl, h1⟩, h2⟩
set_option maxRecDepth 100000 in
theorem lifted (os : Os) (started : os.Started) (H : Type) (enc : TypeId × Value → H) (F : Stop.Interp) :
    ReturnsInHanded {} Try.checked os 5 .any ((Rows.OpenSpec.upto Rows.codecEventsSpec).pre6 enc Try.prog Try.f5 Rows.codecEventsUptoRow.domain false) (((Rows.OpenSpec.upto Rows.codecEventsSpec).at F).post enc Try.prog Try.f5 false true false false) := by
  refine returnsInHanded_of_cond (C := Try.checked) (s := Rows.OpenSpec.upto Rows.codecEventsSpec) (k := Rows.uptoSmall) rfl own started (by kernel_rfl) Try.func5
    (OpenSpec.witness (enc := enc) (C := Try.checked) (s := Rows.OpenSpec.upto Rows.codecEventsSpec) (k := Rows.uptoSmall) rfl false ⟨#[], #[.agg #[.int .i64 0, .int .i64 0, .int .i64 0, .slice none 0 0, .int .i64 0, .int .i64 0, .int .i64 0, .int .i64 0, .int .i64 0, .int .i64 0, .int .i64 0, .int .i64 0, .int .i64 0], .agg #[.slice none 0 0, .int .i64 0, .slice none 0 0, .slice none 0 0, .slice none 0 0, .slice none 0 0, .slice none 0 0]], []⟩ 8 (by kernel_rfl) (by kernel_rfl) (by kernel_rfl)
      (x := ([.agg [.lit (.int .i64 0), .lit (.int .i64 0), .lit (.int .i64 0), .nil, .lit (.int .i64 0), .lit (.int .i64 0), .agg [.agg [.lit (.int .i64 0), .lit (.int .i64 0), .lit (.int .i64 0)], .lit (.int .i64 0)], .lit (.int .i64 0), .lit (.int .i64 0), .lit (.int .i64 0)], .agg [.nil, .lit (.int .i64 0), .nil, .nil, .nil, .nil, .nil]], [], [])) (by kernel_rfl) rfl (by kernel_rfl)) ?_
  intro W base args ds gs before hval0 hW hcnd hk _
  have hval : ∀ (j : Nat) t v, Try.f5.params[j]? = some t → args[j]? = some v → Value.okWide Try.prog W .any base t v := hval0
  have hW' := hW
  obtain ⟨p, q, hA0, hV, rfl, hfz, hnd⟩ := hW
  have hA : DataW.TrodAll enc Try.prog W 0 (fun _ => true) true Try.f5.params.toList args.toList ds p := hA0
  rw [Try.params5] at hA hval
  have hk2 : Rows.uptoBulkAll (ds ++ gs) ≤ 1048576 := of_decide_eq_true hk
  clear hk hcnd
  obtain ⟨v0, vs0, d0, ds0, p0, q0, hargs, rfl, rfl, h0, r0⟩ := trodAll_cons hA
  obtain ⟨v1, vs1, d1, ds1, p1, q1, rfl, rfl, rfl, h1, r1⟩ := trodAll_cons r0
  obtain ⟨rfl, rfl, rfl⟩ := trodAll_nil r1
  obtain rfl : args = #[v0, v1] := by cases args; simp_all
  obtain ⟨rfl, rfl⟩ := trodVars_none hV
  have lt0 : ∀ x ∈ p0, x.block < W.heap.size := by obtain ⟨m, hm⟩ := h0; exact DataW.trod_lt m _ _ _ hm
  have lt1 : ∀ x ∈ p1, x.block < W.heap.size := by obtain ⟨m, hm⟩ := h1; exact DataW.trod_lt m _ _ _ hm
  obtain ⟨cs0, rfl, hsz0⟩ := okWide_struct Try.underlying37 (hval 0 37 v0 rfl rfl)
  obtain ⟨n0, hn0⟩ := id h0
  obtain ⟨x0, hx0, lx0⟩ := opE n0 cs0.toList _ hn0
  dsimp only at lx0
  simp only [Array.toArray_toList] at hx0
  obtain ⟨cs1, rfl, hsz1⟩ := okWide_struct Try.underlying42 (hval 1 42 v1 rfl rfl)
  obtain ⟨n1, hn1⟩ := id h1
  obtain ⟨x1, hx1, lx1⟩ := opB n1 cs1.toList _ hn1
  dsimp only at lx1
  simp only [Array.toArray_toList] at hx1
  simp only [List.append_nil, Rows.uptoBulkAll] at hk2
  clear hA0 hval0
  refine (events_walk _ _ x0 x1 W hx0 hx1 (by unfold bulk at lx0; omega) (by unfold bulk at lx1; omega)).mono fun e W' ⟨he, bel⟩ => ?_
  subst he
  exact ⟨_, rfl, _, _, _, [], _, [], hW', trodAll_mk1 (shut_bool Try.underlying4 _), (trodAll_cons_mk (Below.trod laidOut (by kernel_rfl) (of_decide_eq_true (by kernel_rfl)) h0 bel lt0) (trodAll_cons_mk (Below.trod laidOut (by kernel_rfl) (of_decide_eq_true (by kernel_rfl)) h1 bel lt1) trodAll_mk0)), rfl, Below.frame bel _, fun h => by cases h⟩
theorem over : Rows.codecEventsUptoRow.holds Try.pinned (Rows.OpenSpec.upto Rows.codecEventsSpec) :=
  OpenClaim.holds_of_cond 5 Try.f5 rfl rfl rfl rfl rfl rfl rfl ⟨rfl, rfl, rfl, rfl, rfl⟩ rfl rfl rfl rfl rfl (by kernel_rfl) Try.func5 (by kernel_rfl)
    (of_decide_eq_true (by kernel_rfl)) (by unfold Func.isWrapper; first | (rw [if_pos (by decide +kernel)]; kernel_rfl) | (rw [if_neg (by decide +kernel)]; exact ⟨rfl, rfl⟩))
    (fun os started H enc _ F => lifted os started H enc F)
theorem proved : Rows.CodecEventsUptoSaid := over
end Go.Proofs.Ytmeafoakbkjifaa.lawEvents
