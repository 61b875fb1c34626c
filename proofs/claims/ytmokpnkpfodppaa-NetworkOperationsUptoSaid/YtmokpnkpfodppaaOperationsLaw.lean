
/-
NetworkOperations: for every number of replicas, fates and calls the law returns true and leaves its arguments as they were; the arguments are of bulk at most 1048576 (the form '..UptoSaid').
-/
import Derived.Test.YtmokpnkpfodppaaOpWalk
import Derived.Test.YtmokpnkpfodppaaNetOpen
import Derived.JoinedCond
namespace Go.Proofs.Ytmokpnkpfodppaa.lawOperations
set_option linter.unusedSimpArgs false
set_option linter.unusedVariables false
open Go.ChangeShapes Go.WideShapes Go.ChangeAt Go.RowKit

section
variable {H : Type} {enc : TypeId × Value → H} {w : World} {base : Nat} {spare : Nat → Bool} {held : Bool}
def numCmd (x : Cmd) : List Int := [x.kind, x.tick, x.a, x.b] ++ numMessage x.m
theorem opCmd (n : Nat) (cs : List Value) (y : DataW H × List MemPlace) (h : DataW.trod enc Try.prog w base spare held n 59 cs = some y) : ∃ x : Cmd, rdCmd w cs x ∧ (numCmd x).length ≤ bulk y.1 := by
  obtain ⟨hl, D, hs, hf⟩ := opF Try.underlying59 h
  rw [show Try.prog.cellsOf 59 = 22 by kernel_rfl] at hl
  match cs, hl with
  | [u0, u1, u2, u3, v0, v1, v2, v3, v4, v5, v6, v7, v8, v9, v10, v11, v12, v13, v14, v15, v16, v17], _ =>
    obtain ⟨a, rfl⟩ := opI Try.underlying3 (u := u0) (hf 0 _ 1 rfl (by kernel_rfl))
    obtain ⟨b, rfl⟩ := opI Try.underlying3 (u := u1) (hf 1 _ 1 rfl (by kernel_rfl))
    obtain ⟨c, rfl⟩ := opI Try.underlying3 (u := u2) (hf 2 _ 1 rfl (by kernel_rfl))
    obtain ⟨d, rfl⟩ := opI Try.underlying3 (u := u3) (hf 3 _ 1 rfl (by kernel_rfl))
    obtain ⟨m4, z4, t4⟩ := hf 4 _ 18 rfl (by kernel_rfl)
    obtain ⟨x, hx, lx⟩ := opMessage _ [v0, v1, v2, v3, v4, v5, v6, v7, v8, v9, v10, v11, v12, v13, v14, v15, v16, v17] _ t4
    dsimp only at lx
    refine ⟨⟨a, b, c, d, x⟩, ⟨_, rfl, hx⟩, ?_⟩
    simp only [bsum, List.size_toArray, List.length_cons, List.length_nil] at hs
    have q0 := bulk_one (D 0)
    have q1 := bulk_one (D 1)
    have q2 := bulk_one (D 2)
    have q3 := bulk_one (D 3)
    simp only [numCmd, List.length_append, List.length_cons, List.length_nil]
    omega
theorem opCmds {v : Value} {n : Nat} {y : DataW H × List MemPlace} (h : DataW.trod enc Try.prog w base spare held n 56 [v] = some y) : ∃ l, Cmds w v l ∧ (numL numCmd l).length ≤ bulk y.1 :=
  opSL (R := rdCmd) numCmd Try.underlying56 (size := 22) (by kernel_rfl) (by omega) opCmd h
end
theorem own : ownKnob Try.prog.godebug = none := by kernel_rfl
theorem laidOut : laidOutB Try.prog = true := by kernel_rfl
set_option maxRecDepth 100000 in
theorem lifted (os : Os) (started : os.Started) (H : Type) (enc : TypeId × Value → H) (F : Stop.Interp) :
    ReturnsInHanded {} Try.checked os 7 .any ((Rows.OpenSpec.upto Rows.networkOperationsSpec).pre6 enc Try.prog Try.f7 Rows.networkOperationsUptoRow.domain false) (((Rows.OpenSpec.upto Rows.networkOperationsSpec).at F).post enc Try.prog Try.f7 false true false false) := by
  refine returnsInHanded_of_cond (C := Try.checked) (s := Rows.OpenSpec.upto Rows.networkOperationsSpec) (k := Rows.uptoSmall) rfl own started (by kernel_rfl) Try.func7
    (OpenSpec.witness (enc := enc) (C := Try.checked) (s := Rows.OpenSpec.upto Rows.networkOperationsSpec) (k := Rows.uptoSmall) rfl false ⟨#[], #[.int .i64 0, .slice none 0 0, .slice none 0 0], []⟩ 8 (by kernel_rfl) (by kernel_rfl) (by kernel_rfl)
      (x := ([.lit (.int .i64 0), .nil, .nil], [], [])) (by kernel_rfl) rfl (by kernel_rfl)) ?_
  intro W base args ds gs before hval0 hW hcnd hk _
  have hval : ∀ (j : Nat) t v, Try.f7.params[j]? = some t → args[j]? = some v → Value.okWide Try.prog W .any base t v := hval0
  have hW' := hW
  obtain ⟨p, q, hA0, hV, rfl, hfz, hnd⟩ := hW
  have hA : DataW.TrodAll enc Try.prog W 0 (fun _ => true) true Try.f7.params.toList args.toList ds p := hA0
  rw [Try.params7] at hA hval
  have hk2 : Rows.uptoBulkAll (ds ++ gs) ≤ 1048576 := of_decide_eq_true hk
  clear hk hcnd
  obtain ⟨v0, vs0, d0, ds0, p0, q0, hargs, rfl, rfl, h0, r0⟩ := trodAll_cons hA
  obtain ⟨v1, vs1, d1, ds1, p1, q1, rfl, rfl, rfl, h1, r1⟩ := trodAll_cons r0
  obtain ⟨v2, vs2, d2, ds2, p2, q2, rfl, rfl, rfl, h2, r2⟩ := trodAll_cons r1
  obtain ⟨rfl, rfl, rfl⟩ := trodAll_nil r2
  obtain rfl : args = #[v0, v1, v2] := by cases args; simp_all
  obtain ⟨rfl, rfl⟩ := trodVars_none hV
  have lt0 : ∀ x ∈ p0, x.block < W.heap.size := by obtain ⟨m, hm⟩ := h0; exact DataW.trod_lt m _ _ _ hm
  have lt1 : ∀ x ∈ p1, x.block < W.heap.size := by obtain ⟨m, hm⟩ := h1; exact DataW.trod_lt m _ _ _ hm
  have lt2 : ∀ x ∈ p2, x.block < W.heap.size := by obtain ⟨m, hm⟩ := h2; exact DataW.trod_lt m _ _ _ hm
  obtain ⟨x0, rfl, -, -, wx0⟩ := open_int Try.underlying3 (hval 0 3 v0 rfl rfl) h0
  obtain ⟨a1, len1, cap1, rfl⟩ := okWide_slice Try.underlying48 (hval 1 48 v1 rfl rfl)
  obtain ⟨n1, hn1⟩ := trod_slice_value h1
  obtain ⟨x1, hx1, lx1⟩ := opFates hn1
  obtain ⟨a2, len2, cap2, rfl⟩ := okWide_slice Try.underlying56 (hval 2 56 v2 rfl rfl)
  obtain ⟨n2, hn2⟩ := trod_slice_value h2
  obtain ⟨x2, hx2, lx2⟩ := opCmds hn2
  dsimp only at lx1 lx2
  simp only [List.append_nil, Rows.uptoBulkAll] at hk2
  clear hA0 hval0
  refine (ops_walk _ _ _ x1 x2 W hx1 hx2 (fun x hx => by have := numL_mem numCmd hx lx2; simp only [numCmd, List.length_append] at this; unfold bulk at this; omega) (by have := numL_ge numFate (fun f => by simp [numFate]) x1; unfold bulk at lx1; omega)).mono fun e W' ⟨he, bel⟩ => ?_
  subst he
  exact ⟨_, rfl, _, _, _, [], _, [], hW', trodAll_mk1 (shut_bool Try.underlying4 _), (trodAll_cons_mk (Below.trod laidOut (by kernel_rfl) (of_decide_eq_true (by kernel_rfl)) h0 bel lt0) (trodAll_cons_mk (Below.trod laidOut (by kernel_rfl) (of_decide_eq_true (by kernel_rfl)) h1 bel lt1) (trodAll_cons_mk (Below.trod laidOut (by kernel_rfl) (of_decide_eq_true (by kernel_rfl)) h2 bel lt2) trodAll_mk0))), rfl, Below.frame bel _, fun h => by cases h⟩
theorem over : Rows.networkOperationsUptoRow.holds Try.pinned (Rows.OpenSpec.upto Rows.networkOperationsSpec) :=
  OpenClaim.holds_of_cond 7 Try.f7 rfl rfl rfl rfl rfl rfl rfl ⟨rfl, rfl, rfl, rfl, rfl⟩ rfl rfl rfl rfl rfl (by kernel_rfl) Try.func7 (by kernel_rfl)
    (of_decide_eq_true (by kernel_rfl)) (by unfold Func.isWrapper; first | (rw [if_pos (by decide +kernel)]; kernel_rfl) | (rw [if_neg (by decide +kernel)]; exact ⟨rfl, rfl⟩))
    (fun os started H enc _ F => lifted os started H enc F)
theorem proved : Rows.NetworkOperationsUptoSaid := over
end Go.Proofs.Ytmokpnkpfodppaa.lawOperations
