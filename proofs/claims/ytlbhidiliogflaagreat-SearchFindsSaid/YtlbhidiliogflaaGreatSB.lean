/-
The numbers below another one; whether a graph has no cycle: the walks.
Whether a graph has no cycle for values: the walk.
Which rows and graphs fail for values; the first case that holds; whether values are a solution: the walks.
-/
import Derived.Test.YtlbhidiliogflaaGreatSA
import Derived.Test.YtlbhidiliogflaaGreatGM
namespace Go.Proofs.YtlbhidiliogflaaGreat
set_option linter.unusedSimpArgs false
set_option linter.unusedVariables false
open Go.RowKit

theorem stIntM : SliceT Tryz.prog 30 3 1 8 := SliceT.mk' Tryz.underlying30 (z := .int .i64 0) (by kernel_rfl) rfl (by omega)
theorem stBoolM : SliceT Tryz.prog 125 4 1 1 := SliceT.mk' Tryz.underlying125 (z := .bool false) (by kernel_rfl) rfl (by omega)
theorem numsL_set (n k : Nat) (hk : k < n) : ((numsL k) ++ List.replicate (n - k) (0 : Int)).set k (k : Int) = numsL (k + 1) ++ List.replicate (n - (k + 1)) (0 : Int) := by
  have e1 : n - k = (n - (k + 1)) + 1 := by omega
  rw [List.set_append, if_neg (by rw [numsL_len]; omega), numsL_len, Nat.sub_self, e1, List.replicate_succ, List.set_cons_zero]
  have e2 : numsL (k + 1) = numsL k ++ [(k : Int)] := by unfold numsL; rw [List.range_succ, List.map_append]; rfl
  rw [e2, List.append_assoc]
  rfl
set_option maxHeartbeats 1000000 in
theorem sNumbers_any (n : Nat) (w : World) (hn : n ≤ 1000000) :
    Calls Tryz.prog 98 #[.int .i64 (n : Int)] w fun e w' => ∃ v, e = .returned v ∧ Own encInt 3 1 w.heap.size w' v (numsL n) ∧ Kp w w' := by
  go_enter Tryz.func98, Tryz.ntmps98
  go_wp2_with (refine wpl_make_flat (enc := encInt) (base := w.heap.size) rfl (.tmp 5) (.tmp 5) rfl stIntM 0 (zero_of (u := .int .i64 0) (by kernel_rfl) rfl) n rfl rfl (by omega) (by omega) (Nat.le_refl _) ?_; intro w1 own1 k1 z1)
  go_loopw [9] (fun i wr => ∃ (k : Nat) (L : List Int), k ≤ n ∧ i = .int .i64 k ∧ L.length = n ∧ Hid (L = numsL k ++ List.replicate (n - k) (0 : Int)) ∧ Own encInt 3 1 w.heap.size wr (.slice (some ⟨w.heap.size, 0, none⟩) n n) L ∧ Kp w wr ∧ w.heap.size < wr.heap.size) (fun i _ => n - (intOf i).toNat)
  case atStart => exact ⟨0, _, Nat.zero_le _, rfl, by simp, hid (by simp [numsL]), own1, k1, by omega⟩
  case round =>
    clear own1 k1 z1
    obtain ⟨k, L, hk, rfl, hL, HL, own, hkr, hz⟩ := hrel
    by_cases hlt : k < n
    · have hc := own.intCell hL.symm (k := k) (by omega)
      have hf := own.frozen hL.symm k
      have own2 := own.intSet hL.symm (k := k) (by omega) (k : Int)
      have hk2 := hkr.set (p := ⟨w.heap.size, k, none⟩) (Nat.le_refl _) (.int .i64 (k : Int))
      have HN : Hid (L.set k (k : Int) = numsL (k + 1) ++ List.replicate (n - (k + 1)) (0 : Int)) := hid (by rw [HL.out]; exact numsL_set n k hlt)
      have hL2 : (L.set k (k : Int)).length = n := by rw [List.length_set]; exact hL
      have hz2 : w.heap.size < (wr.setCell ⟨w.heap.size, k, none⟩ (.int .i64 (k : Int))).heap.size := by simpa [World.setCell] using hz
      generalize L[k] = x at *
      generalize L.set k (k : Int) = L2 at *
      clear hL own
      have q1 : (0 : Int) ≤ k := by omega
      have q2 : (k : Int) < n := by omega
      go_wp2
      go_roundw
      case rel => exact ⟨k + 1, L2, by omega, by go_num, hL2, HN, own2, hk2, hz2⟩
      case measure => simp [intOf]; omega
    · have HF : Hid (L = numsL n) := hid (by rw [HL.out, show k = n by omega]; simp)
      go_wp2
      go_ret
      exact ⟨_, rfl, by rw [HF.out] at own; exact own, hkr⟩
/-- whether there is an edge -/
def edgB (f s : Nat) (le vs : List Int) (u x : Nat) : Bool := decide (le.getD (u * s + x) 0 ≤ vs.getD (f + u * s + x) 0)
theorem at_row {u x s n : Nat} (hu : u < s) (hx : x < s) (hn : s * s ≤ n) : u * s + x < n := by
  have h1 : (u + 1) * s ≤ s * s := Nat.mul_le_mul_right s hu
  rw [Nat.add_mul, Nat.one_mul] at h1
  omega
set_option maxRecDepth 8000 in
set_option maxHeartbeats 2000000 in
theorem sAcyclic11_any (u x s f : Nat) (bg bv bs bx : Nat) (Ag Av Al : Option Addr) (cg cv cl : Nat) (gone : List Bool) (vs le : List Int) (w : World)
    (hG : Bools w (.slice Ag gone.length cg) gone) (hV : Ints w (.slice Av vs.length cv) vs) (hL : Ints w (.slice Al le.length cl) le)
    (g0 : w.cell? ⟨bg, 0, none⟩ = some (.slice Ag gone.length cg)) (v0 : w.cell? ⟨bv, 0, none⟩ = some (.slice Av vs.length cv))
    (s0 : w.cell? ⟨bs, 0, none⟩ = some (.int .i64 (f : Int))) (s1 : w.cell? ⟨bs, 1, none⟩ = some (.int .i64 (s : Int))) (s2 : w.cell? ⟨bs, 2, none⟩ = some (.slice Al le.length cl)) (x0 : w.cell? ⟨bx, 0, none⟩ = some (.int .i64 (x : Int)))
    (hgl : gone.length = s) (hu : u < s) (hx : x < s) (hs : s ≤ 6) (hf : f ≤ 1000) (hvl : f + s * s ≤ vs.length) (hll : le.length = s * s) :
    Calls Tryz.prog 100 #[.int .i64 (u : Int), .pointer (some ⟨bg, 0, none⟩), .pointer (some ⟨bv, 0, none⟩), .pointer (some ⟨bs, 0, none⟩), .pointer (some ⟨bx, 0, none⟩)] w fun e w' => e = .returned (.bool (!gone.getD u true && edgB f s le vs u x)) ∧ Kp w w' := by
  have b1 := block_lt_of_cell g0
  have b2 := block_lt_of_cell v0
  have b3 := block_lt_of_cell s0
  have b4 := block_lt_of_cell x0
  have i1 := at_row hu hx (Nat.le_refl (s * s))
  have i0 : u * s ≤ 36 := Nat.le_trans (Nat.mul_le_mul (by omega : u ≤ 6) hs) (by omega)
  have jl : u * s + x < le.length := by omega
  have jv : f + u * s + x < vs.length := by omega
  obtain ⟨pg, og, rfl, hpg, cg1⟩ := hG.bools (k := u) (by omega)
  obtain ⟨pv, ov, rfl, hpv, cv1⟩ := hV.ints jv
  obtain ⟨pl, ol, rfl, hpl, cl1⟩ := hL.ints jl
  obtain ⟨hcg, hmg⟩ := hG.caps
  obtain ⟨hcv, hmv⟩ := hV.caps
  obtain ⟨hcl, hml⟩ := hL.caps
  have HE : Hid (edgB f s le vs u x = decide (le[u * s + x] ≤ vs[f + u * s + x])) := hid (by simp [edgB, List.getD, jl, jv])
  have HG : Hid (gone.getD u true = gone[u]) := hid (by simp [List.getD, hgl, hu])
  generalize le[u * s + x] = y at *
  generalize vs[f + u * s + x] = z at *
  generalize gone[u] = g at *
  generalize hm : u * s = m at *
  have hmc : ((u : Int) * (s : Int)) = (m : Int) := by rw [← hm]; simp
  have n3 : ((f : Int) + (m : Int) + (x : Int)).toNat = f + m + x := by omega
  have n4 : ((m : Int) + (x : Int)).toNat = m + x := by omega
  have q1 : (0 : Int) ≤ (f : Int) + (m : Int) + (x : Int) := by omega
  have q2 : (f : Int) + (m : Int) + (x : Int) < vs.length := by omega
  have q3 : (0 : Int) ≤ (m : Int) + (x : Int) := by omega
  have q4 : (m : Int) + (x : Int) < le.length := by omega
  have q5 : (0 : Int) ≤ u := by omega
  have q6 : (u : Int) < gone.length := by omega
  obtain ⟨w1, w1', w2, w3, w4⟩ : IntKind.i64.wrap ((u : Int) * (s : Int)) = (m : Int) ∧ wrap64 ((u : Int) * (s : Int)) = (m : Int) ∧ IntKind.i64.wrap ((f : Int) + (m : Int)) = (f : Int) + (m : Int) ∧ IntKind.i64.wrap ((f : Int) + (m : Int) + (x : Int)) = (f : Int) + (m : Int) + (x : Int) ∧ IntKind.i64.wrap ((m : Int) + (x : Int)) = (m : Int) + (x : Int) := by
    rw [hmc]
    exact ⟨IntWalk.i64_in _ (by omega), IntWalk.wrap64_in _ (by omega), IntWalk.i64_in _ (by omega), IntWalk.i64_in _ (by omega), IntWalk.i64_in _ (by omega)⟩
  clear hm hmc hG hV hL i1 i0 jl jv hgl hll hvl hs hf
  cases g
  all_goals
    go_enter Tryz.func100, Tryz.ntmps100
    go_wp2
    go_quiet (fail)
    go_wp2
    go_ret
    exact ⟨ret_bool (by rw [HG.out, HE.out]; simp), (Kp.refl _).drewN _⟩
set_option maxHeartbeats 400000 in
theorem IndexFuncM_any (p : Int → Bool) (F : FuncId) (cap : List Value) (v : Value) (l : List Int) (w : World) (hS : Ints w v l) (hr : Real Tryz.prog F)
    (hf : ∀ (w' : World) (r : Int), Kp w w' → r ∈ l → Calls Tryz.prog F (.int .i64 r :: cap).toArray w' fun e w'' => e = .returned (.bool (p r)) ∧ Kp w' w'') :
    Calls Tryz.prog 80 #[v, .func (.func F) #[] cap.toArray] w fun e w' => e = .returned (.int .i64 (idxF p 0 l)) ∧ Kp w w' := by
  have HC := hid hf
  clear hf
  have hcf := fun args w => hr.run args w
  obtain ⟨A, c, rfl, hc, hm⟩ := hS.form
  go_enter Tryz.func80, Tryz.ntmps80
  go_wp2
  go_loopw [8] (fun i wr => ∃ k : Nat, k ≤ l.length ∧ i = .int .i64 k ∧ Hid (idxF p 0 l = idxF p k (l.drop k)) ∧ Kp w wr) (fun i _ => l.length - (intOf i).toNat)
  case atStart => exact ⟨0, Nat.zero_le _, rfl, rfl, Kp.refl _⟩
  case round =>
    obtain ⟨k, hk, rfl, HB, hbel⟩ := hrel
    by_cases hlt : k < l.length
    · obtain ⟨hmem, b, o, rfl, hb, h1⟩ := (fun hlt => And.intro (List.getElem_mem (l := l) hlt) ((hS.keep (pl_stable _) hbel).ints hlt)) hlt
      have HD := hid (List.drop_eq_getElem_cons hlt)
      generalize l[k] = r at *
      obtain r := r
      clear hS
      try dsimp only at *
      by_cases hp : p r = true
      · have HF : Hid (idxF p 0 l = k) := hid (by rw [HB.out, HD.out, idxF, if_pos hp])
        have HP := hid hp
        clear hp
        go_wp2_with fail
        refine (HC.out wr r hbel hmem).mono ?_
        rintro e w1 ⟨rfl, hk1⟩
        have hbel1 := hbel.trans hk1
        rw [HP.out]
        go_wp2
        go_ret
        exact ⟨ret_int HF.out.symm, (by repeat (first | assumption | exact Kp.refl _ | apply Kp.alloc | apply Kp.drew | apply Kp.drewN))⟩
      · have HF : Hid (idxF p 0 l = idxF p (k + 1) (l.drop (k + 1))) := hid (by rw [HB.out, HD.out, idxF, if_neg hp])
        have HP := hid (show p r = false by simpa using hp)
        clear hp
        go_wp2_with fail
        refine (HC.out wr r hbel hmem).mono ?_
        rintro e w1 ⟨rfl, hk1⟩
        have hbel1 := hbel.trans hk1
        rw [HP.out]
        go_wp2
        go_roundw
        case rel => exact ⟨k + 1, by omega, by go_num, HF, (by repeat (first | assumption | exact Kp.refl _ | apply Kp.alloc | apply Kp.drew | apply Kp.drewN))⟩
        case measure => simp [intOf]; omega
    · have HF : Hid (idxF p 0 l = -1) := hid (by rw [HB.out, List.drop_of_length_le (by omega)]; rfl)
      go_wp2
      go_ret
      exact ⟨ret_int HF.out.symm, (by repeat (first | assumption | exact Kp.refl _ | apply Kp.alloc | apply Kp.drew | apply Kp.drewN))⟩
set_option maxHeartbeats 400000 in
theorem ContainsFuncM_any (p : Int → Bool) (F : FuncId) (cap : List Value) (v : Value) (l : List Int) (w : World) (hS : Ints w v l) (hr : Real Tryz.prog F)
    (hf : ∀ (w' : World) (r : Int), Kp w w' → r ∈ l → Calls Tryz.prog F (.int .i64 r :: cap).toArray w' fun e w'' => e = .returned (.bool (p r)) ∧ Kp w' w'') :
    Calls Tryz.prog 66 #[v, .func (.func F) #[] cap.toArray] w fun e w' => e = .returned (.bool (l.any p)) ∧ Kp w w' := by
  have HC := hid hf
  clear hf
  rw [← idxF_any p 0 l]
  generalize hi : idxF p 0 l = i
  have HI := hid hi
  clear hi
  obtain ⟨A, c, rfl, hc, hm⟩ := hS.form
  go_enter Tryz.func66, Tryz.ntmps66
  go_wp2_with fail
  refine (IndexFuncM_any p F cap _ l _ hS hr HC.out).mono ?_
  rintro e w1 ⟨rfl, hk1⟩
  rw [HI.out]
  go_wp2
  go_ret
  exact ⟨rfl, (by repeat (first | assumption | exact Kp.refl _ | apply Kp.alloc | apply Kp.drew | apply Kp.drewN))⟩
theorem sAcyclic11_real : Real Tryz.prog 100 := ⟨_, Tryz.func100, by kernel_rfl, by kernel_rfl⟩
theorem numsL_mem {n : Nat} {r : Int} (h : r ∈ numsL n) : ∃ u : Nat, r = (u : Int) ∧ u < n := by
  unfold numsL at h
  obtain ⟨u, h1, h2⟩ := List.mem_map.1 h
  exact ⟨u, h2.symm, by simpa using h1⟩
/-- a vertex to which no edge of the others leads -/
def freeB (f s : Nat) (le vs : List Int) (gone : List Bool) (x : Nat) : Bool := !gone.getD x true && !(numsL s).any (fun u => !gone.getD u.toNat true && edgB f s le vs u.toNat x)
/-- what the closures of acyclic find -/
structure AcyW (w : World) (bg bv bs : Nat) (f s : Nat) (le vs : List Int) (gone : List Bool) : Prop where
  gone : ∃ Ag cg, Bools w (.slice Ag gone.length cg) gone ∧ w.cell? ⟨bg, 0, none⟩ = some (.slice Ag gone.length cg)
  vals : ∃ Av cv, Ints w (.slice Av vs.length cv) vs ∧ w.cell? ⟨bv, 0, none⟩ = some (.slice Av vs.length cv)
  least : ∃ Al cl, Ints w (.slice Al le.length cl) le ∧ w.cell? ⟨bs, 0, none⟩ = some (.int .i64 (f : Int)) ∧ w.cell? ⟨bs, 1, none⟩ = some (.int .i64 (s : Int)) ∧ w.cell? ⟨bs, 2, none⟩ = some (.slice Al le.length cl)
theorem AcyW.keep {w w' : World} {bg bv bs f s : Nat} {le vs : List Int} {gone : List Bool} (h : AcyW w bg bv bs f s le vs gone) (hk : Kp w w') : AcyW w' bg bv bs f s le vs gone := by
  obtain ⟨⟨Ag, cg, h1, h2⟩, ⟨Av, cv, h3, h4⟩, ⟨Al, cl, h5, h6, h7, h8⟩⟩ := h
  exact ⟨⟨Ag, cg, h1.keep (pl_stable _) hk, hk.cellS h2⟩, ⟨Av, cv, h3.keep (pl_stable _) hk, hk.cellS h4⟩, ⟨Al, cl, h5.keep (pl_stable _) hk, hk.cellS h6, hk.cellS h7, hk.cellS h8⟩⟩
set_option maxRecDepth 8000 in
set_option maxHeartbeats 2000000 in
theorem sAcyclic1_any (x s f : Nat) (bg bv bs : Nat) (gone : List Bool) (vs le : List Int) (w : World) (hA : AcyW w bg bv bs f s le vs gone)
    (hgl : gone.length = s) (hx : x < s) (hs : s ≤ 6) (hf : f ≤ 1000) (hvl : f + s * s ≤ vs.length) (hll : le.length = s * s) :
    Calls Tryz.prog 99 #[.int .i64 (x : Int), .pointer (some ⟨bg, 0, none⟩), .pointer (some ⟨bs, 0, none⟩), .pointer (some ⟨bv, 0, none⟩)] w fun e w' => e = .returned (.bool (freeB f s le vs gone x)) ∧ Kp w w' := by
  have k0 := (Kp.refl w).alloc (.cells #[.int .i64 (x : Int)] 3)
  have x0 := alloc_cell w #[.int .i64 (x : Int)] 3 0 rfl
  have z0 := alloc_lt w (.cells #[.int .i64 (x : Int)] 3)
  have hA0 := hA.keep k0
  have HP := hid (show gone.length = s ∧ le.length = s * s ∧ f + s * s ≤ vs.length from ⟨hgl, hll, hvl⟩)
  have HF : Hid (freeB f s le vs gone x = (!gone.getD x true && !(numsL s).any (fun u => !gone.getD u.toNat true && edgB f s le vs u.toNat x))) := hid rfl
  have q6 : (x : Int) < gone.length := by omega
  have q5 : (0 : Int) ≤ x := by omega
  have hgx : x < gone.length := by omega
  have HG : Hid (gone.getD x true = gone[x]) := hid (by simp [List.getD, hgx])
  clear hgl hvl hll
  have hA1 := hA0
  obtain ⟨⟨Ag, cg, hG, g0⟩, -, ⟨Al, cl, -, s0, s1, s2⟩⟩ := hA1
  have b1 := block_lt_of_cell g0
  have b3 := block_lt_of_cell s0
  obtain ⟨hcg, hmg⟩ := hG.caps
  obtain ⟨pg, og, rfl, hpg, cg1⟩ := hG.bools hgx
  generalize gone[x] = g at *
  clear hA hG
  cases g with
  | true =>
    go_enter Tryz.func99, Tryz.ntmps99
    go_wp2
    go_ret
    exact ⟨ret_bool (by rw [HF.out, HG.out]; rfl), k0⟩
  | false =>
    go_enter Tryz.func99, Tryz.ntmps99
    go_wp2_with fail
    refine (sNumbers_any s _ (by omega)).mono ?_
    rintro e w1 ⟨v1, rfl, own1, k1⟩
    have S1 := own1.sl encInt_len
    obtain ⟨A1, c1, rfl, hc1, hm1⟩ := own1.form
    replace k0 := k0.trans k1
    have hA2 := hA0.keep k1
    have x1 := k1.cellS x0
    have z1 := Nat.lt_of_lt_of_le z0 k1.size
    clear own1 k1 g0 s0 s1 s2 hA0 x0 cg1 z0
    go_wp2_with fail
    refine (ContainsFuncM_any (fun u => !gone.getD u.toNat true && edgB f s le vs u.toNat x) 100 [.pointer (some ⟨bg, 0, none⟩), .pointer (some ⟨bv, 0, none⟩), .pointer (some ⟨bs, 0, none⟩), .pointer (some ⟨w.heap.size, 0, none⟩)] _ (numsL s) _ S1 sAcyclic11_real (fun w' r hk hmem => ?_)).mono ?_
    · obtain ⟨u, rfl, hu⟩ := numsL_mem hmem
      obtain ⟨⟨Ag', cg', h1, h2⟩, ⟨Av, cv, h3, h4⟩, ⟨Al', cl', h5, h6, h7, h8⟩⟩ := hA2.keep hk
      exact sAcyclic11_any u x s f bg bv bs w.heap.size Ag' Av Al' cg' cv cl' gone vs le w' h1 h3 h5 h2 h4 h6 h7 h8 (hk.cellS x1) HP.out.1 hu hx hs hf HP.out.2.2 HP.out.2.1
    · rintro e w2 ⟨rfl, k2⟩
      generalize hz : (numsL s).any (fun u => !gone.getD u.toNat true && edgB f s le vs u.toNat x) = z
      have Hz := hid hz
      clear hz
      go_wp2
      go_ret
      exact ⟨ret_bool (by rw [HF.out, HG.out, Hz.out]; simp), k0.trans k2⟩
end Go.Proofs.YtlbhidiliogflaaGreat
namespace Go.Proofs.YtlbhidiliogflaaGreat
set_option linter.unusedSimpArgs false
set_option linter.unusedVariables false
open Go.RowKit

theorem idxF_cases {α : Type} (p : α → Bool) : ∀ (k : Nat) (l : List α), (idxF p k l = -1 ∧ l.any p = false) ∨ ∃ j, ∃ h : j < l.length, idxF p k l = ((k + j : Nat) : Int) ∧ p l[j] = true ∧ ∀ i (hi : i < j), p (l[i]'(Nat.lt_trans hi h)) = false
  | _, [] => .inl ⟨rfl, rfl⟩
  | k, x :: l => by
    unfold idxF
    by_cases hp : p x = true
    · rw [if_pos hp]
      exact .inr ⟨0, by simp, by simp, by simpa using hp, fun i hi => by omega⟩
    · rw [if_neg hp]
      rcases idxF_cases p (k + 1) l with ⟨h1, h2⟩ | ⟨j, hj, h1, h2, h3⟩
      · exact .inl ⟨h1, by rw [List.any_cons, h2]; simpa using hp⟩
      · refine .inr ⟨j + 1, by simpa using hj, by rw [h1]; congr 1; omega, by simpa using h2, fun i hi => ?_⟩
        cases i with
        | zero => simpa using hp
        | succ i => simpa using h3 i (by omega)
/-- take away vertices, as often as said -/
def acyF (f s : Nat) (le vs : List Int) : Nat → List Bool → Bool
  | 0, _ => true
  | n + 1, gone => if idxF (fun r => freeB f s le vs gone r.toNat) 0 (numsL s) < 0 then false else acyF f s le vs n (gone.set (idxF (fun r => freeB f s le vs gone r.toNat) 0 (numsL s)).toNat true)
def acyG (g : Gr) (vs : List Int) : Bool := acyF g.first.toNat g.size.toNat g.least vs g.size.toNat (List.replicate g.size.toNat false)
theorem sAcyclic1_real : Real Tryz.prog 99 := ⟨_, Tryz.func99, by kernel_rfl, by kernel_rfl⟩
theorem Bools.own {w : World} {e base g c : Nat} {l : List Bool} {n : Nat} (h : Own encBool e 1 base w (.slice (some ⟨g, 0, none⟩) n c) l) (hn : l.length = n) : Bools w (.slice (some ⟨g, 0, none⟩) l.length c) l := by
  subst hn
  exact h.sl encBool_len
set_option maxRecDepth 8000 in
set_option maxHeartbeats 4000000 in
theorem sAcyclic_any (va vv : Value) (g : Gr) (vs : List Int) (n : Nat) (w : World) (hg : GrV w va g) (hv : Ints w vv vs) (hok : grOk n g = true) (hn : vs.length = n) (hn2 : n ≤ 1000) :
    Calls Tryz.prog 87 #[va, vv] w fun e w' => e = .returned (.bool (acyG g vs)) ∧ Kp w w' := by
  obtain ⟨A, c, rfl, hl⟩ := hg
  obtain ⟨fi, sz, le⟩ := g
  unfold grOk at hok
  dsimp only at *
  rw [Bool.and_eq_true, decide_eq_true_eq] at hok
  obtain ⟨⟨a1, a2, a3, a4, a5⟩, -⟩ := hok
  obtain ⟨s, rfl⟩ := Int.eq_ofNat_of_zero_le (show 0 ≤ sz by omega)
  obtain ⟨f, rfl⟩ := Int.eq_ofNat_of_zero_le a3
  have hs1 : 1 ≤ s := by omega
  have hs6 : s ≤ 6 := by omega
  have hss : ((s * s : Nat) : Int) = (s : Int) * (s : Int) := by simp
  have hll : le.length = s * s := by omega
  have hvl : f + s * s ≤ vs.length := by omega
  have hf : f ≤ 1000 := by omega
  have HP := hid (show le.length = s * s ∧ f + s * s ≤ vs.length from ⟨hll, hvl⟩)
  have HF : Hid (acyG ⟨f, s, le⟩ vs = acyF f s le vs s (List.replicate s false)) := hid (by simp [acyG])
  clear a1 a2 a3 a4 a5 hss hll hvl hn
  obtain ⟨A', c', rfl, hc', hm'⟩ := hv.form
  obtain ⟨hc, hm⟩ := hl.caps
  have k0 := ((Kp.refl w).alloc (.cells #[.int .i64 (f : Int), .int .i64 (s : Int), .slice A le.length c] 83)).alloc (.cells #[.slice A' vs.length c'] 30)
  have hsz : ((w.alloc (.cells #[.int .i64 (f : Int), .int .i64 (s : Int), .slice A le.length c] 83)).alloc (.cells #[.slice A' vs.length c'] 30)).heap.size = w.heap.size + 2 := by simp
  have c0 := ((Kp.refl _).alloc (.cells #[.slice A' vs.length c'] 30)).cellS (alloc_cell w #[.int .i64 (f : Int), .int .i64 (s : Int), .slice A le.length c] 83 0 rfl)
  have c1 := ((Kp.refl _).alloc (.cells #[.slice A' vs.length c'] 30)).cellS (alloc_cell w #[.int .i64 (f : Int), .int .i64 (s : Int), .slice A le.length c] 83 1 rfl)
  have c2 := ((Kp.refl _).alloc (.cells #[.slice A' vs.length c'] 30)).cellS (alloc_cell w #[.int .i64 (f : Int), .int .i64 (s : Int), .slice A le.length c] 83 2 rfl)
  have c3 := alloc_cell (w.alloc (.cells #[.int .i64 (f : Int), .int .i64 (s : Int), .slice A le.length c] 83)) #[.slice A' vs.length c'] 30 0 rfl
  rw [World.size_alloc] at c3
  go_enter Tryz.func87, Tryz.ntmps87
  go_wp2_with (refine wpl_make_flat (enc := encBool) (base := w.heap.size + 2) rfl (.tmp 8) (.tmp 8) rfl stBoolM false (zero_of (u := .bool false) (by kernel_rfl) rfl) s rfl rfl (by omega) (by omega) (by simp) ?_; intro w1 own1 k1 z1; rw [hsz] at own1; have d0 := k1.cellS c0; have d1 := k1.cellS c1; have d2 := k1.cellS c2; have d3 := k1.cellS c3)
  have kB := (Kp.refl w1).alloc (.cells #[.slice (some ⟨w.heap.size + 2, 0, none⟩) s s] 125)
  have e0 := kB.cellS d0
  have e1 := kB.cellS d1
  have e2 := kB.cellS d2
  have e3 := kB.cellS d3
  have e4 := alloc_cell w1 #[.slice (some ⟨w.heap.size + 2, 0, none⟩) s s] 125 0 rfl
  have ownB := own1.alloc (.cells #[.slice (some ⟨w.heap.size + 2, 0, none⟩) s s] 125)
  have kW := k0.trans (k1.trans kB)
  have zB : w.heap.size + 4 = (w1.alloc (.cells #[.slice (some ⟨w.heap.size + 2, 0, none⟩) s s] 125)).heap.size := by simp at z1; simp; omega
  have z1' : w1.heap.size = w.heap.size + 2 + 1 := by simpa using z1
  rw [z1'] at e4
  clear c0 c1 c2 c3 d0 d1 d2 d3 own1 k0 k1 kB hsz z1 z1'
  generalize w1.alloc (.cells #[.slice (some ⟨w.heap.size + 2, 0, none⟩) s s] 125) = w2 at *
  generalize hb : w.heap.size = b at *
  have HB := hid hb
  clear hb
  have HI := hid (show (List.replicate s false).length = s by simp)
  generalize List.replicate s false = gone0 at *
  go_loopw [12] (fun i wr => ∃ (k : Nat) (gone : List Bool), k ≤ s ∧ i = .int .i64 k ∧ Hid (gone.length = s) ∧ Own encBool 4 1 (b + 2) wr (.slice (some ⟨b + 2, 0, none⟩) s s) gone ∧ Kg w2 wr (b + 2) ∧ Hid (acyG ⟨f, s, le⟩ vs = acyF f s le vs (s - k) gone)) (fun i _ => s - (intOf i).toNat)
  case atStart => exact ⟨0, gone0, Nat.zero_le _, rfl, HI, ownB, Kg.refl _ _, HF⟩
  case round =>
    clear ownB HF HI
    obtain ⟨k, gone, hk, rfl, HL, own, hkr, HF⟩ := hrel
    have c0 := hkr.cellS e0 (by show b ≠ b + 2; omega)
    have c1 := hkr.cellS e1 (by show b ≠ b + 2; omega)
    have c2 := hkr.cellS e2 (by show b ≠ b + 2; omega)
    have c3 := hkr.cellS e3 (by show b + 1 ≠ b + 2; omega)
    have c4 := hkr.cellS e4 (by show b + 2 + 1 ≠ b + 2; omega)
    have hz := hkr.size
    have kwr := Kg.to_kp kW hkr (by have := HB.out; omega)
    by_cases hlt : k < s
    · have hv1 := hv.keep (pl_stable _) kwr
      have hl1 := hl.keep (pl_stable _) kwr
      have HT : Hid (acyF f s le vs (s - k) gone = if idxF (fun r => freeB f s le vs gone r.toNat) 0 (numsL s) < 0 then false else acyF f s le vs (s - (k + 1)) (gone.set (idxF (fun r => freeB f s le vs gone r.toNat) 0 (numsL s)).toNat true)) := hid (by
        rw [show s - k = (s - (k + 1)) + 1 by omega]
        rfl)
      go_wp2_with fail
      refine (sNumbers_any s _ (by omega)).mono ?_
      rintro e w3 ⟨v3, rfl, own3, k3⟩
      have S3 := own3.sl encInt_len
      obtain ⟨A3, c3', rfl, hc3, hm3⟩ := own3.form
      have hA : AcyW w3 (b + 2 + 1) (b + 1) b f s le vs gone := AcyW.keep ⟨⟨some ⟨b + 2, 0, none⟩, s, Bools.own own HL.out, by rw [HL.out]; exact c4⟩, ⟨_, _, hv1, c3⟩, ⟨_, _, hl1, c0, c1, c2⟩⟩ k3
      have own4 := own.kp k3
      have d4 := k3.cellS c4
      have kk := hkr.trans (k3.kg (b + 2))
      have hz3 := k3.size
      clear own own3 c0 c1 c2 c3 c4 hv1 hl1
      go_wp2_with fail
      refine (IndexFuncM_any (fun r => freeB f s le vs gone r.toNat) 99 [.pointer (some ⟨b + 2 + 1, 0, none⟩), .pointer (some ⟨b, 0, none⟩), .pointer (some ⟨b + 1, 0, none⟩)] _ (numsL s) _ S3 sAcyclic1_real (fun w' r hk hmem => ?_)).mono ?_
      · obtain ⟨u, rfl, hu⟩ := numsL_mem hmem
        exact sAcyclic1_any u s f _ _ _ gone vs le w' (hA.keep hk) HL.out hu hs6 hf HP.out.2 HP.out.1
      · rintro e w5 ⟨rfl, k5⟩
        have own5 := own4.kp k5
        have d5 := k5.cellS d4
        have kk5 := kk.trans (k5.kg (b + 2))
        have hz5 := k5.size
        have hkp5 := Kg.to_kp kW kk5 (by have := HB.out; omega)
        clear own4 d4 kk S3 hA
        rcases idxF_cases (fun r => freeB f s le vs gone r.toNat) 0 (numsL s) with ⟨h1, -⟩ | ⟨j, hj, h1, -, -⟩
        · rw [h1] at HT ⊢
          have HE : Hid (acyG ⟨f, s, le⟩ vs = false) := hid (by rw [HF.out, HT.out]; rfl)
          clear h1
          go_wp2
          go_ret
          exact ⟨ret_bool HE.out.symm, hkp5⟩
        · rw [numsL_len] at hj
          rw [h1, Nat.zero_add] at HT ⊢
          have HE : Hid (acyG ⟨f, s, le⟩ vs = acyF f s le vs (s - (k + 1)) (gone.set j true)) := hid (by rw [HF.out, HT.out, if_neg (by omega)]; simp)
          have hfz := own5.frozen (by rw [HL.out]) j
          have hcell := own5.boolCell HL.out.symm (k := j) (by rw [HL.out]; exact hj)
          have own6 := own5.boolSet HL.out.symm (k := j) (by rw [HL.out]; exact hj) true
          have kk6 := kk5.set (p := ⟨b + 2, j, none⟩) (.inl rfl) (.bool true)
          have HL2 : Hid ((gone.set j true).length = s) := hid (by rw [List.length_set, HL.out])
          generalize gone.set j true = gone2 at *
          generalize gone[j]'(by rw [HL.out]; exact hj) = old at *
          have q1 : (0 : Int) ≤ j := by omega
          have q2 : (j : Int) < s := by omega
          clear h1 HT own5 kk5
          go_wp2
          go_roundw
          case rel => exact ⟨k + 1, gone2, by omega, by go_num, HL2, own6, kk6, HE⟩
          case measure => simp [intOf]; omega
    · have HE : Hid (acyG ⟨f, s, le⟩ vs = true) := hid (by rw [HF.out, show s - k = 0 by omega]; rfl)
      go_wp2
      go_ret
      exact ⟨ret_bool HE.out.symm, kwr⟩
end Go.Proofs.YtlbhidiliogflaaGreat
namespace Go.Proofs.YtlbhidiliogflaaGreat
set_option linter.unusedSimpArgs false
set_option linter.unusedVariables false
open Go.RowKit

/-- the indices of the elements with a property -/
def idxsF {α : Type} (p : α → Bool) : Nat → List α → List Int
  | _, [] => []
  | k, x :: l => if p x then (k : Int) :: idxsF p (k + 1) l else idxsF p (k + 1) l
theorem idxsF_len {α : Type} (p : α → Bool) : ∀ (k : Nat) (l : List α), (idxsF p k l).length ≤ l.length
  | _, [] => by simp [idxsF]
  | k, x :: l => by
    have := idxsF_len p (k + 1) l
    unfold idxsF
    split <;> simp <;> omega
theorem idxsF_nil {α : Type} (p : α → Bool) : ∀ (k : Nat) (l : List α), decide (0 < (idxsF p k l).length) = l.any p
  | _, [] => by simp [idxsF]
  | k, x :: l => by
    unfold idxsF
    rw [List.any_cons, ← idxsF_nil p (k + 1) l]
    by_cases h : p x <;> simp [h]
theorem idxsF_yes {α : Type} {p : α → Bool} {k : Nat} {x : α} {l : List α} (h : p x = true) : idxsF p k (x :: l) = (k : Int) :: idxsF p (k + 1) l := by rw [idxsF, if_pos h]
theorem idxsF_no {α : Type} {p : α → Bool} {k : Nat} {x : α} {l : List α} (h : p x = false) : idxsF p k (x :: l) = idxsF p (k + 1) l := by rw [idxsF, if_neg (by rw [h]; decide)]
def rowOkV (vs : List Int) (r : Row) : Prop := (∀ t ∈ r.terms, okT vs.length t) ∧ r.terms.length ≤ 128
/-- values that a valid system can be asked about -/
structure FitV (s : Sys) (vs : List Int) : Prop where
  rows : ∀ r ∈ s.rows, rowOkV vs r
  graphs : ∀ g ∈ s.graphs, grOk vs.length g = true
  cases : ∀ l ∈ s.cases, ∀ r ∈ l, rowOkV vs r
  okv : okV vs
  len : vs.length ≤ 128
  nrows : s.rows.length ≤ 1024
  ngraphs : s.graphs.length ≤ 64
  ncases : s.cases.length ≤ 1024
def badR (vs : List Int) (r : Row) : Bool := !holdsR vs r
def badG (vs : List Int) (g : Gr) : Bool := !acyG g vs
def goodC (vs : List Int) (l : List Row) : Bool := !l.any (badR vs)
set_option maxRecDepth 8000 in
set_option maxHeartbeats 4000000 in
theorem sFails_any (va vv : Value) (s : Sys) (vs : List Int) (w : World) (hs : SysV w va s) (hv : Ints w vv vs) (hF : FitV s vs) :
    Calls Tryz.prog 78 #[va, vv] w fun e w' => ∃ v1 v2, e = .returned (.tuple #[v1, v2]) ∧ Ints w' v1 (idxsF (badR vs) 0 s.rows) ∧ Ints w' v2 (idxsF (badG vs) 0 s.graphs) ∧ Kp w w' := by
  have hs' := hs
  obtain ⟨Ab, cb, Ar, cr, Ag, cg, Ac, cc, rfl, hb, hr, hg, hc⟩ := hs'
  obtain ⟨l1, m1⟩ := hb.caps
  obtain ⟨l2, m2⟩ := hr.caps
  obtain ⟨l3, m3⟩ := hg.caps
  obtain ⟨l4, m4⟩ := hc.caps
  obtain ⟨A', c', rfl, hc', hm'⟩ := hv.form
  have B0 := SysB.new w #[.slice Ab s.box.length cb, .slice Ar s.rows.length cr, .slice Ag s.graphs.length cg, .slice Ac s.cases.length cc] 27
  obtain ⟨b0, b1, b2, b3⟩ := B0.cells
  have k0 := (Kp.refl w).alloc (.cells #[.slice Ab s.box.length cb, .slice Ar s.rows.length cr, .slice Ag s.graphs.length cg, .slice Ac s.cases.length cc] 27)
  have z0 := alloc_lt w (.cells #[.slice Ab s.box.length cb, .slice Ar s.rows.length cr, .slice Ag s.graphs.length cg, .slice Ac s.cases.length cc] 27)
  clear hs B0
  go_enter Tryz.func78, Tryz.ntmps78
  go_wp2
  generalize w.alloc (.cells #[.slice Ab s.box.length cb, .slice Ar s.rows.length cr, .slice Ag s.graphs.length cg, .slice Ac s.cases.length cc] 27) = w0 at *
  have hgl := block_lt_of_cell b0
  generalize hbb : w.heap.size = bb at *
  have HBB := hid hbb
  clear hbb
  have hn1 := hF.nrows
  have hn2 := hF.ngraphs
  go_loopw [6, 15] (fun v i wr => ∃ (k : Nat) (L : List Int), k ≤ s.rows.length ∧ i = .int .i64 k ∧ L.length ≤ k ∧ Own encInt 3 1 w0.heap.size wr v L ∧ Hid (idxsF (badR vs) 0 s.rows = L ++ idxsF (badR vs) k (s.rows.drop k)) ∧ Kp w0 wr) (fun _ i _ => s.rows.length - (intOf i).toNat)
  case atStart => exact ⟨0, [], Nat.zero_le _, rfl, Nat.le_refl _, Own.nil _ _ _ _ _, rfl, Kp.refl _⟩
  case round =>
    obtain ⟨k, L, hk, rfl, hL, own, HL, hkr⟩ := hrel
    have kk := k0.trans hkr
    obtain ⟨A1, c1, rfl, hc1, hm1⟩ := own.form
    by_cases hlt : k < s.rows.length
    · obtain ⟨b, o, A2, c2, rfl, hb2, h1, h2, hT⟩ := (hr.keep rdRow_stable kk).row hlt
      have HD := hid (List.drop_eq_getElem_cons hlt)
      obtain ⟨hok, hl128⟩ := hF.rows s.rows[k] (List.getElem_mem hlt)
      have hv1 := hv.keep (pl_stable _) kk
      clear b0 b1 b2 b3 hb hr hg hc
      generalize s.rows[k] = r at *
      obtain ⟨ts, bd⟩ := r
      dsimp only at h1 h2 hT hok hl128
      have HOK := hid hok
      clear hok
      go_wp2_with fail
      refine (sHolds1_any _ _ ts bd vs _ (hT.keep (pl_stable _) ((Kp.refl _).alloc _)) (hv1.keep (pl_stable _) ((Kp.refl _).alloc _)) HOK.out hF.okv hl128).mono ?_
      rintro e w2 ⟨rfl, k2⟩
      replace k2 := ((Kp.refl wr).alloc _).trans k2
      have own2 := own.kp k2
      have k3 := hkr.trans k2
      cases hh : holdsR vs ⟨ts, bd⟩ with
      | true =>
        have HN : Hid (idxsF (badR vs) 0 s.rows = L ++ idxsF (badR vs) (k + 1) (s.rows.drop (k + 1))) := hid (by rw [HL.out, HD.out, idxsF_no (by simp [badR, hh])])
        clear hh
        go_wp2
        go_roundw
        case rel => exact ⟨k + 1, L, by omega, by go_num, by omega, own2, HN, k3⟩
        case measure => simp [intOf]; omega
      | false =>
        have HN : Hid (idxsF (badR vs) 0 s.rows = (L ++ [(k : Int)]) ++ idxsF (badR vs) (k + 1) (s.rows.drop (k + 1))) := hid (by rw [HL.out, HD.out, idxsF_yes (by simp [badR, hh])]; simp)
        have hbz2 := k3.size
        clear hh
        go_wp2_with (at_builtin; refine wpl_append_flat rfl (.tmp 24) (.tmp 26) rfl stIntM encInt_len encInt_one rfl (own2.alloc _) rfl (litI _ [(k : Int)] _ rfl (by simp) 1 rfl) (by simp; omega) (by simp; omega) (by simp; omega) ?_; intro v4 w4 hown4 hgrow4 hat4 hnil4)
        go_roundw
        case rel => exact ⟨k + 1, L ++ [(k : Int)], by omega, by go_num, by simp; omega, hown4, HN, (k3.alloc _).grown hgrow4 own2.ge⟩
        case measure => simp [intOf]; omega
    · have HR : Hid (L = idxsF (badR vs) 0 s.rows) := hid (by rw [HL.out, List.drop_of_length_le (by omega)]; simp [idxsF])
      have SL := own.sl encInt_len
      have c2 := hkr.cellS b2
      clear own HL b0 b1 b2 b3
      have hgw := block_lt_of_cell c2
      obtain ⟨wo, rfl⟩ : ∃ wo : World, wo = wr := ⟨_, rfl⟩
      go_wp2
      go_loopw [7, 32] (fun v i wr => ∃ (k : Nat) (M : List Int), k ≤ s.graphs.length ∧ i = .int .i64 k ∧ M.length ≤ k ∧ Own encInt 3 1 wo.heap.size wr v M ∧ Hid (idxsF (badG vs) 0 s.graphs = M ++ idxsF (badG vs) k (s.graphs.drop k)) ∧ Kp wo wr) (fun _ i _ => s.graphs.length - (intOf i).toNat)
      case atStart => exact ⟨0, [], Nat.zero_le _, rfl, Nat.le_refl _, Own.nil _ _ _ _ _, rfl, Kp.refl _⟩
      case round =>
        obtain ⟨m, M, hm1, rfl, hM, own, HM, hkq⟩ := hrel
        have kq := kk.trans hkq
        obtain ⟨A3, c3, rfl, hc3, hm3⟩ := own.form
        clear c2 hgw
        by_cases hlt2 : m < s.graphs.length
        · obtain ⟨b, o, A2, c2, rfl, hb2, h1, h2, h3, hT⟩ := (hg.keep rdGr_stable kq).gr hlt2
          have HD := hid (List.drop_eq_getElem_cons hlt2)
          have hok := hid (hF.graphs s.graphs[m] (List.getElem_mem hlt2))
          have hv1 := hv.keep (pl_stable _) kq
          clear hb hr hg hc hlt
          generalize s.graphs[m] = r at *
          obtain ⟨fi, sz, le⟩ := r
          dsimp only at h1 h2 h3 hT
          have hlen := hF.len
          go_wp2_with fail
          refine (sAcyclic_any _ _ ⟨fi, sz, le⟩ vs vs.length _ ⟨_, _, rfl, hT.keep (pl_stable _) ((Kp.refl _).alloc _)⟩ (hv1.keep (pl_stable _) ((Kp.refl _).alloc _)) hok.out rfl (by omega)).mono ?_
          rintro e w2 ⟨rfl, k2⟩
          replace k2 := ((Kp.refl wr).alloc _).trans k2
          have own2 := own.kp k2
          have k3 := hkq.trans k2
          cases hh : acyG ⟨fi, sz, le⟩ vs with
          | true =>
            have HN : Hid (idxsF (badG vs) 0 s.graphs = M ++ idxsF (badG vs) (m + 1) (s.graphs.drop (m + 1))) := hid (by rw [HM.out, HD.out, idxsF_no (by simp [badG, hh])])
            clear hh
            go_wp2
            go_roundw
            case rel => exact ⟨m + 1, M, by omega, by go_num, by omega, own2, HN, k3⟩
            case measure => simp [intOf]; omega
          | false =>
            have HN : Hid (idxsF (badG vs) 0 s.graphs = (M ++ [(m : Int)]) ++ idxsF (badG vs) (m + 1) (s.graphs.drop (m + 1))) := hid (by rw [HM.out, HD.out, idxsF_yes (by simp [badG, hh])]; simp)
            have hbz2 := k3.size
            clear hh
            go_wp2_with (at_builtin; refine wpl_append_flat rfl (.tmp 41) (.tmp 43) rfl stIntM encInt_len encInt_one rfl (own2.alloc _) rfl (litI _ [(m : Int)] _ rfl (by simp) 1 rfl) (by simp; omega) (by simp; omega) (by simp; omega) ?_; intro v4 w4 hown4 hgrow4 hat4 hnil4)
            go_roundw
            case rel => exact ⟨m + 1, M ++ [(m : Int)], by omega, by go_num, by simp; omega, hown4, HN, (k3.alloc _).grown hgrow4 own2.ge⟩
            case measure => simp [intOf]; omega
        · have HS : Hid (M = idxsF (badG vs) 0 s.graphs) := hid (by rw [HM.out, List.drop_of_length_le (by omega)]; simp [idxsF])
          have SM := own.sl encInt_len
          have SL2 := SL.keep (pl_stable _) hkq
          clear own SL
          go_wp2
          go_ret2
          exact ⟨_, _, rfl, by rw [← HR.out]; exact SL2, by rw [← HS.out]; exact SM, kq⟩
theorem sAlternative1_any (g : Nat) (vt vv : Value) (ts : List Term) (bd : Int) (vs : List Int) (w : World) (ht : Terms w vt ts) (hv : Ints w vv vs) (hg : w.cell? ⟨g, 0, none⟩ = some vv)
    (hok : rowOkV vs ⟨ts, bd⟩) (hvs : okV vs) :
    Calls Tryz.prog 88 #[.agg #[vt, .int .i64 bd], .pointer (some ⟨g, 0, none⟩)] w fun e w' => e = .returned (.bool (badR vs ⟨ts, bd⟩)) ∧ Kp w w' := by
  have hgl := block_lt_of_cell hg
  obtain ⟨A, c, rfl, hc, hm⟩ := ht.form
  obtain ⟨A', c', rfl, hc', hm'⟩ := hv.form
  have k0 := (Kp.refl w).alloc (.cells #[.slice A ts.length c, .int .i64 bd] 51)
  have HF : Hid (badR vs ⟨ts, bd⟩ = !holdsR vs ⟨ts, bd⟩) := hid rfl
  go_enter Tryz.func88, Tryz.ntmps88
  go_wp2_with fail
  refine (sHolds1_any _ _ ts bd vs _ (ht.keep (pl_stable _) k0) (hv.keep (pl_stable _) k0) hok.1 hvs hok.2).mono ?_
  rintro e w1 ⟨rfl, k1⟩
  generalize hx : holdsR vs ⟨ts, bd⟩ = x
  have Hx := hid hx
  clear hx
  go_wp2
  go_ret
  exact ⟨ret_bool (by rw [HF.out, Hx.out]), k0.trans k1⟩
theorem sAlternative1_real : Real Tryz.prog 88 := ⟨_, Tryz.func88, by kernel_rfl, by kernel_rfl⟩
set_option maxHeartbeats 400000 in
theorem IndexFuncRowM_any (p : Row → Bool) (F : FuncId) (cap : List Value) (v : Value) (l : List Row) (w : World) (hS : RowsL w v l) (hr : Real Tryz.prog F)
    (hf : ∀ (w' : World) (A' : Option Addr) (c' : Nat) (ts : List Term) (bd : Int), Kp w w' → (⟨ts, bd⟩ : Row) ∈ l → Terms w' (.slice A' ts.length c') ts → Calls Tryz.prog F (.agg #[.slice A' ts.length c', .int .i64 bd] :: cap).toArray w' fun e w'' => e = .returned (.bool (p ⟨ts, bd⟩)) ∧ Kp w' w'') :
    Calls Tryz.prog 73 #[v, .func (.func F) #[] cap.toArray] w fun e w' => e = .returned (.int .i64 (idxF p 0 l)) ∧ Kp w w' := by
  have HC := hid hf
  clear hf
  have hcf := fun args w => hr.run args w
  obtain ⟨A, c, rfl, hc, hm⟩ := hS.form
  go_enter Tryz.func73, Tryz.ntmps73
  go_wp2
  go_loopw [8] (fun i wr => ∃ k : Nat, k ≤ l.length ∧ i = .int .i64 k ∧ Hid (idxF p 0 l = idxF p k (l.drop k)) ∧ Kp w wr) (fun i _ => l.length - (intOf i).toNat)
  case atStart => exact ⟨0, Nat.zero_le _, rfl, rfl, Kp.refl _⟩
  case round =>
    obtain ⟨k, hk, rfl, HB, hbel⟩ := hrel
    by_cases hlt : k < l.length
    · obtain ⟨hmem, b, o, A', c', rfl, hb, h1, h2, ht⟩ := (fun hlt => And.intro (List.getElem_mem (l := l) hlt) ((hS.keep rdRow_stable hbel).row hlt)) hlt
      have HD := hid (List.drop_eq_getElem_cons hlt)
      generalize l[k] = r at *
      obtain ⟨ts, bd⟩ := r
      clear hS
      try dsimp only at *
      by_cases hp : p ⟨ts, bd⟩ = true
      · have HF : Hid (idxF p 0 l = k) := hid (by rw [HB.out, HD.out, idxF, if_pos hp])
        have HP := hid hp
        clear hp
        go_wp2_with fail
        refine (HC.out wr A' c' ts bd hbel hmem ht).mono ?_
        rintro e w1 ⟨rfl, hk1⟩
        have hbel1 := hbel.trans hk1
        rw [HP.out]
        go_wp2
        go_ret
        exact ⟨ret_int HF.out.symm, (by repeat (first | assumption | exact Kp.refl _ | apply Kp.alloc | apply Kp.drew | apply Kp.drewN))⟩
      · have HF : Hid (idxF p 0 l = idxF p (k + 1) (l.drop (k + 1))) := hid (by rw [HB.out, HD.out, idxF, if_neg hp])
        have HP := hid (show p ⟨ts, bd⟩ = false by simpa using hp)
        clear hp
        go_wp2_with fail
        refine (HC.out wr A' c' ts bd hbel hmem ht).mono ?_
        rintro e w1 ⟨rfl, hk1⟩
        have hbel1 := hbel.trans hk1
        rw [HP.out]
        go_wp2
        go_roundw
        case rel => exact ⟨k + 1, by omega, by go_num, HF, (by repeat (first | assumption | exact Kp.refl _ | apply Kp.alloc | apply Kp.drew | apply Kp.drewN))⟩
        case measure => simp [intOf]; omega
    · have HF : Hid (idxF p 0 l = -1) := hid (by rw [HB.out, List.drop_of_length_le (by omega)]; rfl)
      go_wp2
      go_ret
      exact ⟨ret_int HF.out.symm, (by repeat (first | assumption | exact Kp.refl _ | apply Kp.alloc | apply Kp.drew | apply Kp.drewN))⟩
set_option maxHeartbeats 400000 in
theorem ContainsFuncRowM_any (p : Row → Bool) (F : FuncId) (cap : List Value) (v : Value) (l : List Row) (w : World) (hS : RowsL w v l) (hr : Real Tryz.prog F)
    (hf : ∀ (w' : World) (A' : Option Addr) (c' : Nat) (ts : List Term) (bd : Int), Kp w w' → (⟨ts, bd⟩ : Row) ∈ l → Terms w' (.slice A' ts.length c') ts → Calls Tryz.prog F (.agg #[.slice A' ts.length c', .int .i64 bd] :: cap).toArray w' fun e w'' => e = .returned (.bool (p ⟨ts, bd⟩)) ∧ Kp w' w'') :
    Calls Tryz.prog 55 #[v, .func (.func F) #[] cap.toArray] w fun e w' => e = .returned (.bool (l.any p)) ∧ Kp w w' := by
  have HC := hid hf
  clear hf
  rw [← idxF_any p 0 l]
  generalize hi : idxF p 0 l = i
  have HI := hid hi
  clear hi
  obtain ⟨A, c, rfl, hc, hm⟩ := hS.form
  go_enter Tryz.func55, Tryz.ntmps55
  go_wp2_with fail
  refine (IndexFuncRowM_any p F cap _ l _ hS hr HC.out).mono ?_
  rintro e w1 ⟨rfl, hk1⟩
  rw [HI.out]
  go_wp2
  go_ret
  exact ⟨rfl, (by repeat (first | assumption | exact Kp.refl _ | apply Kp.alloc | apply Kp.drew | apply Kp.drewN))⟩
def altR (r : Int) : Value := .tuple #[.int .i64 (max r 0), .bool (decide (0 ≤ r))]
set_option maxRecDepth 8000 in
set_option maxHeartbeats 4000000 in
theorem sAlternative_any (va vv : Value) (s : Sys) (vs : List Int) (w : World) (hs : SysV w va s) (hv : Ints w vv vs) (hF : FitV s vs) :
    Calls Tryz.prog 79 #[va, vv] w fun e w' => e = .returned (altR (idxF (goodC vs) 0 s.cases)) ∧ Kp w w' := by
  have hs' := hs
  obtain ⟨Ab, cb, Ar, cr, Ag, cg, Ac, cc, rfl, hb, hr, hg, hc⟩ := hs'
  obtain ⟨l1, m1⟩ := hb.caps
  obtain ⟨l2, m2⟩ := hr.caps
  obtain ⟨l3, m3⟩ := hg.caps
  obtain ⟨l4, m4⟩ := hc.caps
  obtain ⟨A', c', rfl, hc', hm'⟩ := hv.form
  have k0 := ((Kp.refl w).alloc (.cells #[.slice Ab s.box.length cb, .slice Ar s.rows.length cr, .slice Ag s.graphs.length cg, .slice Ac s.cases.length cc] 27)).alloc (.cells #[.slice A' vs.length c'] 30)
  have B0 := (SysB.new w #[.slice Ab s.box.length cb, .slice Ar s.rows.length cr, .slice Ag s.graphs.length cg, .slice Ac s.cases.length cc] 27).keep ((Kp.refl _).alloc (.cells #[.slice A' vs.length c'] 30))
  obtain ⟨b0, b1, b2, b3⟩ := B0.cells
  have d0 := alloc_cell (w.alloc (.cells #[.slice Ab s.box.length cb, .slice Ar s.rows.length cr, .slice Ag s.graphs.length cg, .slice Ac s.cases.length cc] 27)) #[.slice A' vs.length c'] 30 0 rfl
  rw [World.size_alloc] at d0
  have hn3 := hF.ncases
  clear hs B0
  go_enter Tryz.func79, Tryz.ntmps79
  go_wp2
  generalize (w.alloc (.cells #[.slice Ab s.box.length cb, .slice Ar s.rows.length cr, .slice Ag s.graphs.length cg, .slice Ac s.cases.length cc] 27)).alloc (.cells #[.slice A' vs.length c'] 30) = w0 at *
  generalize w.heap.size + 1 = bv at *
  generalize w.heap.size = bb at *
  clear b0 b1 b2 b3
  go_loopw [11] (fun i wr => ∃ k : Nat, k ≤ s.cases.length ∧ i = .int .i64 k ∧ Hid (idxF (goodC vs) 0 s.cases = idxF (goodC vs) k (s.cases.drop k)) ∧ Kp w0 wr) (fun i _ => s.cases.length - (intOf i).toNat)
  case atStart => exact ⟨0, Nat.zero_le _, rfl, rfl, Kp.refl _⟩
  case round =>
    obtain ⟨k, hk, rfl, HL, hkr⟩ := hrel
    have kk := k0.trans hkr
    have dr := hkr.cellS d0
    by_cases hlt : k < s.cases.length
    · obtain ⟨b, o, A2, c2, rfl, hb2, h1, hT⟩ := (hc.keep rdRows_stable kk).rowsAt hlt
      have HD := hid (List.drop_eq_getElem_cons hlt)
      have HOK := hid (hF.cases s.cases[k] (List.getElem_mem hlt))
      have hv1 := hv.keep (pl_stable _) kk
      clear hb hr hg hc d0
      have hdl := block_lt_of_cell dr
      generalize s.cases[k] = r at *
      go_wp2_with fail
      refine (ContainsFuncRowM_any (badR vs) 88 [.pointer (some ⟨bv, 0, none⟩)] _ r _ hT sAlternative1_real (fun w' A1 c1 ts bd hk hmem hT2 => sAlternative1_any bv _ _ ts bd vs w' hT2 (hv1.keep (pl_stable _) hk) (hk.cellS dr) (HOK.out _ hmem) hF.okv)).mono ?_
      rintro e w2 ⟨rfl, k2⟩
      cases hh : r.any (badR vs) with
      | true =>
        have HN : Hid (idxF (goodC vs) 0 s.cases = idxF (goodC vs) (k + 1) (s.cases.drop (k + 1))) := hid (by rw [HL.out, HD.out, idxF, if_neg (by simp [goodC, hh])])
        clear hh
        go_wp2
        go_roundw
        case rel => exact ⟨k + 1, by omega, by go_num, HN, hkr.trans k2⟩
        case measure => simp [intOf]; omega
      | false =>
        have HN : Hid (altR (idxF (goodC vs) 0 s.cases) = .tuple #[.int .i64 (k : Int), .bool true]) := hid (by
          rw [HL.out, HD.out, idxF, if_pos (by simp [goodC, hh])]
          unfold altR
          rw [show max (k : Int) 0 = k by omega, decide_eq_true (by omega)])
        clear hh
        go_wp2
        go_ret2
        exact ⟨by rw [HN.out]; rfl, kk.trans k2⟩
    · have HN : Hid (altR (idxF (goodC vs) 0 s.cases) = .tuple #[.int .i64 0, .bool false]) := hid (by
        rw [HL.out, List.drop_of_length_le (by omega)]
        rfl)
      go_wp2
      go_ret2
      exact ⟨by rw [HN.out]; rfl, kk⟩
end Go.Proofs.YtlbhidiliogflaaGreat
