
/-
Graphs: the visit that yields the simple cycles: the walk.
-/
import Derived.Test.YtlkabhjkncklnaaDgC
import Derived.Test.YtlkabhjkncklnaaDgN
import Derived.Test.YtlkabhjkncklnaaGrowIn
import Derived.Test.YtlkabhjkncklnaaHand
import Derived.RangeFuncLeaves
import Derived.RangeFuncKeeps
namespace Go.Proofs.Ytlkabhjkncklnaa
set_option linter.unusedSimpArgs false
set_option linter.unusedVariables false
open Go.RowKit
attribute [local go_sem] Oper.semAt_some

/-- the cycles that begin with a path, depth first -/
def visitF (n : Nat) (es : List Bool) : Nat → List Nat → List (List Nat)
  | 0, _ => []
  | f + 1, l => (if hasE n es (l.getLastD 0) (l.headD 0) = true then [l] else []) ++ (List.range n).flatMap fun b => if l.headD 0 < b ∧ hasE n es (l.getLastD 0) b = true ∧ b ∉ l then visitF n es f (l ++ [b]) else []
def brF (n : Nat) (es : List Bool) (f : Nat) (l : List Nat) (b : Nat) : List (List Nat) := if l.headD 0 < b ∧ hasE n es (l.getLastD 0) b = true ∧ b ∉ l then visitF n es f (l ++ [b]) else []
def accF (n : Nat) (es : List Bool) (f : Nat) (l : List Nat) (k : Nat) : List (List Nat) := (List.range k).flatMap (brF n es f l)
theorem visitF_succ (n : Nat) (es : List Bool) (f : Nat) (l : List Nat) : visitF n es (f + 1) l = (if hasE n es (l.getLastD 0) (l.headD 0) = true then [l] else []) ++ accF n es f l n := rfl
theorem accF_succ (n : Nat) (es : List Bool) (f : Nat) (l : List Nat) (k : Nat) : accF n es f l (k + 1) = accF n es f l k ++ brF n es f l k := by
  unfold accF
  rw [List.range_succ, List.flatMap_append]
  simp
theorem accF_low (n : Nat) (es : List Bool) (f : Nat) (l : List Nat) : ∀ k, k ≤ l.headD 0 + 1 → accF n es f l k = []
  | 0, _ => rfl
  | k + 1, h => by rw [accF_succ, accF_low n es f l k (by omega), brF, if_neg (by omega)]; rfl
theorem accF_pre (n : Nat) (es : List Bool) (f : Nat) (l : List Nat) {k m : Nat} (h : k ≤ m) : ∃ r, accF n es f l m = accF n es f l k ++ r := by
  induction m with
  | zero => exact ⟨[], by rw [show k = 0 by omega]; simp⟩
  | succ m ih =>
    by_cases hk : k = m + 1
    · subst hk; exact ⟨[], by simp⟩
    · obtain ⟨r, hr⟩ := ih (by omega)
      exact ⟨r ++ brF n es f l m, by rw [accF_succ, hr, List.append_assoc]⟩
/-- the block of the slice that the box bn holds -/
def Xof (bn : Nat) (W : World) (q : Nat) : Prop := ∃ v, W.cell? ⟨bn, 0, none⟩ = some v ∧ v.ownBlock = some q
/-- what the rounds may change: the box bn, the block of the slice that it holds, and the record lp -/
structure KX (bn lp : Nat) (W W' : World) : Prop where
  os : W'.os = W.os
  tape : W'.tape = W.tape
  output : W'.output = W.output
  size : W.heap.size ≤ W'.heap.size
  block : ∀ k, k < W.heap.size → k ≠ bn → k ≠ lp → ¬ Xof bn W k → W'.heap[k]? = W.heap[k]?
  x : ∀ q, Xof bn W' q → Xof bn W q ∨ (W.heap.size ≤ q ∧ q < W'.heap.size)
theorem KX.refl (bn lp : Nat) (W : World) : KX bn lp W W := ⟨rfl, rfl, rfl, Nat.le_refl _, fun _ _ _ _ _ => rfl, fun _ h => .inl h⟩
theorem KX.trans {bn lp : Nat} {A B C : World} (h : KX bn lp A B) (k : KX bn lp B C) : KX bn lp A C :=
  ⟨k.os.trans h.os, k.tape.trans h.tape, k.output.trans h.output, Nat.le_trans h.size k.size, fun q hq h1 h2 h3 => (k.block q (Nat.lt_of_lt_of_le hq h.size) h1 h2 fun hx => by
    rcases h.x q hx with h4 | h4
    · exact h3 h4
    · omega).trans (h.block q hq h1 h2 h3), fun q hq => by
    have := h.size
    have := k.size
    rcases k.x q hq with h4 | h4
    · rcases h.x q h4 with h5 | h5
      · exact .inl h5
      · exact .inr ⟨h5.1, by omega⟩
    · exact .inr ⟨by omega, h4.2⟩⟩
theorem xof_kp {bn : Nat} {A B : World} (h : Kp A B) (hbn : bn < A.heap.size) {q : Nat} (hx : Xof bn B q) : Xof bn A q := by
  obtain ⟨v, h1, h2⟩ := hx
  exact ⟨v, (h.cell (p := ⟨bn, 0, none⟩) hbn).symm.trans h1, h2⟩
theorem Kp.kx {A B : World} (h : Kp A B) {bn : Nat} (hbn : bn < A.heap.size) (lp : Nat) : KX bn lp A B :=
  ⟨h.os, h.tape, h.output, h.size, fun _ hk _ _ _ => h.block hk, fun _ hx => .inl (xof_kp h hbn hx)⟩
theorem Own.kx {α : Type} {enc : α → List Value} {e size base bn lp : Nat} {w w' : World} {v : Value} {l : List α} (h : Own enc e size base w v l) (k : KX bn lp w w') (hg : bn < base) (hb : lp < base) (hx : ∀ q, v.ownBlock = some q → ¬ Xof bn w q) : Own enc e size base w' v l :=
  h.owS w' k.size fun q hq hlt => k.block q hlt (by have := h.ge q hq; omega) (by have := h.ge q hq; omega) (hx q hq)
theorem Own.nox {α : Type} {enc : α → List Value} {e size base bn lp : Nat} {w w' : World} {v : Value} {l : List α} (h : Own enc e size base w v l) (k : KX bn lp w w') (hx : ∀ q, v.ownBlock = some q → ¬ Xof bn w q) : ∀ q, v.ownBlock = some q → ¬ Xof bn w' q := fun q hq h2 => by
  rcases k.x q h2 with h3 | h3
  · exact hx q hq h3
  · have := h.blk_lt q hq
    omega
/-- what stays while the cycles are yielded: the boxes -/
structure VI (n : Nat) (A : Option Addr) (len c lp bn bg bj bv : Nat) (Wz W : World) : Prop where
  kz : Kp Wz W
  zb : Wz.heap.size ≤ bn
  zl : Wz.heap.size ≤ lp
  g : Bx W bg [.int .i64 (n : Int), .slice A len c]
  j : Bx W bj [.func (.yield lp) #[] #[]]
  v : Bx W bv [.func (.func 56) #[] #[.pointer (some ⟨bg, 0, none⟩), .pointer (some ⟨bj, 0, none⟩), .pointer (some ⟨bv, 0, none⟩)]]
  ng : bg ≠ bn ∧ bg ≠ lp
  nj : bj ≠ bn ∧ bj ≠ lp
  nv : bv ≠ bn ∧ bv ≠ lp
  nb : bn < W.heap.size
  xs : ∀ q, Xof bn W q → Wz.heap.size ≤ q ∧ q < W.heap.size ∧ q ≠ bg ∧ q ≠ bj ∧ q ≠ bv
section
variable {n : Nat} {A : Option Addr} {len c lp bn bg bj bv : Nat} {Wz W W' : World}
theorem VI.kb (h : VI n A len c lp bn bg bj bv Wz W) (k : KX bn lp W W') : VI n A len c lp bn bg bj bv Wz W' := by
  have l1 := h.g.lt (by simp)
  have l2 := h.j.lt (by simp)
  have l3 := h.v.lt (by simp)
  have l4 := h.kz.size
  have l5 := k.size
  refine ⟨⟨k.os.trans h.kz.os, k.tape.trans h.kz.tape, k.output.trans h.kz.output, Nat.le_trans l4 l5, fun q hq => ?_⟩, h.zb, h.zl, h.g.keep (k.block bg l1 h.ng.1 h.ng.2 fun hx => (h.xs _ hx).2.2.1 rfl), h.j.keep (k.block bj l2 h.nj.1 h.nj.2 fun hx => (h.xs _ hx).2.2.2.1 rfl), h.v.keep (k.block bv l3 h.nv.1 h.nv.2 fun hx => (h.xs _ hx).2.2.2.2 rfl), h.ng, h.nj, h.nv, Nat.lt_of_lt_of_le h.nb l5, fun q hq => ?_⟩
  · have hq' : q < Wz.heap.size := hq
    have h1 := h.zb
    have h2 := h.zl
    rw [k.block q (by omega) (by omega) (by omega) (fun hx => by have := (h.xs _ hx).1; omega)]
    exact h.kz.block hq'
  · rcases k.x q hq with hx | hx
    · obtain ⟨a1, a2, a3⟩ := h.xs q hx
      exact ⟨a1, by omega, a3⟩
    · exact ⟨by omega, hx.2, by omega, by omega, by omega⟩
theorem VI.kp (h : VI n A len c lp bn bg bj bv Wz W) (k : Kp W W') : VI n A len c lp bn bg bj bv Wz W' := h.kb (k.kx h.nb lp)
end
/-- what a call of yield may do -/
def YieldsAt (lp bn : Nat) (J : List (List Nat) → World → Prop) (Jx : World → Prop) (all : List (List Nat)) : Prop :=
  ∀ pre x v W0 W1, J pre W0 → Kp W0 W1 → Own encInt 3 1 W0.heap.size W1 v (castL x) → (∃ rest, all = pre ++ x :: rest) → ∀ m, YieldAt Fence.wide m Try.prog lp #[v] W1 fun e W' => (e = .returned (.bool true) ∧ J (pre ++ [x]) W' ∧ KX bn lp W1 W') ∨ (e = .returned (.bool false) ∧ Jx W' ∧ KX bn lp W1 W')
/-- how the visit ends -/
def VEnd (lp bn : Nat) (J : List (List Nat) → World → Prop) (Jx : World → Prop) (out : List (List Nat)) (W : World) (e : Ending) (W' : World) : Prop := (e = .returned (.bool true) ∧ J out W' ∧ KX bn lp W W') ∨ (e = .returned (.bool false) ∧ Jx W' ∧ KX bn lp W W')
theorem headD_snoc {p : List Nat} (h : p ≠ []) (b : Nat) : (p ++ [b]).headD 0 = p.headD 0 := by
  cases p with
  | nil => exact absurd rfl h
  | cons x p => rfl
section
variable {P : Program} {α : Type} {enc : α → List Value} {e size bytes base t : Nat} {w : World} {v : Value} {l : List α}
theorem step_append5 {ops : Array Oper} {o : Oper} {a : Act} {K : Act → World → Prop} {Q : Exit → Act → World → Prop} {E : Prop} (hw : Region.wanted o (yielded ops a.tmps) = true) (s x : Operand)
    (ho : o.op = .call { callee := .builtin .append, args := #[s, x], argTypes := #[t, t] }) (hT : SliceT P t e size bytes) (he : ∀ x, (enc x).length = size) (h1 : ∀ x, ∀ u ∈ enc x, u.oneCell' = true)
    (hs : a.eval s = v) (hown : Own enc e size base w v l)
    {v2 : Value} {m : List α} (hx : a.eval x = v2) (hsrc : Sl (Pl enc) size w v2 m) (hlen : l.length + m.length ≤ 4611686018427387904) (hby : (l.length + m.length) * bytes ≤ 140737488355328) (hbase : base ≤ w.heap.size)
    (h : ∀ v' w', Own enc e size base w' v' (l ++ m) → w.grownBy w' v.ownBlock → (v'.ownBlock = v.ownBlock ∨ v'.ownBlock = some w.heap.size) → K (a.put o.dst v') w') : if Region.wanted o (yielded ops a.tmps) = true then Oper.wp P o a w K Q else E := by
  rw [if_pos hw]
  obtain ⟨v', w', hr, h2, h3, h4, h5⟩ := run_append_flat hT he h1 o.type hown hsrc hlen hby hbase
  unfold Oper.wp execOp
  simp only [ho, resolve, invoke, builtin, Sem.run_bind, Sem.run_pure, Result.andThen_ok, List.map_toArray, List.map_cons, List.map_nil, hs, hx, hr]
  exact h v' w' h2 h3 h4
end
theorem headD_eq {l : List Nat} (h : l ≠ []) : l.headD 0 = l[0]'(List.length_pos_iff.2 h) := by
  cases l with
  | nil => exact absurd rfl h
  | cons x l => rfl
set_option maxRecDepth 8000 in
set_option maxHeartbeats 4000000 in
theorem dVisit_any (n : Nat) (es : List Bool) (A : Option Addr) (c lp bn bg bj bv base : Nat) (Wz : World) (hg : GrV Wz (.agg #[.int .i64 (n : Int), .slice A es.length c]) n es) (J : List (List Nat) → World → Prop) (Jx : World → Prop) (all : List (List Nat)) (hbn : bn < base) (hlp : lp < base)
    (hJ0 : ∀ s A B, J s A → Kp A B → J s B) (hY0 : YieldsAt lp bn J Jx all) : ∀ (f : Nat) (p : List Nat) (pre rest : List (List Nat)) (v : Value) (W : World), Own encInt 3 1 base W v (castL p) → p ≠ [] → p.Nodup → (∀ x ∈ p, x < n) → p.length + f = n + 1 → all = pre ++ visitF n es f p ++ rest →
    J pre W → VI n A es.length c lp bn bg bj bv Wz W → base ≤ W.heap.size → (∀ q, v.ownBlock = some q → ¬ Xof bn W q) → Calls Try.prog 56 #[v, .pointer (some ⟨bg, 0, none⟩), .pointer (some ⟨bj, 0, none⟩), .pointer (some ⟨bv, 0, none⟩)] W (VEnd lp bn J Jx (pre ++ visitF n es f p) W) := by
  have hJ := hid hJ0
  have hY := hid hY0
  have HGR := hid hg
  obtain ⟨h1, h6⟩ : 1 ≤ n ∧ n ≤ 6 := by obtain ⟨_, _, _, _, h1, h6⟩ := hg; exact ⟨h1, h6⟩
  clear hJ0 hY0 hg
  intro f
  induction f with
  | zero =>
    intro p pre rest v W hown hp hnd hlt hlen
    have := nodup_len n p hnd hlt
    omega
  | succ f ih =>
    intro p pre rest v W hown hp hnd hlt hlen hall hJp hvi hbase hnx
    have HNX := hid hnx
    have HIH := hid ih
    clear ih
    have HND := hid hnd
    have HLT := hid hlt
    have HOWN := hid hown
    obtain ⟨m, hm⟩ : ∃ m, p.length = m + 1 := ⟨p.length - 1, by have := List.length_pos_iff.2 hp; omega⟩
    obtain ⟨gv, cv, hv, hcv, hmv, hgb, hgW⟩ := hown.row (by rw [castL_len]; omega)
    rw [castL_len, hm] at hv hcv
    subst hv
    have i0 := hown.intCell (by rw [castL_len, hm]) (k := 0) (by rw [castL_len]; omega)
    have im := hown.intCell (by rw [castL_len, hm]) (k := m) (by rw [castL_len]; omega)
    rw [castL_get p 0 (by omega)] at i0
    rw [castL_get p m (by omega)] at im
    have hh : p.headD 0 = p[0] := headD_eq hp
    have hl : p.getLastD 0 = p[m] := by rw [getLastD_eq hp]; congr 1; omega
    rw [← hh] at i0
    rw [← hl] at im
    have hhn : p.headD 0 < n := by rw [hh]; exact hlt _ (List.getElem_mem _)
    have hln : p.getLastD 0 < n := by rw [hl]; exact hlt _ (List.getElem_mem _)
    have HVS := hid (visitF_succ n es f p)
    have HLOW := hid (accF_low n es f p)
    have HALL := hid hall
    have HMM := hid hm
    have HLEN := hid hlen
    have hmb : m ≤ 5 := by omega
    have hm6 : (m : Int) ≤ 5 := by omega
    have HPB : Hid (∀ b, brF n es f p b = if p.headD 0 < b ∧ hasE n es (p.getLastD 0) b = true ∧ b ∉ p then visitF n es f (p ++ [b]) else []) := hid fun b => rfl
    have hnb := hvi.nb
    have hgx := hnx gv rfl
    clear hall hm hh hl hlen hnd hlt hown hnx
    generalize hhd : p.headD 0 = hd at *
    generalize hls : p.getLastD 0 = ls at *
    have HHD := hid hhd
    have HLS := hid hls
    clear hhd hls
    have HG := hid (HGR.out.kp hvi.kz)
    have c0 := hvi.g.cell (j := 0) rfl
    have c1 := hvi.g.cell (j := 1) rfl
    have cj := hvi.j.cell (j := 0) rfl
    have hci : (cv : Int) ≤ 9223372036854775807 := by omega
    go_enter Try.func56, Try.ntmps56
    go_upto_region 2 with (fail)
    obtain ⟨C, HCC⟩ : ∃ C, Hid (C = if hasE n es ls hd = true then [p] else []) := ⟨_, hid rfl⟩
    have HV2 : Hid (visitF n es (f + 1) p = C ++ accF n es f p n) := hid (by rw [HCC.out]; exact HVS.out)
    clear HVS
    go_cut [26] from 14 (fun s26 wx => ∃ bb, s26 = .bool bb ∧ ((bb = false ∧ J (pre ++ C) wx ∧ KX bn lp W wx) ∨ (bb = true ∧ Jx wx ∧ KX bn lp W wx)))
    case first =>
      cases hE : hasE n es ls hd with
      | false =>
        have HC : Hid (C = []) := hid (by rw [HCC.out, hE]; rfl)
        have HE := hid hE
        clear hE
        refine G2.wp_region_growT Kp [] 12 57 (G2.pvL [G2.eqv (.agg #[.int .i64 (n : Int), .slice A es.length c]), G2.eqv (.int .i64 (ls : Int)), G2.eqv (.slice (some ⟨gv, 0, none⟩) (m + 1) cv), G2.eqv (.pointer (some ⟨gv, 0, none⟩)), G2.eqv (.int .i64 (hd : Int)), G2.eqv (.bool false), G2.eqv (.bool false), G2.eqv (undef), G2.eqv (undef), G2.eqv (undef), G2.eqv (undef), G2.eqv (undef)]) (by kernel_rfl) (by kernel_rfl) rfl (fun x => Kp.refl x) (fun _ _ _ h k => h.trans k) (Kp.refl _).drew (fun _ _ _ _ _ h => h) (G2.pvL_keep (G2.stabL_cons (G2.stab_eq _) (G2.stabL_cons (G2.stab_eq _) (G2.stabL_cons (G2.stab_eq _) (G2.stabL_cons (G2.stab_eq _) (G2.stabL_cons (G2.stab_eq _) (G2.stabL_cons (G2.stab_eq _) (G2.stabL_cons (G2.stab_eq _) (G2.stabL_cons (G2.stab_eq _) (G2.stabL_cons (G2.stab_eq _) (G2.stabL_cons (G2.stab_eq _) (G2.stabL_cons (G2.stab_eq _) (G2.stabL_cons (G2.stab_eq _) (G2.stabL_nil)))))))))))))) (G2.stepsT_cons 0 ?_ (G2.stepsT_cons 1 ?_ (G2.stepsT_cons 2 ?_ (G2.stepsT_cons 3 ?_ (G2.stepsT_cons 4 ?_ (G2.stepsT_cons 5 ?_ (G2.stepsT_cons 6 ?_ (G2.stepsT_cons 7 ?_ (G2.stepsT_cons 8 ?_ (G2.stepsT_cons 9 ?_ (G2.stepsT_cons 10 ?_ (G2.stepsT_cons 11 ?_ (G2.stepsT_nil _ _ _))))))))))))) ?_ ?_
        · intro a w' hk hF hD K hK
          have h1 : a.tmps[1]?.getD undef = .pointer (some ⟨bg, 0, none⟩) := hF 1 (by kernel_rfl)
          clear hF hD
          have z0 := hk.cellS c0
          have z1 := hk.cellS c1
          go_simp
          exact hK.out _ _ (Kp.refl _) rfl
        · intro a w' hk hF hD K hK
          have h6 : a.tmps[6]?.getD undef = .int .i64 (ls : Int) := hF 6 (by kernel_rfl)
          clear hF hD
          go_simp
          exact hK.out _ _ (Kp.refl _) rfl
        · intro a w' hk hF hD K hK
          have h0 : a.tmps[0]?.getD undef = .slice (some ⟨gv, 0, none⟩) (m + 1) cv := hF 0 (by kernel_rfl)
          clear hF hD
          go_simp
          exact hK.out _ _ (Kp.refl _) rfl
        · intro a w' hk hF hD K hK
          have h16 : a.tmps[16]?.getD undef = .slice (some ⟨gv, 0, none⟩) (m + 1) cv := hD 2 (by kernel_rfl)
          clear hF hD
          go_simp
          exact hK.out _ _ (Kp.refl _) rfl
        · intro a w' hk hF hD K hK
          have h17 : a.tmps[17]?.getD undef = .pointer (some ⟨gv, 0, none⟩) := hD 3 (by kernel_rfl)
          clear hF hD
          have z := hk.cellS i0
          go_simp
          exact hK.out _ _ (Kp.refl _) rfl
        · intro a w' hk hF hD K hK
          have h14 : a.tmps[14]?.getD undef = .agg #[.int .i64 (n : Int), .slice A es.length c] := hD 0 (by kernel_rfl)
          have h15 : a.tmps[15]?.getD undef = .int .i64 (ls : Int) := hD 1 (by kernel_rfl)
          have h18 : a.tmps[18]?.getD undef = .int .i64 (hd : Int) := hD 4 (by kernel_rfl)
          clear hF hD
          go_simp
          refine (dHas_any _ n es ls hd _ (HG.out.kp hk) hln hhn).mono ?_
          rintro e w12 ⟨rfl, hk9⟩
          rw [HE.out]
          exact hK.out _ _ hk9 rfl
        · intro a w' hk hF hD K hK
          have h19 : a.tmps[19]?.getD undef = .bool false := hD 5 (by kernel_rfl)
          clear hF hD
          go_simp
          exact hK.out _ _ (Kp.refl _) rfl
        · intro a w' hk hF hD K hK
          have h2 : a.tmps[2]?.getD undef = .pointer (some ⟨bj, 0, none⟩) := hF 2 (by kernel_rfl)
          have h20 : a.tmps[20]?.getD undef = .bool false := hD 6 (by kernel_rfl)
          have g20 := guard_get h20
          clear hF hD
          go_simp
          exact hK.out _ _ (Kp.refl _) rfl
        · intro a w' hk hF hD K hK
          have h0 : a.tmps[0]?.getD undef = .slice (some ⟨gv, 0, none⟩) (m + 1) cv := hF 0 (by kernel_rfl)
          have h20 : a.tmps[20]?.getD undef = .bool false := hD 6 (by kernel_rfl)
          have g20 := guard_get h20
          clear hF hD
          go_simp
          exact hK.out _ _ (Kp.refl _) rfl
        · intro a w' hk hF hD K hK
          have h22 : a.tmps[22]?.getD undef = undef := hD 8 (by kernel_rfl)
          have h20 : a.tmps[20]?.getD undef = .bool false := hD 6 (by kernel_rfl)
          have g20 := guard_get h20
          clear hF hD
          go_simp
          exact hK.out _ _ (Kp.refl _) rfl
        · intro a w' hk hF hD K hK
          have h21 : a.tmps[21]?.getD undef = undef := hD 7 (by kernel_rfl)
          have h23 : a.tmps[23]?.getD undef = undef := hD 9 (by kernel_rfl)
          have h20 : a.tmps[20]?.getD undef = .bool false := hD 6 (by kernel_rfl)
          have g20 := guard_get h20
          clear hF hD
          go_simp
          exact hK.out _ _ (Kp.refl _) rfl
        · intro a w' hk hF hD K hK
          have h24 : a.tmps[24]?.getD undef = undef := hD 10 (by kernel_rfl)
          have h20 : a.tmps[20]?.getD undef = .bool false := hD 6 (by kernel_rfl)
          have g20 := guard_get h20
          clear hF hD
          go_simp
          exact hK.out _ _ (Kp.refl _) rfl
        · exact fun i0 hi0 => by simp at hi0
        intro v w9 k9 hv
        have v6 : v 6 = .bool false := hv 6 (by omega)
        have v11 : v 11 = undef := hv 11 (by omega)
        clear hv
        simp only [G2.growPut, G2.gSlot, List.getElem?_toArray, List.getElem?_cons_zero, List.getElem?_cons_succ, Option.bind_some, List.setIfInBounds_toArray, List.set_cons_zero, List.set_cons_succ, List.drop_succ_cons, List.drop_zero, v6, v11]
        go_wp2_with fail
        go_meet
        case rel => exact ⟨false, rfl, .inl ⟨rfl, by rw [HC.out, List.append_nil]; exact hJ.out _ _ _ hJp k9, k9.kx hnb lp⟩⟩
      | true =>
        have HC : Hid (C = [p]) := hid (by rw [HCC.out, hE]; rfl)
        have HE := hid hE
        clear hE
        refine (wpIn_wide (n := 5)).1 ?_
        refine G2.wpIn_region_growT Kp 10 57 (G2.pvL [G2.eqv (.agg #[.int .i64 (n : Int), .slice A es.length c]), G2.eqv (.int .i64 (ls : Int)), G2.eqv (.slice (some ⟨gv, 0, none⟩) (m + 1) cv), G2.eqv (.pointer (some ⟨gv, 0, none⟩)), G2.eqv (.int .i64 (hd : Int)), G2.eqv (.bool true), G2.eqv (.bool true), G2.eqv (.func (.yield lp) #[] #[]), G2.eqv (.slice (some ⟨gv, 0, none⟩) (m + 1) cv), (G2.retOwn encInt 3 1 W.heap.size (castL p))]) (by kernel_rfl) (by kernel_rfl) rfl (fun _ _ _ h k => h.trans k) (Kp.refl _).drew (G2.pvL_keep (G2.stabL_cons (G2.stab_eq _) (G2.stabL_cons (G2.stab_eq _) (G2.stabL_cons (G2.stab_eq _) (G2.stabL_cons (G2.stab_eq _) (G2.stabL_cons (G2.stab_eq _) (G2.stabL_cons (G2.stab_eq _) (G2.stabL_cons (G2.stab_eq _) (G2.stabL_cons (G2.stab_eq _) (G2.stabL_cons (G2.stab_eq _) (G2.stabL_cons (G2.stab_own _ _ _ _ _) (G2.stabL_nil)))))))))))) (G2.stepsT_cons 0 ?_ (G2.stepsT_cons 1 ?_ (G2.stepsT_cons 2 ?_ (G2.stepsT_cons 3 ?_ (G2.stepsT_cons 4 ?_ (G2.stepsT_cons 5 ?_ (G2.stepsT_cons 6 ?_ (G2.stepsT_cons 7 ?_ (G2.stepsT_cons 8 ?_ (G2.stepsT_cons 9 ?_ (G2.stepsT_nil _ _ _))))))))))) ?_
        · intro a w' hk hF hD K hK
          have h1 : a.tmps[1]?.getD undef = .pointer (some ⟨bg, 0, none⟩) := hF 1 (by kernel_rfl)
          clear hF hD
          have z0 := hk.cellS c0
          have z1 := hk.cellS c1
          go_simp
          exact hK.out _ _ (Kp.refl _) rfl
        · intro a w' hk hF hD K hK
          have h6 : a.tmps[6]?.getD undef = .int .i64 (ls : Int) := hF 6 (by kernel_rfl)
          clear hF hD
          go_simp
          exact hK.out _ _ (Kp.refl _) rfl
        · intro a w' hk hF hD K hK
          have h0 : a.tmps[0]?.getD undef = .slice (some ⟨gv, 0, none⟩) (m + 1) cv := hF 0 (by kernel_rfl)
          clear hF hD
          go_simp
          exact hK.out _ _ (Kp.refl _) rfl
        · intro a w' hk hF hD K hK
          have h16 : a.tmps[16]?.getD undef = .slice (some ⟨gv, 0, none⟩) (m + 1) cv := hD 2 (by kernel_rfl)
          clear hF hD
          go_simp
          exact hK.out _ _ (Kp.refl _) rfl
        · intro a w' hk hF hD K hK
          have h17 : a.tmps[17]?.getD undef = .pointer (some ⟨gv, 0, none⟩) := hD 3 (by kernel_rfl)
          clear hF hD
          have z := hk.cellS i0
          go_simp
          exact hK.out _ _ (Kp.refl _) rfl
        · intro a w' hk hF hD K hK
          have h14 : a.tmps[14]?.getD undef = .agg #[.int .i64 (n : Int), .slice A es.length c] := hD 0 (by kernel_rfl)
          have h15 : a.tmps[15]?.getD undef = .int .i64 (ls : Int) := hD 1 (by kernel_rfl)
          have h18 : a.tmps[18]?.getD undef = .int .i64 (hd : Int) := hD 4 (by kernel_rfl)
          clear hF hD
          go_simp
          refine (dHas_any _ n es ls hd _ (HG.out.kp hk) hln hhn).mono ?_
          rintro e w12 ⟨rfl, hk9⟩
          rw [HE.out]
          exact hK.out _ _ hk9 rfl
        · intro a w' hk hF hD K hK
          have h19 : a.tmps[19]?.getD undef = .bool true := hD 5 (by kernel_rfl)
          clear hF hD
          go_simp
          exact hK.out _ _ (Kp.refl _) rfl
        · intro a w' hk hF hD K hK
          have h2 : a.tmps[2]?.getD undef = .pointer (some ⟨bj, 0, none⟩) := hF 2 (by kernel_rfl)
          have h20 : a.tmps[20]?.getD undef = .bool true := hD 6 (by kernel_rfl)
          have g20 := guard_get h20
          clear hF hD
          have z := hk.cellS cj
          go_simp
          exact hK.out _ _ (Kp.refl _) rfl
        · intro a w' hk hF hD K hK
          have h0 : a.tmps[0]?.getD undef = .slice (some ⟨gv, 0, none⟩) (m + 1) cv := hF 0 (by kernel_rfl)
          have h20 : a.tmps[20]?.getD undef = .bool true := hD 6 (by kernel_rfl)
          have g20 := guard_get h20
          clear hF hD
          go_simp
          exact hK.out _ _ (Kp.refl _) rfl
        · intro a w' hk hF hD K hK
          have h22 : a.tmps[22]?.getD undef = .slice (some ⟨gv, 0, none⟩) (m + 1) cv := hD 8 (by kernel_rfl)
          have h20 : a.tmps[20]?.getD undef = .bool true := hD 6 (by kernel_rfl)
          have g20 := guard_get h20
          clear hF hD
          go_simp
          refine (CloneI_any _ (castL p) _ (by have := (HOWN.out.sl encInt_len).keep (pl_stable _) hk; exact this) (by rw [castL_len, HMM.out]; omega)).mono ?_
          rintro e w12 ⟨vc, rfl, ownc, hk9⟩
          exact hK.out _ _ hk9 (ownc.less hk.size)
        intro v w9 k9 hv
        have v7 : v 7 = .func (.yield lp) #[] #[] := hv 7 (by omega)
        have v9 : (G2.retOwn encInt 3 1 W.heap.size (castL p)) (v 9) w9 := hv 9 (by omega)
        have v6 : v 6 = .bool true := hv 6 (by omega)
        clear hv
        simp only [G2.growPut, G2.gSlot, List.getElem?_toArray, List.getElem?_cons_zero, List.getElem?_cons_succ, Option.bind_some, List.setIfInBounds_toArray, List.set_cons_zero, List.set_cons_succ, List.drop_succ_cons, List.drop_zero, v7, v6]
        obtain ⟨fn, tmps, assign, body, hy, hR⟩ := hY.out pre p (v 9) W w9 hJp k9 v9 ⟨accF n es f p n ++ rest, by rw [HALL.out, HV2.out, HC.out]; simp⟩ (5 - 1)
        gi_wp2
        refine hR.mono ?_
        rintro e w3 (⟨rfl, hJ3, hkb⟩ | ⟨rfl, hx, hkb⟩)
        · gi_wp2
          go_wp2
          go_meet
          case rel => exact ⟨false, rfl, .inl ⟨rfl, by rw [HC.out]; exact hJ3, (k9.kx hnb lp).trans hkb⟩⟩
        · gi_wp2
          go_wp2
          go_meet
          case rel => exact ⟨true, rfl, .inr ⟨rfl, hx, (k9.kx hnb lp).trans hkb⟩⟩
    case rest =>
      obtain ⟨bb, rfl, hcc⟩ := hcut
      rcases hcc with ⟨rfl, hJ2, hkb⟩ | ⟨rfl, hx, hkb⟩
      · have HVI := hid hvi
        have hvi2 := hvi.kb hkb
        have j0 := (World.cell?_of_block (hkb.block gv hgW (by omega) (by omega) hgx)).trans i0
        have hsz := hkb.size
        have hdi : (hd : Int) < (n : Int) := by omega
        clear c0 c1 cj i0 im hJp hvi HG
        go_wp2_with fail
        go_loopw [7] (fun i wr => ∃ k : Nat, hd < k ∧ k ≤ n ∧ i = .int .i64 (k : Int) ∧ J (pre ++ C ++ accF n es f p k) wr ∧ KX bn lp W wr) (fun i _ => n - (intOf i).toNat)
        case atStart => exact ⟨hd + 1, by omega, by omega, by go_num, by rw [HLOW.out (hd + 1) (Nat.le_refl _), List.append_nil]; exact hJ2, hkb⟩
        case round =>
          clear hJ2 hkb hvi2 j0
          obtain ⟨k, hk1, hk2, rfl, hJr, hkb⟩ := hrel
          have hvi := HVI.out.kb hkb
          have own := HOWN.out.kx hkb hbn hlp HNX.out
          have hsr := hkb.size
          have hbr : base ≤ wr.heap.size := by omega
          have c0 := hvi.g.cell (j := 0) rfl
          have c1 := hvi.g.cell (j := 1) rfl
          have c2 := hvi.v.cell (j := 0) rfl
          by_cases hkn : k < n
          · have hkl : (k : Int) < (n : Int) := by omega
            have HG := hid (HGR.out.kp hvi.kz)
            have HB := hid (HPB.out k)
            have HAS := hid (accF_succ n es f p k)
            go_upto_region 7 with (fail)
            cases hE : hasE n es ls k with
            | false =>
              have HBR : Hid (brF n es f p k = []) := hid (by rw [HB.out, hE, if_neg (by simp)])
              have HE := hid hE
              clear hE
              refine G2.wp_region_growT Kp [] 19 57 (G2.pvL [G2.eqv (.agg #[.int .i64 (n : Int), .slice A es.length c]), G2.eqv (.int .i64 (ls : Int)), G2.eqv (.int .i64 (k : Int)), G2.eqv (.bool false), G2.eqv (.bool false), G2.eqv (undef), G2.eqv (undef), G2.eqv (undef), G2.eqv (undef), G2.eqv (.bool false), G2.eqv (.bool false), G2.eqv (undef), G2.eqv (undef), G2.eqv (undef), G2.eqv (undef), G2.eqv (undef), G2.eqv (undef), G2.eqv (undef), G2.eqv (undef)]) (by kernel_rfl) (by kernel_rfl) rfl (fun x => Kp.refl x) (fun _ _ _ h k => h.trans k) (Kp.refl _).drew (fun _ _ _ _ _ h => h) (G2.pvL_keep (G2.stabL_cons (G2.stab_eq _) (G2.stabL_cons (G2.stab_eq _) (G2.stabL_cons (G2.stab_eq _) (G2.stabL_cons (G2.stab_eq _) (G2.stabL_cons (G2.stab_eq _) (G2.stabL_cons (G2.stab_eq _) (G2.stabL_cons (G2.stab_eq _) (G2.stabL_cons (G2.stab_eq _) (G2.stabL_cons (G2.stab_eq _) (G2.stabL_cons (G2.stab_eq _) (G2.stabL_cons (G2.stab_eq _) (G2.stabL_cons (G2.stab_eq _) (G2.stabL_cons (G2.stab_eq _) (G2.stabL_cons (G2.stab_eq _) (G2.stabL_cons (G2.stab_eq _) (G2.stabL_cons (G2.stab_eq _) (G2.stabL_cons (G2.stab_eq _) (G2.stabL_cons (G2.stab_eq _) (G2.stabL_cons (G2.stab_eq _) (G2.stabL_nil))))))))))))))))))))) (G2.stepsT_cons 0 ?_ (G2.stepsT_cons 1 ?_ (G2.stepsT_cons 2 ?_ (G2.stepsT_cons 3 ?_ (G2.stepsT_cons 4 ?_ (G2.stepsT_cons 5 ?_ (G2.stepsT_cons 6 ?_ (G2.stepsT_cons 7 ?_ (G2.stepsT_cons 8 ?_ (G2.stepsT_cons 9 ?_ (G2.stepsT_cons 10 ?_ (G2.stepsT_cons 11 ?_ (G2.stepsT_cons 12 ?_ (G2.stepsT_cons 13 ?_ (G2.stepsT_cons 14 ?_ (G2.stepsT_cons 15 ?_ (G2.stepsT_cons 16 ?_ (G2.stepsT_cons 17 ?_ (G2.stepsT_cons 18 ?_ (G2.stepsT_nil _ _ _)))))))))))))))))))) ?_ ?_
              · intro a w' hk hF hD K hK
                have h1 : a.tmps[1]?.getD undef = .pointer (some ⟨bg, 0, none⟩) := hF 1 (by kernel_rfl)
                clear hF hD
                have z0 := hk.cellS c0
                have z1 := hk.cellS c1
                go_simp
                exact hK.out _ _ (Kp.refl _) rfl
              · intro a w' hk hF hD K hK
                have h6 : a.tmps[6]?.getD undef = .int .i64 (ls : Int) := hF 6 (by kernel_rfl)
                clear hF hD
                go_simp
                exact hK.out _ _ (Kp.refl _) rfl
              · intro a w' hk hF hD K hK
                have h7 : a.tmps[7]?.getD undef = .int .i64 (k : Int) := hF 7 (by kernel_rfl)
                clear hF hD
                go_simp
                exact hK.out _ _ (Kp.refl _) rfl
              · intro a w' hk hF hD K hK
                have h37 : a.tmps[37]?.getD undef = .agg #[.int .i64 (n : Int), .slice A es.length c] := hD 0 (by kernel_rfl)
                have h38 : a.tmps[38]?.getD undef = .int .i64 (ls : Int) := hD 1 (by kernel_rfl)
                have h39 : a.tmps[39]?.getD undef = .int .i64 (k : Int) := hD 2 (by kernel_rfl)
                clear hF hD
                go_simp
                refine (dHas_any _ n es ls k _ (HG.out.kp hk) hln hkn).mono ?_
                rintro e w12 ⟨rfl, hk9⟩
                rw [HE.out]
                exact hK.out _ _ hk9 rfl
              · intro a w' hk hF hD K hK
                have h40 : a.tmps[40]?.getD undef = .bool false := hD 3 (by kernel_rfl)
                clear hF hD
                go_simp
                exact hK.out _ _ (Kp.refl _) rfl
              · intro a w' hk hF hD K hK
                have h0 : a.tmps[0]?.getD undef = .slice (some ⟨gv, 0, none⟩) (m + 1) cv := hF 0 (by kernel_rfl)
                have h41 : a.tmps[41]?.getD undef = .bool false := hD 4 (by kernel_rfl)
                have g41 := guard_get h41
                clear hF hD
                go_simp
                exact hK.out _ _ (Kp.refl _) rfl
              · intro a w' hk hF hD K hK
                have h7 : a.tmps[7]?.getD undef = .int .i64 (k : Int) := hF 7 (by kernel_rfl)
                have h41 : a.tmps[41]?.getD undef = .bool false := hD 4 (by kernel_rfl)
                have g41 := guard_get h41
                clear hF hD
                go_simp
                exact hK.out _ _ (Kp.refl _) rfl
              · intro a w' hk hF hD K hK
                have h42 : a.tmps[42]?.getD undef = undef := hD 5 (by kernel_rfl)
                have h43 : a.tmps[43]?.getD undef = undef := hD 6 (by kernel_rfl)
                have h41 : a.tmps[41]?.getD undef = .bool false := hD 4 (by kernel_rfl)
                have g41 := guard_get h41
                clear hF hD
                go_simp
                exact hK.out _ _ (Kp.refl _) rfl
              · intro a w' hk hF hD K hK
                have h44 : a.tmps[44]?.getD undef = undef := hD 7 (by kernel_rfl)
                have h41 : a.tmps[41]?.getD undef = .bool false := hD 4 (by kernel_rfl)
                have g41 := guard_get h41
                clear hF hD
                go_simp
                exact hK.out _ _ (Kp.refl _) rfl
              · intro a w' hk hF hD K hK
                have h41 : a.tmps[41]?.getD undef = .bool false := hD 4 (by kernel_rfl)
                have h45 : a.tmps[45]?.getD undef = undef := hD 8 (by kernel_rfl)
                clear hF hD
                go_simp
                exact hK.out _ _ (Kp.refl _) rfl
              · intro a w' hk hF hD K hK
                have h46 : a.tmps[46]?.getD undef = .bool false := hD 9 (by kernel_rfl)
                clear hF hD
                go_simp
                exact hK.out _ _ (Kp.refl _) rfl
              · intro a w' hk hF hD K hK
                have h3 : a.tmps[3]?.getD undef = .pointer (some ⟨bv, 0, none⟩) := hF 3 (by kernel_rfl)
                have h47 : a.tmps[47]?.getD undef = .bool false := hD 10 (by kernel_rfl)
                have g47 := guard_get h47
                clear hF hD
                go_simp
                exact hK.out _ _ (Kp.refl _) rfl
              · intro a w' hk hF hD K hK
                have h0 : a.tmps[0]?.getD undef = .slice (some ⟨gv, 0, none⟩) (m + 1) cv := hF 0 (by kernel_rfl)
                have h47 : a.tmps[47]?.getD undef = .bool false := hD 10 (by kernel_rfl)
                have g47 := guard_get h47
                clear hF hD
                go_simp
                exact hK.out _ _ (Kp.refl _) rfl
              · intro a w' hk hF hD K hK
                have h49 : a.tmps[49]?.getD undef = undef := hD 12 (by kernel_rfl)
                have h47 : a.tmps[47]?.getD undef = .bool false := hD 10 (by kernel_rfl)
                have g47 := guard_get h47
                clear hF hD
                go_simp
                exact hK.out _ _ (Kp.refl _) rfl
              · intro a w' hk hF hD K hK
                have h7 : a.tmps[7]?.getD undef = .int .i64 (k : Int) := hF 7 (by kernel_rfl)
                have h47 : a.tmps[47]?.getD undef = .bool false := hD 10 (by kernel_rfl)
                have g47 := guard_get h47
                clear hF hD
                go_simp
                exact hK.out _ _ (Kp.refl _) rfl
              · intro a w' hk hF hD K hK
                have h51 : a.tmps[51]?.getD undef = undef := hD 14 (by kernel_rfl)
                have h47 : a.tmps[47]?.getD undef = .bool false := hD 10 (by kernel_rfl)
                have g47 := guard_get h47
                clear hF hD
                go_simp
                exact hK.out _ _ (Kp.refl _) rfl
              · intro a w' hk hF hD K hK
                have h50 : a.tmps[50]?.getD undef = undef := hD 13 (by kernel_rfl)
                have h52 : a.tmps[52]?.getD undef = undef := hD 15 (by kernel_rfl)
                have h47 : a.tmps[47]?.getD undef = .bool false := hD 10 (by kernel_rfl)
                have g47 := guard_get h47
                clear hF hD
                go_simp
                exact hK.out _ _ (Kp.refl _) rfl
              · intro a w' hk hF hD K hK
                have h48 : a.tmps[48]?.getD undef = undef := hD 11 (by kernel_rfl)
                have h53 : a.tmps[53]?.getD undef = undef := hD 16 (by kernel_rfl)
                have h47 : a.tmps[47]?.getD undef = .bool false := hD 10 (by kernel_rfl)
                have g47 := guard_get h47
                clear hF hD
                go_simp
                exact hK.out _ _ (Kp.refl _) rfl
              · intro a w' hk hF hD K hK
                have h54 : a.tmps[54]?.getD undef = undef := hD 17 (by kernel_rfl)
                have h47 : a.tmps[47]?.getD undef = .bool false := hD 10 (by kernel_rfl)
                have g47 := guard_get h47
                clear hF hD
                go_simp
                exact hK.out _ _ (Kp.refl _) rfl
              · exact fun i0 hi0 => by simp at hi0
              intro v w9 k9 hv
              have v10 : v 10 = .bool false := hv 10 (by omega)
              have v18 : v 18 = undef := hv 18 (by omega)
              clear hv
              simp only [G2.growPut, G2.gSlot, List.getElem?_toArray, List.getElem?_cons_zero, List.getElem?_cons_succ, Option.bind_some, List.setIfInBounds_toArray, List.set_cons_zero, List.set_cons_succ, List.drop_succ_cons, List.drop_zero, v10, v18]
              go_wp2_with fail
              go_roundw
              case rel => exact ⟨k + 1, by omega, by omega, by go_num, by rw [HAS.out, HBR.out]; simpa using hJ.out _ _ _ hJr k9, hkb.trans (k9.kx hvi.nb lp)⟩
              case measure => simp [intOf]; omega
            | true =>
              have HE := hid hE
              by_cases hin : k ∈ p
              · have HBR : Hid (brF n es f p k = []) := hid (by rw [HB.out, if_neg (by simp [hin])])
                have HIN : Hid (decide (k ∈ p) = true) := hid (decide_eq_true hin)
                clear hE hin
                refine G2.wp_region_growT Kp [] 19 57 (G2.pvL [G2.eqv (.agg #[.int .i64 (n : Int), .slice A es.length c]), G2.eqv (.int .i64 (ls : Int)), G2.eqv (.int .i64 (k : Int)), G2.eqv (.bool true), G2.eqv (.bool true), G2.eqv (.slice (some ⟨gv, 0, none⟩) (m + 1) cv), G2.eqv (.int .i64 (k : Int)), G2.eqv (.bool true), G2.eqv (.bool false), G2.eqv (.bool false), G2.eqv (.bool false), G2.eqv (undef), G2.eqv (undef), G2.eqv (undef), G2.eqv (undef), G2.eqv (undef), G2.eqv (undef), G2.eqv (undef), G2.eqv (undef)]) (by kernel_rfl) (by kernel_rfl) rfl (fun x => Kp.refl x) (fun _ _ _ h k => h.trans k) (Kp.refl _).drew (fun _ _ _ _ _ h => h) (G2.pvL_keep (G2.stabL_cons (G2.stab_eq _) (G2.stabL_cons (G2.stab_eq _) (G2.stabL_cons (G2.stab_eq _) (G2.stabL_cons (G2.stab_eq _) (G2.stabL_cons (G2.stab_eq _) (G2.stabL_cons (G2.stab_eq _) (G2.stabL_cons (G2.stab_eq _) (G2.stabL_cons (G2.stab_eq _) (G2.stabL_cons (G2.stab_eq _) (G2.stabL_cons (G2.stab_eq _) (G2.stabL_cons (G2.stab_eq _) (G2.stabL_cons (G2.stab_eq _) (G2.stabL_cons (G2.stab_eq _) (G2.stabL_cons (G2.stab_eq _) (G2.stabL_cons (G2.stab_eq _) (G2.stabL_cons (G2.stab_eq _) (G2.stabL_cons (G2.stab_eq _) (G2.stabL_cons (G2.stab_eq _) (G2.stabL_cons (G2.stab_eq _) (G2.stabL_nil))))))))))))))))))))) (G2.stepsT_cons 0 ?_ (G2.stepsT_cons 1 ?_ (G2.stepsT_cons 2 ?_ (G2.stepsT_cons 3 ?_ (G2.stepsT_cons 4 ?_ (G2.stepsT_cons 5 ?_ (G2.stepsT_cons 6 ?_ (G2.stepsT_cons 7 ?_ (G2.stepsT_cons 8 ?_ (G2.stepsT_cons 9 ?_ (G2.stepsT_cons 10 ?_ (G2.stepsT_cons 11 ?_ (G2.stepsT_cons 12 ?_ (G2.stepsT_cons 13 ?_ (G2.stepsT_cons 14 ?_ (G2.stepsT_cons 15 ?_ (G2.stepsT_cons 16 ?_ (G2.stepsT_cons 17 ?_ (G2.stepsT_cons 18 ?_ (G2.stepsT_nil _ _ _)))))))))))))))))))) ?_ ?_
                · intro a w' hk hF hD K hK
                  have h1 : a.tmps[1]?.getD undef = .pointer (some ⟨bg, 0, none⟩) := hF 1 (by kernel_rfl)
                  clear hF hD
                  have z0 := hk.cellS c0
                  have z1 := hk.cellS c1
                  go_simp
                  exact hK.out _ _ (Kp.refl _) rfl
                · intro a w' hk hF hD K hK
                  have h6 : a.tmps[6]?.getD undef = .int .i64 (ls : Int) := hF 6 (by kernel_rfl)
                  clear hF hD
                  go_simp
                  exact hK.out _ _ (Kp.refl _) rfl
                · intro a w' hk hF hD K hK
                  have h7 : a.tmps[7]?.getD undef = .int .i64 (k : Int) := hF 7 (by kernel_rfl)
                  clear hF hD
                  go_simp
                  exact hK.out _ _ (Kp.refl _) rfl
                · intro a w' hk hF hD K hK
                  have h37 : a.tmps[37]?.getD undef = .agg #[.int .i64 (n : Int), .slice A es.length c] := hD 0 (by kernel_rfl)
                  have h38 : a.tmps[38]?.getD undef = .int .i64 (ls : Int) := hD 1 (by kernel_rfl)
                  have h39 : a.tmps[39]?.getD undef = .int .i64 (k : Int) := hD 2 (by kernel_rfl)
                  clear hF hD
                  go_simp
                  refine (dHas_any _ n es ls k _ (HG.out.kp hk) hln hkn).mono ?_
                  rintro e w12 ⟨rfl, hk9⟩
                  rw [HE.out]
                  exact hK.out _ _ hk9 rfl
                · intro a w' hk hF hD K hK
                  have h40 : a.tmps[40]?.getD undef = .bool true := hD 3 (by kernel_rfl)
                  clear hF hD
                  go_simp
                  exact hK.out _ _ (Kp.refl _) rfl
                · intro a w' hk hF hD K hK
                  have h0 : a.tmps[0]?.getD undef = .slice (some ⟨gv, 0, none⟩) (m + 1) cv := hF 0 (by kernel_rfl)
                  have h41 : a.tmps[41]?.getD undef = .bool true := hD 4 (by kernel_rfl)
                  have g41 := guard_get h41
                  clear hF hD
                  go_simp
                  exact hK.out _ _ (Kp.refl _) rfl
                · intro a w' hk hF hD K hK
                  have h7 : a.tmps[7]?.getD undef = .int .i64 (k : Int) := hF 7 (by kernel_rfl)
                  have h41 : a.tmps[41]?.getD undef = .bool true := hD 4 (by kernel_rfl)
                  have g41 := guard_get h41
                  clear hF hD
                  go_simp
                  exact hK.out _ _ (Kp.refl _) rfl
                · intro a w' hk hF hD K hK
                  have h42 : a.tmps[42]?.getD undef = .slice (some ⟨gv, 0, none⟩) (m + 1) cv := hD 5 (by kernel_rfl)
                  have h43 : a.tmps[43]?.getD undef = .int .i64 (k : Int) := hD 6 (by kernel_rfl)
                  have h41 : a.tmps[41]?.getD undef = .bool true := hD 4 (by kernel_rfl)
                  have g41 := guard_get h41
                  clear hF hD
                  go_simp
                  refine (ContainsN_any _ p k _ (by have := (own.kp hk).sl encInt_len; exact this)).mono ?_
                  rintro e w12 ⟨rfl, rfl⟩
                  rw [HIN.out]
                  exact hK.out _ _ (Kp.refl _) rfl
                · intro a w' hk hF hD K hK
                  have h44 : a.tmps[44]?.getD undef = .bool true := hD 7 (by kernel_rfl)
                  have h41 : a.tmps[41]?.getD undef = .bool true := hD 4 (by kernel_rfl)
                  have g41 := guard_get h41
                  clear hF hD
                  go_simp
                  exact hK.out _ _ (Kp.refl _) rfl
                · intro a w' hk hF hD K hK
                  have h41 : a.tmps[41]?.getD undef = .bool true := hD 4 (by kernel_rfl)
                  have h45 : a.tmps[45]?.getD undef = .bool false := hD 8 (by kernel_rfl)
                  clear hF hD
                  go_simp
                  exact hK.out _ _ (Kp.refl _) rfl
                · intro a w' hk hF hD K hK
                  have h46 : a.tmps[46]?.getD undef = .bool false := hD 9 (by kernel_rfl)
                  clear hF hD
                  go_simp
                  exact hK.out _ _ (Kp.refl _) rfl
                · intro a w' hk hF hD K hK
                  have h3 : a.tmps[3]?.getD undef = .pointer (some ⟨bv, 0, none⟩) := hF 3 (by kernel_rfl)
                  have h47 : a.tmps[47]?.getD undef = .bool false := hD 10 (by kernel_rfl)
                  have g47 := guard_get h47
                  clear hF hD
                  go_simp
                  exact hK.out _ _ (Kp.refl _) rfl
                · intro a w' hk hF hD K hK
                  have h0 : a.tmps[0]?.getD undef = .slice (some ⟨gv, 0, none⟩) (m + 1) cv := hF 0 (by kernel_rfl)
                  have h47 : a.tmps[47]?.getD undef = .bool false := hD 10 (by kernel_rfl)
                  have g47 := guard_get h47
                  clear hF hD
                  go_simp
                  exact hK.out _ _ (Kp.refl _) rfl
                · intro a w' hk hF hD K hK
                  have h49 : a.tmps[49]?.getD undef = undef := hD 12 (by kernel_rfl)
                  have h47 : a.tmps[47]?.getD undef = .bool false := hD 10 (by kernel_rfl)
                  have g47 := guard_get h47
                  clear hF hD
                  go_simp
                  exact hK.out _ _ (Kp.refl _) rfl
                · intro a w' hk hF hD K hK
                  have h7 : a.tmps[7]?.getD undef = .int .i64 (k : Int) := hF 7 (by kernel_rfl)
                  have h47 : a.tmps[47]?.getD undef = .bool false := hD 10 (by kernel_rfl)
                  have g47 := guard_get h47
                  clear hF hD
                  go_simp
                  exact hK.out _ _ (Kp.refl _) rfl
                · intro a w' hk hF hD K hK
                  have h51 : a.tmps[51]?.getD undef = undef := hD 14 (by kernel_rfl)
                  have h47 : a.tmps[47]?.getD undef = .bool false := hD 10 (by kernel_rfl)
                  have g47 := guard_get h47
                  clear hF hD
                  go_simp
                  exact hK.out _ _ (Kp.refl _) rfl
                · intro a w' hk hF hD K hK
                  have h50 : a.tmps[50]?.getD undef = undef := hD 13 (by kernel_rfl)
                  have h52 : a.tmps[52]?.getD undef = undef := hD 15 (by kernel_rfl)
                  have h47 : a.tmps[47]?.getD undef = .bool false := hD 10 (by kernel_rfl)
                  have g47 := guard_get h47
                  clear hF hD
                  go_simp
                  exact hK.out _ _ (Kp.refl _) rfl
                · intro a w' hk hF hD K hK
                  have h48 : a.tmps[48]?.getD undef = undef := hD 11 (by kernel_rfl)
                  have h53 : a.tmps[53]?.getD undef = undef := hD 16 (by kernel_rfl)
                  have h47 : a.tmps[47]?.getD undef = .bool false := hD 10 (by kernel_rfl)
                  have g47 := guard_get h47
                  clear hF hD
                  go_simp
                  exact hK.out _ _ (Kp.refl _) rfl
                · intro a w' hk hF hD K hK
                  have h54 : a.tmps[54]?.getD undef = undef := hD 17 (by kernel_rfl)
                  have h47 : a.tmps[47]?.getD undef = .bool false := hD 10 (by kernel_rfl)
                  have g47 := guard_get h47
                  clear hF hD
                  go_simp
                  exact hK.out _ _ (Kp.refl _) rfl
                · exact fun i0 hi0 => by simp at hi0
                intro v w9 k9 hv
                have v10 : v 10 = .bool false := hv 10 (by omega)
                have v18 : v 18 = undef := hv 18 (by omega)
                clear hv
                simp only [G2.growPut, G2.gSlot, List.getElem?_toArray, List.getElem?_cons_zero, List.getElem?_cons_succ, Option.bind_some, List.setIfInBounds_toArray, List.set_cons_zero, List.set_cons_succ, List.drop_succ_cons, List.drop_zero, v10, v18]
                go_wp2_with fail
                go_roundw
                case rel => exact ⟨k + 1, by omega, by omega, by go_num, by rw [HAS.out, HBR.out]; simpa using hJ.out _ _ _ hJr k9, hkb.trans (k9.kx hvi.nb lp)⟩
                case measure => simp [intOf]; omega
              · have HBR : Hid (brF n es f p k = visitF n es f (p ++ [k])) := hid (by rw [HB.out, if_pos ⟨hk1, hE, hin⟩])
                have HIN : Hid (decide (k ∈ p) = false) := hid (decide_eq_false hin)
                have HNI := hid hin
                obtain ⟨rr, HREST⟩ : ∃ rr, Hid (accF n es f p n = accF n es f p (k + 1) ++ rr) := (accF_pre n es f p (Nat.succ_le_of_lt hkn)).imp fun _ h => hid h
                clear hE hin
                have hSf : ∀ W' : World, KX bn lp wr W' → (W'.cell? ⟨bg, 0, none⟩ = some (.int .i64 (n : Int)) ∧ W'.cell? ⟨bg, 1, none⟩ = some (.slice A es.length c) ∧ W'.cell? ⟨bv, 0, none⟩ = some (.func (.func 56) #[] #[.pointer (some ⟨bg, 0, none⟩), .pointer (some ⟨bj, 0, none⟩), .pointer (some ⟨bv, 0, none⟩)])) := fun W' kk => by
                  have hv' := hvi.kb kk
                  exact ⟨hv'.g.cell (j := 0) rfl, hv'.g.cell (j := 1) rfl, hv'.v.cell (j := 0) rfl⟩
                refine wp_region_held_drew (S := fun W' => W'.cell? ⟨bg, 0, none⟩ = some (.int .i64 (n : Int)) ∧ W'.cell? ⟨bg, 1, none⟩ = some (.slice A es.length c) ∧ W'.cell? ⟨bv, 0, none⟩ = some (.func (.func 56) #[] #[.pointer (some ⟨bg, 0, none⟩), .pointer (some ⟨bj, 0, none⟩), .pointer (some ⟨bv, 0, none⟩)])) (by kernel_rfl) (hSf _ ((Kp.refl _).drew.kx hvi.nb lp)) (fun hHeld => ?_)
                have kd : Kp wr wr.drew := (Kp.refl _).drew
                generalize wr.drew = wd at *
                refine take_at 0 37 (v := ?_) rfl rfl (by kernel_rfl) (by kernel_rfl) (by kernel_rfl) (fun _ _ _ h => h) hHeld (Or.inl ⟨by kernel_rfl, ?_⟩) ?_
                rotate_left
                · intro w hSw; (try dsimp only at hSw); go_simp; try with_reducible rfl
                simp only [Act.put, List.setIfInBounds_toArray, List.set_cons_zero, List.set_cons_succ]
                refine take_at 1 38 (v := ?_) rfl rfl (by kernel_rfl) (by kernel_rfl) (by kernel_rfl) (fun _ _ _ h => h) hHeld (Or.inl ⟨by kernel_rfl, ?_⟩) ?_
                rotate_left
                · intro w hSw; (try dsimp only at hSw); go_simp; try with_reducible rfl
                simp only [Act.put, List.setIfInBounds_toArray, List.set_cons_zero, List.set_cons_succ]
                refine take_at 2 39 (v := ?_) rfl rfl (by kernel_rfl) (by kernel_rfl) (by kernel_rfl) (fun _ _ _ h => h) hHeld (Or.inl ⟨by kernel_rfl, ?_⟩) ?_
                rotate_left
                · intro w hSw; (try dsimp only at hSw); go_simp; try with_reducible rfl
                simp only [Act.put, List.setIfInBounds_toArray, List.set_cons_zero, List.set_cons_succ]
                refine wpAnyH_ready (rs := [3]) (by kernel_rfl) (by simp) ?_
                refine AllReadyH.cons (o := _) rfl (fun K hK => ?_) AllReadyH.nil
                go_simp
                refine (dHas_any _ n es ls k _ (HG.out.kp kd) hln hkn).mono ?_
                rintro e wa ⟨rfl, ka⟩
                rw [HE.out]
                have kda := kd.trans ka
                refine hK.out _ _ (hSf _ (kda.kx hvi.nb lp)) (fun hHeld2 => ?_)
                clear hK K hHeld
                have hHeld := hHeld2
                clear hHeld2
                refine take_at 4 41 (v := ?_) rfl rfl (by kernel_rfl) (by kernel_rfl) (by kernel_rfl) (fun _ _ _ h => h) hHeld (Or.inl ⟨by kernel_rfl, ?_⟩) ?_
                rotate_left
                · intro w hSw; (try dsimp only at hSw); go_simp; try with_reducible rfl
                simp only [Act.put, List.setIfInBounds_toArray, List.set_cons_zero, List.set_cons_succ]
                refine take_at 5 42 (v := ?_) rfl rfl (by kernel_rfl) (by kernel_rfl) (by kernel_rfl) (fun _ _ _ h => h) hHeld (Or.inl ⟨by kernel_rfl, ?_⟩) ?_
                rotate_left
                · intro w hSw; (try dsimp only at hSw); go_simp; try with_reducible rfl
                simp only [Act.put, List.setIfInBounds_toArray, List.set_cons_zero, List.set_cons_succ]
                refine take_at 6 43 (v := ?_) rfl rfl (by kernel_rfl) (by kernel_rfl) (by kernel_rfl) (fun _ _ _ h => h) hHeld (Or.inl ⟨by kernel_rfl, ?_⟩) ?_
                rotate_left
                · intro w hSw; (try dsimp only at hSw); go_simp; try with_reducible rfl
                simp only [Act.put, List.setIfInBounds_toArray, List.set_cons_zero, List.set_cons_succ]
                refine wpAnyH_ready (rs := [7]) (by kernel_rfl) (by simp) ?_
                refine AllReadyH.cons (o := _) rfl (fun K hK => ?_) AllReadyH.nil
                go_simp
                refine (ContainsN_any _ p k _ (by have := (own.kp kda).sl encInt_len; exact this)).mono ?_
                rintro e wb ⟨rfl, rfl⟩
                rw [HIN.out]
                refine hK.out _ _ (hSf _ (kda.kx hvi.nb lp)) (fun hHeld2 => ?_)
                clear hK K hHeld
                have hHeld := hHeld2
                clear hHeld2
                refine take_at 8 45 (v := ?_) rfl rfl (by kernel_rfl) (by kernel_rfl) (by kernel_rfl) (fun _ _ _ h => h) hHeld (Or.inl ⟨by kernel_rfl, ?_⟩) ?_
                rotate_left
                · intro w hSw; (try dsimp only at hSw); go_simp; try with_reducible rfl
                simp only [Act.put, List.setIfInBounds_toArray, List.set_cons_zero, List.set_cons_succ]
                refine take_at 9 46 (v := ?_) rfl rfl (by kernel_rfl) (by kernel_rfl) (by kernel_rfl) (fun _ _ _ h => h) hHeld (Or.inl ⟨by kernel_rfl, ?_⟩) ?_
                rotate_left
                · intro w hSw; (try dsimp only at hSw); go_simp; try with_reducible rfl
                simp only [Act.put, List.setIfInBounds_toArray, List.set_cons_zero, List.set_cons_succ]
                refine take_at 10 47 (v := ?_) rfl rfl (by kernel_rfl) (by kernel_rfl) (by kernel_rfl) (fun _ _ _ h => h) hHeld (Or.inl ⟨by kernel_rfl, ?_⟩) ?_
                rotate_left
                · intro w hSw; (try dsimp only at hSw); go_simp; try with_reducible rfl
                simp only [Act.put, List.setIfInBounds_toArray, List.set_cons_zero, List.set_cons_succ]
                refine take_at 11 48 (v := ?_) rfl rfl (by kernel_rfl) (by kernel_rfl) (by kernel_rfl) (fun _ _ _ h => h) hHeld (Or.inl ⟨by kernel_rfl, ?_⟩) ?_
                rotate_left
                · intro w hSw; (try dsimp only at hSw); go_simp; try with_reducible rfl
                simp only [Act.put, List.setIfInBounds_toArray, List.set_cons_zero, List.set_cons_succ]
                refine take_at 12 49 (v := ?_) rfl rfl (by kernel_rfl) (by kernel_rfl) (by kernel_rfl) (fun _ _ _ h => h) hHeld (Or.inl ⟨by kernel_rfl, ?_⟩) ?_
                rotate_left
                · intro w hSw; (try dsimp only at hSw); go_simp; try with_reducible rfl
                simp only [Act.put, List.setIfInBounds_toArray, List.set_cons_zero, List.set_cons_succ]
                refine take_at 14 51 (v := ?_) rfl rfl (by kernel_rfl) (by kernel_rfl) (by kernel_rfl) (fun _ _ _ h => h) hHeld (Or.inl ⟨by kernel_rfl, ?_⟩) ?_
                rotate_left
                · intro w hSw; (try dsimp only at hSw); go_simp; try with_reducible rfl
                simp only [Act.put, List.setIfInBounds_toArray, List.set_cons_zero, List.set_cons_succ]
                refine wpAnyH_ready (rs := [13, 15]) (by kernel_rfl) (by simp) ?_
                refine AllReadyH.cons (o := _) rfl (fun K hK => ?_) (AllReadyH.cons (o := _) rfl (fun K hK => ?_) AllReadyH.nil)
                · go_simp
                  refine (CloneI_any _ (castL p) _ (by have := (own.kp kda).sl encInt_len; exact this) (by rw [castL_len, HMM.out]; omega)).mono ?_
                  rintro e wc ⟨vc, rfl, ownc, kc⟩
                  obtain ⟨Ac, cc, rfl, hcc, hmc⟩ := ownc.form
                  replace ownc := ownc.less kda.size
                  have kdc := kda.trans kc
                  refine hK.out _ _ (hSf _ (kdc.kx hvi.nb lp)) (fun hHeld2 => ?_)
                  clear hK K hHeld
                  have hHeld := hHeld2
                  clear hHeld2
                  refine wpAnyH_ready (rs := [15]) (by kernel_rfl) (by simp) ?_
                  refine AllReadyH.cons (o := _) rfl (fun K hK => ?_) AllReadyH.nil
                  go_simp
                  have kE := kdc.alloc (.cells #[.int .i64 (k : Int)] 3)
                  have sE := Sl.one (R := Pl encInt) wc [.int .i64 (k : Int)] 3 1 (k : Int) rfl rfl
                  have ownE := ownc.alloc (.cells #[.int .i64 (k : Int)] 3)
                  generalize wc.alloc (.cells #[.int .i64 (k : Int)] 3) = wE at *
                  generalize wc.heap.size = gk at *
                  refine hK.out _ _ (hSf _ (kE.kx hvi.nb lp)) (fun hHeld2 => ?_)
                  clear hK K hHeld
                  have hHeld := hHeld2
                  clear hHeld2
                  refine wpAnyH_ready (rs := [16]) (by kernel_rfl) (by simp) ?_
                  refine AllReadyH.cons (o := _) rfl (fun K hK => ?_) AllReadyH.nil
                  refine step_append5 (by kernel_rfl) (.tmp 50) (.tmp 52) rfl stIntM encInt_len encInt_one rfl ownE rfl sE (by rw [castL_len, HMM.out]; simp; omega) (by rw [castL_len, HMM.out]; simp; omega) kE.size ?_
                  intro vn wF ownF hgF hatF
                  have kF : Kp wr wF := kE.grown hgF ownE.ge
                  refine hK.out _ _ (hSf _ (kF.kx hvi.nb lp)) (fun hHeld2 => ?_)
                  clear hK K hHeld
                  have hHeld := hHeld2
                  clear hHeld2
                  refine wpAnyH_ready (rs := [17]) (by kernel_rfl) (by simp) ?_
                  refine AllReadyH.cons (o := _) rfl (fun K hK => ?_) AllReadyH.nil
                  go_simp
                  refine (HIH.out (p ++ [k]) (pre ++ C ++ accF n es f p k) (rr ++ rest) vn wF (by rw [castL_snoc]; exact ownF.less hbr) (by simp) (List.nodup_append.2 ⟨HND.out, by simp, fun x hx y hy e => HNI.out (by simp only [List.mem_singleton] at hy; rw [← hy, ← e]; exact hx)⟩) (fun x hx => by rcases List.mem_append.1 hx with h | h; exact HLT.out x h; simp only [List.mem_singleton] at h; omega) (by have := HLEN.out; simp only [List.length_append, List.length_singleton]; omega) (by rw [HALL.out, HV2.out, HREST.out, HAS.out, HBR.out]; simp) (hJ.out _ _ _ hJr kF) (hvi.kp kF) (Nat.le_trans hbr kF.size) (fun q hq hx => by have h1 := ownF.ge q hq; have h2 := (hvi.xs q (xof_kp kF hvi.nb hx)).2.1; omega)).mono ?_
                  rintro e wG (⟨rfl, hJ9, hk9⟩ | ⟨rfl, hx9, hk9⟩)
                  · have kG := (kF.kx hvi.nb lp).trans hk9
                    refine hK.out _ _ (hSf _ kG) (fun hHeld2 => ?_)
                    clear hK K hHeld
                    have hHeld := hHeld2
                    clear hHeld2
                    refine take_at 18 55 (v := ?_) rfl rfl (by kernel_rfl) (by kernel_rfl) (by kernel_rfl) (fun _ _ _ h => h) hHeld (Or.inl ⟨by kernel_rfl, ?_⟩) ?_
                    rotate_left
                    · intro w hSw; (try dsimp only at hSw); go_simp; try with_reducible rfl
                    simp only [Act.put, List.setIfInBounds_toArray, List.set_cons_zero, List.set_cons_succ]
                    refine take_at 19 56 (v := ?_) rfl rfl (by kernel_rfl) (by kernel_rfl) (by kernel_rfl) (fun _ _ _ h => h) hHeld (Or.inl ⟨by kernel_rfl, ?_⟩) ?_
                    rotate_left
                    · intro w hSw; (try dsimp only at hSw); go_simp; try with_reducible rfl
                    simp only [Act.put, List.setIfInBounds_toArray, List.set_cons_zero, List.set_cons_succ]
                    refine wpAnyH_done (by kernel_rfl) ?_ _
                    go_wp2_with fail
                    go_roundw
                    case rel => exact ⟨k + 1, by omega, by omega, by go_num, by rw [HAS.out, HBR.out]; simpa using hJ9, hkb.trans kG⟩
                    case measure => simp [intOf]; omega
                  · have kG := (kF.kx hvi.nb lp).trans hk9
                    refine hK.out _ _ (hSf _ kG) (fun hHeld2 => ?_)
                    clear hK K hHeld
                    have hHeld := hHeld2
                    clear hHeld2
                    refine take_at 18 55 (v := ?_) rfl rfl (by kernel_rfl) (by kernel_rfl) (by kernel_rfl) (fun _ _ _ h => h) hHeld (Or.inl ⟨by kernel_rfl, ?_⟩) ?_
                    rotate_left
                    · intro w hSw; (try dsimp only at hSw); go_simp; try with_reducible rfl
                    simp only [Act.put, List.setIfInBounds_toArray, List.set_cons_zero, List.set_cons_succ]
                    refine take_at 19 56 (v := ?_) rfl rfl (by kernel_rfl) (by kernel_rfl) (by kernel_rfl) (fun _ _ _ h => h) hHeld (Or.inl ⟨by kernel_rfl, ?_⟩) ?_
                    rotate_left
                    · intro w hSw; (try dsimp only at hSw); go_simp; try with_reducible rfl
                    simp only [Act.put, List.setIfInBounds_toArray, List.set_cons_zero, List.set_cons_succ]
                    refine wpAnyH_done (by kernel_rfl) ?_ _
                    go_wp2
                    go_ret
                    exact .inr ⟨rfl, hx9, hkb.trans kG⟩
                · go_simp
                  have kA := kda.alloc (.cells #[.int .i64 (k : Int)] 3)
                  have sA := Sl.one (R := Pl encInt) wb [.int .i64 (k : Int)] 3 1 (k : Int) rfl rfl
                  generalize wb.alloc (.cells #[.int .i64 (k : Int)] 3) = wb2 at *
                  generalize wb.heap.size = gk at *
                  refine hK.out _ _ (hSf _ (kA.kx hvi.nb lp)) (fun hHeld2 => ?_)
                  clear hK K hHeld
                  have hHeld := hHeld2
                  clear hHeld2
                  refine wpAnyH_ready (rs := [13]) (by kernel_rfl) (by simp) ?_
                  refine AllReadyH.cons (o := _) rfl (fun K hK => ?_) AllReadyH.nil
                  go_simp
                  refine (CloneI_any _ (castL p) _ (by have := (own.kp kA).sl encInt_len; exact this) (by rw [castL_len, HMM.out]; omega)).mono ?_
                  rintro e wE ⟨vc, rfl, ownc, kc⟩
                  obtain ⟨Ac, cc, rfl, hcc, hmc⟩ := ownc.form
                  replace ownc := ownc.less kA.size
                  have kE := kA.trans kc
                  have sE := sA.keep (pl_stable _) kc
                  have ownE := ownc
                  refine hK.out _ _ (hSf _ (kE.kx hvi.nb lp)) (fun hHeld2 => ?_)
                  clear hK K hHeld
                  have hHeld := hHeld2
                  clear hHeld2
                  refine wpAnyH_ready (rs := [16]) (by kernel_rfl) (by simp) ?_
                  refine AllReadyH.cons (o := _) rfl (fun K hK => ?_) AllReadyH.nil
                  refine step_append5 (by kernel_rfl) (.tmp 50) (.tmp 52) rfl stIntM encInt_len encInt_one rfl ownE rfl sE (by rw [castL_len, HMM.out]; simp; omega) (by rw [castL_len, HMM.out]; simp; omega) kE.size ?_
                  intro vn wF ownF hgF hatF
                  have kF : Kp wr wF := kE.grown hgF ownE.ge
                  refine hK.out _ _ (hSf _ (kF.kx hvi.nb lp)) (fun hHeld2 => ?_)
                  clear hK K hHeld
                  have hHeld := hHeld2
                  clear hHeld2
                  refine wpAnyH_ready (rs := [17]) (by kernel_rfl) (by simp) ?_
                  refine AllReadyH.cons (o := _) rfl (fun K hK => ?_) AllReadyH.nil
                  go_simp
                  refine (HIH.out (p ++ [k]) (pre ++ C ++ accF n es f p k) (rr ++ rest) vn wF (by rw [castL_snoc]; exact ownF.less hbr) (by simp) (List.nodup_append.2 ⟨HND.out, by simp, fun x hx y hy e => HNI.out (by simp only [List.mem_singleton] at hy; rw [← hy, ← e]; exact hx)⟩) (fun x hx => by rcases List.mem_append.1 hx with h | h; exact HLT.out x h; simp only [List.mem_singleton] at h; omega) (by have := HLEN.out; simp only [List.length_append, List.length_singleton]; omega) (by rw [HALL.out, HV2.out, HREST.out, HAS.out, HBR.out]; simp) (hJ.out _ _ _ hJr kF) (hvi.kp kF) (Nat.le_trans hbr kF.size) (fun q hq hx => by have h1 := ownF.ge q hq; have h2 := (hvi.xs q (xof_kp kF hvi.nb hx)).2.1; omega)).mono ?_
                  rintro e wG (⟨rfl, hJ9, hk9⟩ | ⟨rfl, hx9, hk9⟩)
                  · have kG := (kF.kx hvi.nb lp).trans hk9
                    refine hK.out _ _ (hSf _ kG) (fun hHeld2 => ?_)
                    clear hK K hHeld
                    have hHeld := hHeld2
                    clear hHeld2
                    refine take_at 18 55 (v := ?_) rfl rfl (by kernel_rfl) (by kernel_rfl) (by kernel_rfl) (fun _ _ _ h => h) hHeld (Or.inl ⟨by kernel_rfl, ?_⟩) ?_
                    rotate_left
                    · intro w hSw; (try dsimp only at hSw); go_simp; try with_reducible rfl
                    simp only [Act.put, List.setIfInBounds_toArray, List.set_cons_zero, List.set_cons_succ]
                    refine take_at 19 56 (v := ?_) rfl rfl (by kernel_rfl) (by kernel_rfl) (by kernel_rfl) (fun _ _ _ h => h) hHeld (Or.inl ⟨by kernel_rfl, ?_⟩) ?_
                    rotate_left
                    · intro w hSw; (try dsimp only at hSw); go_simp; try with_reducible rfl
                    simp only [Act.put, List.setIfInBounds_toArray, List.set_cons_zero, List.set_cons_succ]
                    refine wpAnyH_done (by kernel_rfl) ?_ _
                    go_wp2_with fail
                    go_roundw
                    case rel => exact ⟨k + 1, by omega, by omega, by go_num, by rw [HAS.out, HBR.out]; simpa using hJ9, hkb.trans kG⟩
                    case measure => simp [intOf]; omega
                  · have kG := (kF.kx hvi.nb lp).trans hk9
                    refine hK.out _ _ (hSf _ kG) (fun hHeld2 => ?_)
                    clear hK K hHeld
                    have hHeld := hHeld2
                    clear hHeld2
                    refine take_at 18 55 (v := ?_) rfl rfl (by kernel_rfl) (by kernel_rfl) (by kernel_rfl) (fun _ _ _ h => h) hHeld (Or.inl ⟨by kernel_rfl, ?_⟩) ?_
                    rotate_left
                    · intro w hSw; (try dsimp only at hSw); go_simp; try with_reducible rfl
                    simp only [Act.put, List.setIfInBounds_toArray, List.set_cons_zero, List.set_cons_succ]
                    refine take_at 19 56 (v := ?_) rfl rfl (by kernel_rfl) (by kernel_rfl) (by kernel_rfl) (fun _ _ _ h => h) hHeld (Or.inl ⟨by kernel_rfl, ?_⟩) ?_
                    rotate_left
                    · intro w hSw; (try dsimp only at hSw); go_simp; try with_reducible rfl
                    simp only [Act.put, List.setIfInBounds_toArray, List.set_cons_zero, List.set_cons_succ]
                    refine wpAnyH_done (by kernel_rfl) ?_ _
                    go_wp2
                    go_ret
                    exact .inr ⟨rfl, hx9, hkb.trans kG⟩
          · obtain rfl : k = n := by omega
            have hkl : ¬ (k : Int) < (k : Int) := by omega
            go_wp2
            go_ret
            exact .inl ⟨rfl, by rw [HV2.out]; simpa using hJr, hkb⟩
      · go_wp2
        go_ret
        exact .inr ⟨rfl, hx, hkb⟩
end Go.Proofs.Ytlkabhjkncklnaa
