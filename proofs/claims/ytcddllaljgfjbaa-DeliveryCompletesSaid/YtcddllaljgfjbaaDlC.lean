
/-
What the causal buffer holds back, in order: the walk.
-/
import Derived.Test.YtcddllaljgfjbaaDlB
namespace Go.Proofs.Ytcddllaljgfjbaa
set_option linter.unusedSimpArgs false
set_option linter.unusedVariables false
open Go.RowKit

/-! a slice of one struct -/
section
variable {P : Program} {t e size bytes : Nat}
theorem run_buildOne (hT : SliceT P t e size bytes) {cs : List Value} (hl : cs.length = size) (hs : size ≤ 1000) (w : World) : (Instr.buildSlice t 1 #[(0, .agg cs.toArray)]).run P w = .ok (.slice (some ⟨w.heap.size, 0, none⟩) 1 1) (w.alloc (.cells cs.toArray e)) := by
  obtain ⟨i, z, hi, hz, hsz, hb, hzs⟩ := hT.info
  have hp := hT.pos
  subst hsz
  have h1 : ¬ 2 ^ 24 < i.size := by omega
  have h2 : i.size ≠ 0 := by omega
  have hzv : (zeroValue e).run P w = .ok z w := by
    simp [zeroValue, typeInfo, hi, hz]

  simp [Instr.buildSlice, run_underlying hT.ht, sizeOf, typeInfo, hi, h1, h2, hzv, Instr.fill, Value.cells, hl, newRow]
  rw [fold_fill _ cs (by simp [hl])]
theorem wpl_buildOne {ops : Array Oper} {rest : List Oper} {o : Oper} {a : Act} {Q : Exit → Act → World → Prop} {w : World} (hgd : o.guard = none) (x : Operand) (ho : o.op = Op.buildSlice t 1 #[(0, x)]) {cs : List Value} (hx : a.eval x = .agg cs.toArray) (hT : SliceT P t e size bytes) (hl : cs.length = size) (hs : size ≤ 1000)
    (h : wpList P ops Q rest (a.put o.dst (.slice (some ⟨w.heap.size, 0, none⟩) 1 1)) (w.alloc (.cells cs.toArray e))) : wpList P ops Q (o :: rest) a w := by
  refine wpList_plain hgd fun K hK => ?_
  have hr := run_buildOne hT hl hs w
  unfold Oper.wp
  simp [execOp, ho, hx, hr, Result.andThen]
  exact hK _ _ h
theorem wp_buildOne {o : Oper} {a : Act} {K : Act → World → Prop} {Q : Exit → Act → World → Prop} {w : World} (x : Operand) (ho : o.op = Op.buildSlice t 1 #[(0, x)]) {cs : List Value} (hx : a.eval x = .agg cs.toArray) (hT : SliceT P t e size bytes) (hl : cs.length = size) (hs : size ≤ 1000)
    (h : K (a.put o.dst (.slice (some ⟨w.heap.size, 0, none⟩) 1 1)) (w.alloc (.cells cs.toArray e))) : Oper.wp P o a w K Q := by
  have hr := run_buildOne hT hl hs w
  unfold Oper.wp
  simp [execOp, ho, hx, hr, Result.andThen]
  exact h
end
/-! events in a row of the call's own, each with a past of its own -/
structure EsR (base : Nat) (w : World) (v : Value) (ys : List EvS) : Prop where
  own : Own encEs 33 13 base w v ys
  pst : ∀ y ∈ ys, Own encInt 3 1 base w y.v y.e.past ∧ ∀ q, v.ownBlock = some q → y.v.ownBlock ≠ some q
theorem EsR.nil (base : Nat) (w : World) : EsR base w (.slice none 0 0) [] := ⟨Own.nil _ _ _ _ _, by simp⟩
theorem EsR.kp {base : Nat} {w w' : World} {v : Value} {ys : List EvS} (h : EsR base w v ys) (k : Kp w w') : EsR base w' v ys := ⟨h.own.kp k, fun y hy => ⟨(h.pst y hy).1.kp k, (h.pst y hy).2⟩⟩
theorem EsR.less {base base' : Nat} {w : World} {v : Value} {ys : List EvS} (h : EsR base w v ys) (k : base' ≤ base) : EsR base' w v ys := ⟨h.own.less k, fun y hy => ⟨(h.pst y hy).1.less k, (h.pst y hy).2⟩⟩
theorem EsR.fx {X : Nat → Prop} {base : Nat} {w w' : World} {v : Value} {ys : List EvS} (h : EsR base w v ys) (k : Fx X w w') (hX : ∀ q, X q → q < base) : EsR base w' v ys :=
  ⟨(h.own.owF hX) w' k, fun y hy => ⟨((h.pst y hy).1.owF hX) w' k, (h.pst y hy).2⟩⟩
theorem Own.blt {α : Type} {enc : α → List Value} {e size base : Nat} {w : World} {v : Value} {l : List α} (h : Own enc e size base w v l) : ∀ q, v.ownBlock = Option.some q → q < w.heap.size := fun q hq => (World.ownsRow.lt h q hq).2
/-- a further event -/
theorem EsR.snoc {base : Nat} {w w' : World} {v v' : Value} {ys : List EvS} {y : EvS} (h : EsR base w v ys) (hp : Own encInt 3 1 base w y.v y.e.past) (hn : ∀ q, v.ownBlock = some q → y.v.ownBlock ≠ some q)
    (hown : Own encEs 33 13 base w' v' (ys ++ [y])) (hgrow : w.grownBy w' v.ownBlock) (hat : v'.ownBlock = v.ownBlock ∨ v'.ownBlock = some w.heap.size) : EsR base w' v' (ys ++ [y]) := by
  have key : ∀ z : EvS, Own encInt 3 1 base w z.v z.e.past → (∀ q, v.ownBlock = some q → z.v.ownBlock ≠ some q) → Own encInt 3 1 base w' z.v z.e.past ∧ ∀ q, v'.ownBlock = some q → z.v.ownBlock ≠ some q := fun z h1 h2 => by
    refine ⟨h1.owS w' hgrow.size fun q hq hl => hgrow.block q hl (fun e => h2 q e.symm hq), fun q hq e => ?_⟩
    rcases hat with h3 | h3
    · exact h2 q (h3 ▸ hq) e
    · rw [h3] at hq
      injection hq with hq
      have := h1.blt q e
      omega
  refine ⟨hown, fun z hz => ?_⟩
  rcases List.mem_append.1 hz with hz | hz
  · exact key z (h.pst z hz).1 (h.pst z hz).2
  · obtain rfl : z = y := by simpa using hz
    exact key z hp hn
/-- the same events in a new row, in another order -/
theorem EsR.moved {base b2 : Nat} {w w' : World} {v v' : Value} {ys zs : List EvS} (h : EsR base w v ys) (k : Kp w w') (hown : Own encEs 33 13 b2 w' v' zs) (hb : w.heap.size ≤ b2) (hm : ∀ z ∈ zs, z ∈ ys) (hbb : base ≤ b2) : EsR base w' v' zs :=
  ⟨hown.less hbb, fun z hz => ⟨(h.pst z (hm z hz)).1.kp k, fun q hq e => by
    have h1 := hown.ge q hq
    have h2 := (h.pst z (hm z hz)).1.blt q e
    omega⟩⟩
theorem entL_mem {k : Dt} {v : Value} {M : List EvS} (h : (k, v) ∈ entL M) : ∃ x ∈ M, k = nameE x.e ∧ v = esV x := by
  obtain ⟨x, hx, e⟩ := List.mem_map.1 h
  injection e with e1 e2
  exact ⟨x, hx, e1.symm, e2.symm⟩
/-- one entry more has been met -/
theorem entL_take {k : Dt} {v : Value} {left : List (Dt × Value)} {Ml : List EvS} (h : ((k, v) :: left).Perm (entL Ml)) : ∃ x Mr, k = nameE x.e ∧ v = esV x ∧ Ml.Perm (x :: Mr) ∧ left.Perm (entL Mr) := by
  obtain ⟨x, hx, e1, e2⟩ := entL_mem (h.subset (List.mem_cons_self ..))
  obtain ⟨s, t, rfl⟩ := List.append_of_mem hx
  have hp : (s ++ x :: t).Perm (x :: (s ++ t)) := List.perm_middle
  refine ⟨x, s ++ t, e1, e2, hp, ?_⟩
  have h2 : ((k, v) :: left).Perm ((nameE x.e, esV x) :: entL (s ++ t)) := h.trans (hp.map fun x : EvS => (nameE x.e, esV x))
  rw [e1, e2] at h2
  exact h2.cons_inv
theorem evS_eta (x : EvS) (A : Option Addr) (n c : Nat) : evV x.e (.slice A n c) = esV ⟨x.e, A, n, c⟩ := rfl
set_option maxRecDepth 8000 in
set_option maxHeartbeats 4000000 in
theorem bList_any {S : Nat → Prop} {base : Nat} {w : World} {b cb cc mb n : Nat} {c : List Int} {M : List EvS} (h : BfW S base w b cb cc mb n c M) {H : List Ev} (hH : (M.map (·.e)).Perm H) (hs : SortE H) (hl : H.length ≤ 4096) (hp : ∀ e ∈ H, e.past.length ≤ 1000) :
    Calls Try.prog 45 #[.pointer (some ⟨b, 0, none⟩)] w fun x w' => ∃ v ys, x = .returned v ∧ EsR w.heap.size w' v ys ∧ ys.map (·.e) = H ∧ Kp w w' := by
  have b1 := h.box.cell (j := 1) rfl
  have hbl := h.blt
  have hml := h.mlt
  have hm := h.map
  have HP : Hid (∀ x ∈ M, ∀ W, Kp w W → Ints W x.v x.e.past) := hid fun x hx W k => ((h.past x hx).1.kp k).sl encInt_len
  have hMl : M.length ≤ 4096 := by have := hH.length_eq; rw [List.length_map] at this; omega
  have HPL : Hid (∀ x ∈ M, x.e.past.length ≤ 1000) := hid fun x hx => hp _ (hH.mem_iff.1 (List.mem_map.2 ⟨x, hx, rfl⟩))
  replace hH := hid hH
  replace hs := hid hs
  clear h hp
  go_enter Try.func45, Try.ntmps45
  go_wp2_with (at_range; refine wpl_range rfl 93 (.tmp 9) rfl rfl hm Try.underlying93 ?_; intro ob hrg)
  go_frame
  have k1 := (Kp.refl w).alloc ob
  have hz1 : (w.alloc ob).heap.size = w.heap.size + 1 := by simp
  generalize w.alloc ob = w1 at *
  clear hm b1
  go_loopw [3] (fun s3 wr => ∃ (left : List (Dt × Value)) (ys Ml : List EvS), Rng dtV wr mb w.heap.size (entL M) left ∧ Hid (left.Perm (entL Ml)) ∧ Hid ((ys.map (·.e) ++ Ml.map (·.e)).Perm (M.map (·.e))) ∧ Hid (∀ x ∈ Ml, x ∈ M) ∧ EsR (w.heap.size + 1) wr s3 ys ∧ Kp w wr ∧ w.heap.size + 1 ≤ wr.heap.size) (fun _ wr => leftN wr mb w.heap.size)
  case atStart => exact ⟨entL M, [], M, hrg, hid (.refl _), hid (.refl _), hid (fun _ h => h), EsR.nil _ _, k1, by omega⟩
  case round =>
    clear hrg
    obtain ⟨left, ys, Ml, hrg, HL, HY, HM, hE, hk, hzr⟩ := hrel
    obtain ⟨wo, rfl⟩ : ∃ wo : World, wo = wr := ⟨_, rfl⟩
    have hyl : ys.length ≤ 4096 := by
      have := HY.out.length_eq
      rw [List.length_append, List.length_map, List.length_map, List.length_map] at this
      omega
    obtain ⟨A, cA, rfl, hcA, hmA⟩ := hE.own.form
    go_wp2_with (at_next; refine wpl_next rfl (.tmp 10) rfl rfl hrg ?_ ?_)
    · intro hl0
      have hMl0 : Ml = [] := by
        have := HL.out.length_eq
        rw [hl0] at this
        unfold entL at this
        rw [List.length_map, List.length_nil] at this
        exact List.eq_nil_of_length_eq_zero this.symm
      have C1 := hid (eOrder_any _ ys wo (hE.own.sl encEs_len) hyl)
      clear hrg
      replace hl0 := hid hl0
      go_wp2_with fail
      refine C1.out.mono ?_
      rintro e w3 ⟨v3, zs, rfl, own3, hp3, hs3, k3⟩
      go_wp2
      go_ret
      have HYo := HY.out
      rw [hMl0, List.map_nil, List.append_nil] at HYo
      refine ⟨_, zs, rfl, (hE.moved k3 own3 (Nat.le_refl _) (fun z hz => hp3.mem_iff.1 hz) (by omega)).less (by omega), ?_, hk.trans k3⟩
      exact sortE_of (List.pairwise_map.2 hs3) (((hp3.map _).trans HYo).trans hH.out) hs.out
    · intro kr kn v left' w2 hp2 hmem hrg2 kg2 hz2 hen
      obtain ⟨x, Mr, hkn, rfl, hpx, hlp⟩ := entL_take (hp2.symm.trans HL.out)
      rw [hkn] at hp2 hmem hen ⊢
      clear hkn
      have hxM := HM.out x (hpx.mem_iff.2 (by simp))
      have kW2 := Kg.to_kp hk kg2 (Nat.le_refl _)
      have hE2 : EsR (w.heap.size + 1) w2 (.slice A ys.length cA) ys := hE.fx (kg2.fx (X := fun q => q = w.heap.size) (.inl rfl)) (fun q hq => by subst hq; omega)
      have HLN : Hid (left.length = left'.length + 1) := hid (by have := hp2.length_eq; simpa using this)
      have hleft := hrg.leftN
      obtain ⟨L, hL⟩ : ∃ L, L = encEs x := ⟨_, rfl⟩
      have lL : L.length = 13 := by rw [hL]; rfl
      have oL : ∀ u ∈ L, u.oneCell' = true := by rw [hL]; exact encEs_one x
      have hI : Ints w2 x.v x.e.past := HP.out x hxM w2 kW2
      have hxl := HPL.out x hxM
      have HCl : Hid (∀ W, Kp w2 W → Calls Try.prog 43 #[.agg L.toArray] W fun e w' => ∃ (y : EvS), e = .returned (esV y) ∧ y.e = x.e ∧ Own encInt 3 1 W.heap.size w' y.v y.e.past ∧ Kp W w') := hid fun W k => by
        have := dClone_any x.e x.v W (hI.keep (pl_stable _) k) (by omega)
        rw [hL]
        refine this.mono ?_
        rintro e w' ⟨v', rfl, own', k'⟩
        obtain ⟨A', n', c', rfl⟩ := own'.isSl
        exact ⟨⟨x.e, A', n', c'⟩, rfl, rfl, own', k'⟩
      have HNX : Hid (((ys.map (·.e) ++ [x.e]) ++ Mr.map (·.e)).Perm (M.map (·.e))) := hid (by
        refine List.Perm.trans ?_ HY.out
        rw [List.append_assoc]
        exact List.Perm.append_left _ (hpx.map fun z : EvS => z.e).symm)
      have HMr : Hid (∀ z ∈ Mr, z ∈ M) := hid fun z hz => HM.out z (hpx.mem_iff.2 (by simp [hz]))
      have HLP := hid hlp
      rw [show esV x = .agg L.toArray by rw [hL]] at hen ⊢
      replace hL := hid hL
      clear hp2 hmem hpx hlp hrg hE hk kg2 HY HM HL hI
      replace hz2 := hid hz2
      have k3 := (Kp.refl w2).alloc (.cells #[.int .i64 0, .int .i64 0, .int .i64 0, .slice none 0 0, .int .i64 0, .int .i64 0, .int .i64 0, .int .i64 0, .int .i64 0, .int .i64 0, .int .i64 0, .int .i64 0, .int .i64 0] 33)
      have hR := Bx.new w2 #[.int .i64 0, .int .i64 0, .int .i64 0, .slice none 0 0, .int .i64 0, .int .i64 0, .int .i64 0, .int .i64 0, .int .i64 0, .int .i64 0, .int .i64 0, .int .i64 0, .int .i64 0] 33
      have hB4 := hR.all (cs := L) (by rw [lL]; rfl)
      have k4 : Kp w2 ((w2.alloc (.cells #[.int .i64 0, .int .i64 0, .int .i64 0, .slice none 0 0, .int .i64 0, .int .i64 0, .int .i64 0, .int .i64 0, .int .i64 0, .int .i64 0, .int .i64 0, .int .i64 0, .int .i64 0] 33)).setCells w2.heap.size 0 L) := Kp.setCells (a := w2) (b := w2.heap.size) (Nat.le_refl _) L 0 _ k3
      have hth := (by simpa [lL] using hR.thereAt 0 13 (by simp) : (w2.alloc (.cells #[.int .i64 0, .int .i64 0, .int .i64 0, .slice none 0 0, .int .i64 0, .int .i64 0, .int .i64 0, .int .i64 0, .int .i64 0, .int .i64 0, .int .i64 0, .int .i64 0, .int .i64 0] 33)).there w2.heap.size 0 L.toArray.size)
      have hml2 := hrg2.map.lt
      have hil2 := hrg2.lt
      have hw2 : w.heap.size + 1 ≤ w2.heap.size := by have := hz2.out; omega
      clear k3 hR
      go_wp2_with (first | (refine wpList_store_mid rfl 33 (.tmp 5) (.tmp 14) rfl w2.heap.size 0 L.toArray rfl rfl hth (iEv2 lL) (all_oneCell_toArray oL) ?_; rw [List.toList_toArray]; generalize (w2.alloc (.cells #[.int .i64 0, .int .i64 0, .int .i64 0, .slice none 0 0, .int .i64 0, .int .i64 0, .int .i64 0, .int .i64 0, .int .i64 0, .int .i64 0, .int .i64 0, .int .i64 0, .int .i64 0] 33)).setCells w2.heap.size 0 L = w4 at *; clear hth) | (refine wpList_load_mid rfl 33 (.tmp 5) rfl w2.heap.size 0 rfl _ _ hB4.range Try.underlying33 rfl (iEv lL) ?_))
      refine (HCl.out w4 k4).mono ?_
      rintro e w5 ⟨y, rfl, hye, own5, k5⟩
      obtain ⟨L2, hL2⟩ : ∃ L2, L2 = encEs y := ⟨_, rfl⟩
      have lL2 : L2.length = 13 := by rw [hL2]; rfl
      rw [show esV y = .agg L2.toArray by rw [hL2]]
      have k6 := (Kp.refl w5).alloc (.cells L2.toArray 33)
      have hsrc : EsL (w5.alloc (.cells L2.toArray 33)) (.slice (some ⟨w5.heap.size, 0, none⟩) 1 1) [y] := Sl.one (R := Pl encEs) w5 L2 33 13 y lL2 hL2
      replace hL2 := hid hL2
      have k26 : Kp w2 (w5.alloc (.cells L2.toArray 33)) := (k4.trans k5).trans k6
      have own6 := own5.kp k6
      have hE6 := hE2.kp k26
      have hbl2 := hE2.own.blt
      have hz6 := k26.size
      have hz4 := k4.size
      have hrg6 := hrg2.keep (k26.block hml2) (k26.block hil2)
      have kW6 := kW2.trans k26
      have hge := hE6.own.ge
      clear k4 k5 k6 hB4 hE2 HCl own5 hrg2 kW2
      go_wp2_with (first | (refine wpl_buildOne rfl (.tmp 17) rfl rfl stEvs lL2 (by omega) ?_; generalize w5.alloc (.cells L2.toArray 33) = w6 at *) | (at_builtin; refine wpl_append_flat rfl (.tmp 15) (.tmp 18) rfl stEvs encEs_len encEs_one rfl hE6.own rfl hsrc (by simp; omega) (by simp; omega) (by omega) ?_; intro v7 w7 hown7 hgrow7 hat7 hnil7))
      have hE7 := hE6.snoc (y := y) (own6.less (by omega)) (fun q hq e => by
        have h1 := hbl2 q hq
        have h2 := own6.ge q e
        omega) hown7 hgrow7 hat7
      have hz7 := hgrow7.size
      have hrg7 := hrg6.keep (w' := w7) (hgrow7.block mb hrg6.map.lt (fun e => by have := hge mb e.symm; omega)) (hgrow7.block w.heap.size hrg6.lt (fun e => by have := hge w.heap.size e.symm; omega))
      have kW7 := kW6.grown hgrow7 fun j hj => by have := hge j hj; omega
      have HY7 : Hid (((ys ++ [y]).map (·.e) ++ Mr.map (·.e)).Perm (M.map (·.e))) := hid (by
        rw [List.map_append, List.map_cons, List.map_nil, hye]
        exact HNX.out)
      obtain ⟨A7, c7, rfl, -, -⟩ := hown7.form
      clear hown7 hgrow7 hat7 hnil7 hE6 hsrc own6 hge
      go_roundw
      case rel => exact ⟨left', _, Mr, hrg7, HLP, HY7, HMr, hE7, kW7, by omega⟩
      case measure => rw [hrg7.leftN, hleft, HLN.out]; omega
end Go.Proofs.Ytcddllaljgfjbaa
