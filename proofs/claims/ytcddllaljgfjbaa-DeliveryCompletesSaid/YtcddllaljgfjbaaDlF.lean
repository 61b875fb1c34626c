
/-
An event arrives at the causal buffer: the walk.
-/
import Derived.Test.YtcddllaljgfjbaaDlE
namespace Go.Proofs.Ytcddllaljgfjbaa
set_option linter.unusedSimpArgs false
set_option linter.unusedVariables false
open Go.RowKit

theorem MapL.len_run {w : World} {mb : Nat} {M : List EvS} (h : MapL dtV w mb (entL M)) (ty : TypeId) : (Builtin.len_ #[93] ty #[.map (some mb)]).run Try.prog w = .ok (.int .i64 (M.length : Int)) w := by
  obtain ⟨es, clock, zs, hb, h1, h2⟩ := h
  have e : es.size = M.length := by
    have e1 := congrArg List.length h1.ent
    have e2 := congrArg List.length h2
    unfold entL at e2
    simp at e1 e2
    omega
  rw [run_len_map w 93 ty mb es clock (by kernel_rfl) hb, e]
  rfl
theorem getL_ent (d : Dt) : ∀ M : List EvS, (getL d (entL M)).isSome = M.any fun x => decide (nameE x.e = d)
  | [] => rfl
  | x :: M => by
    show (getL d ((nameE x.e, esV x) :: entL M)).isSome = _
    rw [getL, List.any_cons]
    by_cases h : d = nameE x.e
    · rw [if_pos h, decide_eq_true h.symm]; rfl
    · rw [if_neg h, getL_ent d M, decide_eq_false (fun e => h e.symm)]; rfl
theorem getL_entV (d : Dt) (M : List EvS) : ∃ LV : List Value, LV.length = 13 ∧ (∀ u ∈ LV, u.oneCell' = true) ∧ (getL d (entL M)).getD (.agg #[.int .i64 0, .int .i64 0, .int .i64 0, .slice none 0 0, .int .i64 0, .int .i64 0, .int .i64 0, .int .i64 0, .int .i64 0, .int .i64 0, .int .i64 0, .int .i64 0, .int .i64 0]) = .agg LV.toArray := by
  cases h : getL d (entL M) with
  | none => exact ⟨_, rfl, by simp [Value.oneCell'], rfl⟩
  | some v =>
    obtain ⟨x, hx, -, rfl⟩ := entL_mem (getL_mem h)
    exact ⟨encEs x, rfl, encEs_one x, rfl⟩
theorem any_perm {M : List EvS} {H : List Ev} (h : (M.map (·.e)).Perm H) (d : Dt) : (M.any fun x => decide (nameE x.e = d)) = H.any fun x => decide (nameE x = d) := by
  rw [Bool.eq_iff_iff, List.any_eq_true, List.any_eq_true]
  constructor
  · rintro ⟨x, hx, h1⟩
    exact ⟨x.e, h.mem_iff.1 (List.mem_map.2 ⟨x, hx, rfl⟩), h1⟩
  · rintro ⟨e, he, h1⟩
    obtain ⟨x, hx, rfl⟩ := List.mem_map.1 (h.mem_iff.2 he)
    exact ⟨x, hx, h1⟩
theorem zeroEv (w : World) : Sem.run Try.prog (zeroValue 33) w = .ok (.agg #[.int .i64 0, .int .i64 0, .int .i64 0, .slice none 0 0, .int .i64 0, .int .i64 0, .int .i64 0, .int .i64 0, .int .i64 0, .int .i64 0, .int .i64 0, .int .i64 0, .int .i64 0]) w := by
  have h : (Try.prog.info? 33).bind (·.zero) = some (.agg #[.int .i64 0, .int .i64 0, .int .i64 0, .slice none 0 0, .int .i64 0, .int .i64 0, .int .i64 0, .int .i64 0, .int .i64 0, .int .i64 0, .int .i64 0, .int .i64 0, .int .i64 0]) := by kernel_rfl
  obtain ⟨i, h1, h2⟩ := Option.bind_eq_some_iff.1 h
  simp [zeroValue, typeInfo, h1, h2]
theorem putL_new {x : Dt} {v : Value} : ∀ {l : List (Dt × Value)}, (∀ p ∈ l, p.1 ≠ x) → putL x v l = l ++ [(x, v)]
  | [], _ => rfl
  | p :: l, h => by
    unfold putL
    rw [if_neg (fun e => h p (by simp) e.symm), putL_new fun q hq => h q (by simp [hq])]
    rfl
theorem entL_put {e : Ev} {M : List EvS} {y : EvS} (h : (M.any fun x => decide (nameE x.e = nameE e)) = false) (hy : y.e = e) : putL (nameE e) (esV y) (entL M) = entL (M ++ [y]) := by
  rw [putL_new, entL, entL, List.map_append, List.map_cons, List.map_nil, hy]
  intro p hp
  obtain ⟨x, hx, rfl⟩ := List.mem_map.1 hp
  have := List.any_eq_false.1 h x hx
  simpa using this
/-- a first event ahead of others -/
theorem EsR.cons {base b2 g : Nat} {w w' : World} {v v' : Value} {outs : List EvS} {y : EvS} (h : EsR b2 w v outs) (hb : base ≤ b2) (hp : Own encInt 3 1 base w y.v y.e.past) (hy : ∀ q, y.v.ownBlock = some q → q < g) (hg : g < b2) (hgw : g < w.heap.size)
    (hown : Own encEs 33 13 base w' v' (y :: outs)) (hgrow : w.grownBy w' (some g)) (hat : v'.ownBlock = some g ∨ v'.ownBlock = some w.heap.size) : EsR base w' v' (y :: outs) := by
  have key : ∀ z : EvS, Own encInt 3 1 base w z.v z.e.past → (∀ q, z.v.ownBlock = some q → q ≠ g) → Own encInt 3 1 base w' z.v z.e.past ∧ ∀ q, v'.ownBlock = some q → z.v.ownBlock ≠ some q := fun z h1 h2 => by
    refine ⟨h1.owS w' hgrow.size fun q hq hl => hgrow.block q hl (fun e => by injection e with e; exact h2 q hq e), fun q hq e => ?_⟩
    rcases hat with h3 | h3
    · rw [h3] at hq
      injection hq with hq
      exact h2 q e hq.symm
    · rw [h3] at hq
      injection hq with hq
      have := h1.blt q e
      omega
  refine ⟨hown, fun z hz => ?_⟩
  rcases List.mem_cons.1 hz with rfl | hz
  · exact key z hp fun q hq => by have := hy q hq; omega
  · exact key z ((h.pst z hz).1.less hb) fun q hq => by have := (h.pst z hz).1.ge q hq; omega
theorem settle_len : ∀ (k : Nat) (c : List Int) (H : List Ev), (settleE k c H).2.2.length ≤ H.length
  | 0, c, H => by simp [settleE]
  | k + 1, c, H => by
    cases hf : H.find? (readyE c) with
    | none => rw [settleE_none hf]; simp
    | some e =>
      rw [settleE_some hf]
      have h1 := settle_len k (setD c e) (dropE e H)
      have h2 := dropE_len (List.mem_of_find?_eq_some hf)
      simp only [List.length_cons]
      omega
/-- a call of the buffer -/
def StepR (S : Nat → Prop) (base : Nat) (w : World) (b mb n : Nat) (R : BfS × List Ev × Int) (x : Ending) (w' : World) : Prop :=
  ∃ (v : Value) (outs M' : List EvS) (S' : Nat → Prop) (cb cc B : Nat), x = .returned (.tuple #[v, .int .i64 R.2.2]) ∧ BfW S' base w' b cb cc mb n R.1.1 M' ∧ (M'.map (·.e)).Perm R.1.2 ∧ EsR B w' v outs ∧ outs.map (·.e) = R.2.1 ∧ Fx S w w' ∧ (∀ q, S' q → S q ∨ (w.heap.size ≤ q ∧ q < B)) ∧ w.heap.size ≤ B ∧ B ≤ w'.heap.size
theorem dropE_none {e : Ev} {H : List Ev} (h : ∀ x ∈ H, nameE x ≠ nameE e) : dropE e H = H := List.filter_eq_self.2 fun x hx => by simpa using h x hx
set_option maxRecDepth 8000 in
set_option maxHeartbeats 4000000 in
theorem bAdd_any {S : Nat → Prop} {base : Nat} {w : World} {b cb cc mb n : Nat} {c : List Int} {M : List EvS} (h : BfW S base w b cb cc mb n c M) (hS : ∀ q, S q → q < w.heap.size) {H : List Ev} (hH : (M.map (·.e)).Perm H) (ok : BfOk c H) (e : Ev) (v : Value) (hp0 : OwF S w fun W => Ints W v e.past) (hpl : e.past.length ≤ 1000000000) :
    Calls Try.prog 12 #[.pointer (some ⟨b, 0, none⟩), evV e v] w (StepR S base w b mb n (addE (c, H) e)) := by
  have hp := hp0.here
  obtain ⟨Av, cv, rfl, hcv1, hcv2⟩ := hp.form
  obtain ⟨m, hm⟩ : ∃ m, m = e.past.length := ⟨_, rfl⟩
  rw [← hm] at hp hp0 hcv1 hpl ⊢
  obtain ⟨L, hL⟩ : ∃ L, L = evL e (.slice Av m cv) := ⟨_, rfl⟩
  have lL : L.length = 13 := by rw [hL]; rfl
  have k0 := (Kp.refl w).alloc (.cells L.toArray 33)
  have hE := Bx.new w L.toArray 33
  have hb1 := h.kp k0
  have zb := h.blt
  have zc := h.clt
  have zm := h.mlt
  have hp1 := hp.keep (pl_stable _) k0
  rw [show evV e (.slice Av m cv) = .agg L.toArray by rw [hL]]
  have hbase : base ≤ w.heap.size := by have := h.lb; omega
  have n1 := h.n1
  have n2 := h.n2
  have n3 := h.n3
  have hlen := hid h.len
  clear h hp
  replace hp0 := hid hp0
  replace hL := hid hL
  have HN : Hid (∀ W, Calls Try.prog 39 #[.agg L.toArray] W fun x w' => x = .returned (.agg #[.int .i64 e.r, .int .i64 e.n]) ∧ Kp W w') := hid fun W => by
    rw [hL.out]
    exact dName_any e _ W
  go_enter Try.func12, Try.ntmps12
  go_upto_region 1 with (fail)
  generalize w.alloc (.cells L.toArray 33) = w1 at *
  rw [List.toList_toArray] at hE
  have hel := hE.lt (by omega)
  obtain ⟨eb, heb⟩ : ∃ eb, eb = w.heap.size := ⟨_, rfl⟩
  rw [← heb] at hE hel zb zc zm ⊢
  replace heb := hid heb
  have y0 := hb1.box.cell (j := 0) rfl
  have y1 := hb1.box.cell (j := 1) rfl
  have hbl1 := hb1.blt
  have HrE : Hid (∀ W, Kp w1 W → W.rangeAt eb 0 L) := hid fun W k => (hE.kp k hel).range
  obtain ⟨LV, lLV, oLV, hLV⟩ := getL_entV (nameE e) M
  obtain ⟨hd, hhd⟩ : ∃ hd, hd = H.any (fun x => decide (nameE x = nameE e)) := ⟨_, rfl⟩
  have HLk : Hid (∀ W, Kp w1 W → Sem.run Try.prog (Instr.lookup 93 (.map (some mb)) (.agg #[.int .i64 e.r, .int .i64 e.n]) true) W = .ok (.tuple #[.agg LV.toArray, .bool hd]) W) := hid fun W k => by
    have := (hb1.map.kp k).look keyDt Try.underlying93 (zeroEv W) (nameE e) true
    rw [if_pos rfl, hLV, getL_ent, any_perm hH, ← hhd] at this
    exact this
  replace hhd := hid hhd
  clear hLV
  replace hb1 := hid hb1
  refine G2.wp_region_growT Kp [9] 11 72 (G2.pvL [G2.eqv (.pointer (some ⟨b, 0, none⟩)), G2.eqv (.pointer (some ⟨b, 0, none⟩)), G2.eqv (.pointer (some ⟨b, 1, none⟩)), G2.eqv (.map (some mb)), G2.eqv (.agg L.toArray), G2.eqv (.agg #[.int .i64 e.r, .int .i64 e.n]), G2.eqv (.tuple #[.agg LV.toArray, .bool hd]), G2.eqv (.tuple #[.agg LV.toArray, .bool hd]), G2.eqv (.agg LV.toArray), G2.eqv (.bool hd), (fun x W => ∃ q, x = .pointer (some ⟨q, 0, none⟩) ∧ w1.heap.size ≤ q ∧ q < W.heap.size ∧ Bx W q (#[.int .i64 0, .int .i64 0, .int .i64 0, .slice none 0 0, .int .i64 0, .int .i64 0, .int .i64 0, .int .i64 0, .int .i64 0, .int .i64 0, .int .i64 0, .int .i64 0, .int .i64 0] : Array Value).toList)]) (by kernel_rfl) (by kernel_rfl) rfl (fun x => Kp.refl x) (fun _ _ _ h k => h.trans k) (Kp.refl _).drew (by intro _ _ _ _ _ h; exact h) (G2.pvL_keep (G2.stabL_cons (G2.stab_eq _) (G2.stabL_cons (G2.stab_eq _) (G2.stabL_cons (G2.stab_eq _) (G2.stabL_cons (G2.stab_eq _) (G2.stabL_cons (G2.stab_eq _) (G2.stabL_cons (G2.stab_eq _) (G2.stabL_cons (G2.stab_eq _) (G2.stabL_cons (G2.stab_eq _) (G2.stabL_cons (G2.stab_eq _) (G2.stabL_cons (G2.stab_eq _) (G2.stabL_cons (fun _ _ _ ⟨q, h1, h2, h3, h4⟩ k => ⟨q, h1, h2, Nat.lt_of_lt_of_le h3 k.size, h4.kp k h3⟩) (G2.stabL_nil))))))))))))) (G2.stepsT_cons 0 ?_ (G2.stepsT_cons 1 ?_ (G2.stepsT_cons 2 ?_ (G2.stepsT_cons 3 ?_ (G2.stepsT_cons 4 ?_ (G2.stepsT_cons 5 ?_ (G2.stepsT_cons 6 ?_ (G2.stepsT_cons 7 ?_ (G2.stepsT_cons 8 ?_ (G2.stepsT_cons 9 ?_ (G2.stepsT_cons 10 ?_ (G2.stepsT_nil _ _ _)))))))))))) ?_ ?_
  · intro a w' hk hF hD K hK
    have h0 : a.tmps[0]?.getD undef = .pointer (some ⟨b, 0, none⟩) := hF 0 (by kernel_rfl)
    clear hF hD
    go_simp
    exact hK.out _ _ (Kp.refl _) rfl
  · intro a w' hk hF hD K hK
    have h9 : a.tmps[9]?.getD undef = .pointer (some ⟨b, 0, none⟩) := hD 0 (by kernel_rfl)
    clear hF hD
    go_simp
    exact hK.out _ _ (Kp.refl _) rfl
  · intro a w' hk hF hD K hK
    have h10 : a.tmps[10]?.getD undef = .pointer (some ⟨b, 0, none⟩) := hD 1 (by kernel_rfl)
    clear hF hD
    go_simp
    exact hK.out _ _ (Kp.refl _) rfl
  · intro a w' hk hF hD K hK
    have h11 : a.tmps[11]?.getD undef = .pointer (some ⟨b, 1, none⟩) := hD 2 (by kernel_rfl)
    clear hF hD
    have z0 := hk.cellS y1
    go_simp
    exact hK.out _ _ (Kp.refl _) rfl
  · intro a w' hk hF hD K hK
    have h3 : a.tmps[3]?.getD undef = .pointer (some ⟨eb, 0, none⟩) := hF 3 (by kernel_rfl)
    clear hF hD
    rw [if_pos (by simp [Region.wanted])]
    refine wp_load_mid 33 (.tmp 3) rfl eb 0 ((eval_tmp _ _).trans h3) L _ (HrE.out _ hk) Try.underlying33 rfl (iEv lL) ?_
    exact hK.out _ _ (Kp.refl _) rfl
  · intro a w' hk hF hD K hK
    have h13 : a.tmps[13]?.getD undef = .agg L.toArray := hD 4 (by kernel_rfl)
    clear hF hD
    go_simp
    refine (HN.out _).mono ?_
    rintro e w9 ⟨rfl, k9⟩
    exact hK.out _ _ k9 rfl
  · intro a w' hk hF hD K hK
    have h12 : a.tmps[12]?.getD undef = .map (some mb) := hD 3 (by kernel_rfl)
    have h14 : a.tmps[14]?.getD undef = .agg #[.int .i64 e.r, .int .i64 e.n] := hD 5 (by kernel_rfl)
    clear hF hD
    have z0 := HLk.out _ hk
    go_simp
    exact hK.out _ _ (Kp.refl _) rfl
  · intro a w' hk hF hD K hK
    have h15 : a.tmps[15]?.getD undef = .tuple #[.agg LV.toArray, .bool hd] := hD 6 (by kernel_rfl)
    clear hF hD
    go_simp
    exact hK.out _ _ (Kp.refl _) rfl
  · intro a w' hk hF hD K hK
    have h8 : a.tmps[8]?.getD undef = .tuple #[.agg LV.toArray, .bool hd] := hD 7 (by kernel_rfl)
    clear hF hD
    go_simp
    exact hK.out _ _ (Kp.refl _) rfl
  · intro a w' hk hF hD K hK
    have h8 : a.tmps[8]?.getD undef = .tuple #[.agg LV.toArray, .bool hd] := hD 7 (by kernel_rfl)
    clear hF hD
    go_simp
    exact hK.out _ _ (Kp.refl _) rfl
  · intro a w' hk hF hD K hK
    clear hF hD
    go_simp
    exact hK.out _ _ ((Kp.refl w').alloc _) ⟨w'.heap.size, rfl, hk.size, by simp, Bx.new _ _ _⟩
  · intro i0 hi0
    have hi' : i0 = 9 := by simpa using hi0
    rcases hi' with rfl
    · refine ⟨by omega, fun a w' hk hF hD => ?_⟩
      simp only [List.getElem?_toArray, List.getElem?_cons_zero, List.getElem?_cons_succ, Option.map_some, Option.getD_some]
      have h8 : a.tmps[8]?.getD undef = .tuple #[.agg LV.toArray, .bool hd] := hD 7 (by kernel_rfl)
      clear hF hD
      exact ⟨.bool hd, rfl, Or.inl ⟨by simp [Region.wanted], fun w => by go_simp⟩⟩
  intro v w9 k9 hv
  have v10 : (fun x W => ∃ q, x = .pointer (some ⟨q, 0, none⟩) ∧ w1.heap.size ≤ q ∧ q < W.heap.size ∧ Bx W q (#[.int .i64 0, .int .i64 0, .int .i64 0, .slice none 0 0, .int .i64 0, .int .i64 0, .int .i64 0, .int .i64 0, .int .i64 0, .int .i64 0, .int .i64 0, .int .i64 0, .int .i64 0] : Array Value).toList) (v 10) w9 := hv 10 (by omega)
  have v8 : v 8 = .agg LV.toArray := hv 8 (by omega)
  have v9 : v 9 = .bool hd := hv 9 (by omega)
  clear hv
  obtain ⟨q, e10, hq1, hq2, hBq⟩ := v10
  simp only [G2.growPut, G2.gSlot, List.getElem?_toArray, List.getElem?_cons_zero, List.getElem?_cons_succ, Option.bind_some, List.setIfInBounds_toArray, List.set_cons_zero, List.set_cons_succ, List.drop_succ_cons, List.drop_zero, v8, v9, e10]
  have k2 : Kp w1 (w9.setCells q 0 LV) := Kp.setCells (a := w1) (b := q) hq1 LV 0 w9 k9
  have hth : w9.there q 0 LV.toArray.size := by simpa [lLV] using hBq.thereAt 0 13 (by simp)
  refine wpList_store_mid rfl 33 (.tmp 6) (.tmp 16) rfl q 0 LV.toArray rfl rfl hth (iEv2 lLV) (all_oneCell_toArray oLV) ?_
  rw [List.toList_toArray]
  generalize w9.setCells q 0 LV = w2 at *
  clear hth hBq hq1 hq2 k9 HLk oLV lLV
  go_upto_region 2 with (fail)
  have y0 := k2.cellS y0
  have y1 := k2.cellS y1
  have e3 := (hE.kp k2 hel).cell (j := 3) (u := .slice Av m cv) (by rw [hL.out]; rfl)
  have hel2 := Nat.lt_of_lt_of_le hel k2.size
  have hbl2 := Nat.lt_of_lt_of_le hbl1 k2.size
  obtain ⟨fm, hfm⟩ : ∃ fm, fm = formedE e := ⟨_, rfl⟩
  have HFm : Hid (∀ W, Kp w1 W → Calls Try.prog 40 #[.agg L.toArray] W fun x w' => x = .returned (.bool fm) ∧ Kp W w') := hid fun W k => by
    rw [hL.out, hfm]
    exact eFormed_any e _ W (hp1.keep (pl_stable _) k)
  replace hH := hid hH
  replace hfm := hid hfm
  have hm' := hid hm
  clear hm y1
  cases fm with
  | false =>
    have HX : Hid (addE (c, H) e = ((c, H), [], 1)) := hid (by unfold addE; rw [if_pos (by rw [← hfm.out]; rfl)])
    refine G2.wp_region_growT Kp [] 14 72 (G2.pvL [G2.eqv (.agg L.toArray), G2.eqv (.bool false), G2.eqv (.bool true), G2.eqv (.bool true), G2.eqv (undef), G2.eqv (undef), G2.eqv (undef), G2.eqv (undef), G2.eqv (undef), G2.eqv (undef), G2.eqv (undef), G2.eqv (undef), G2.eqv (undef), G2.eqv (.bool true)]) (by kernel_rfl) (by kernel_rfl) rfl (fun x => Kp.refl x) (fun _ _ _ h k => h.trans k) (Kp.refl _).drew (by intro _ _ _ _ _ h; exact h) (G2.pvL_keep (G2.stabL_cons (G2.stab_eq _) (G2.stabL_cons (G2.stab_eq _) (G2.stabL_cons (G2.stab_eq _) (G2.stabL_cons (G2.stab_eq _) (G2.stabL_cons (G2.stab_eq _) (G2.stabL_cons (G2.stab_eq _) (G2.stabL_cons (G2.stab_eq _) (G2.stabL_cons (G2.stab_eq _) (G2.stabL_cons (G2.stab_eq _) (G2.stabL_cons (G2.stab_eq _) (G2.stabL_cons (G2.stab_eq _) (G2.stabL_cons (G2.stab_eq _) (G2.stabL_cons (G2.stab_eq _) (G2.stabL_cons (G2.stab_eq _) (G2.stabL_nil)))))))))))))))) (G2.stepsT_cons 0 ?_ (G2.stepsT_cons 1 ?_ (G2.stepsT_cons 2 ?_ (G2.stepsT_cons 3 ?_ (G2.stepsT_cons 4 ?_ (G2.stepsT_cons 5 ?_ (G2.stepsT_cons 6 ?_ (G2.stepsT_cons 7 ?_ (G2.stepsT_cons 8 ?_ (G2.stepsT_cons 9 ?_ (G2.stepsT_cons 10 ?_ (G2.stepsT_cons 11 ?_ (G2.stepsT_cons 12 ?_ (G2.stepsT_cons 13 ?_ (G2.stepsT_nil _ _ _))))))))))))))) ?_ ?_
    · intro a w' hk hF hD K hK
      have h3 : a.tmps[3]?.getD undef = .pointer (some ⟨eb, 0, none⟩) := hF 3 (by kernel_rfl)
      clear hF hD
      rw [if_pos (by simp [Region.wanted])]
      refine wp_load_mid 33 (.tmp 3) rfl eb 0 ((eval_tmp _ _).trans h3) L _ (HrE.out _ (k2.trans hk)) Try.underlying33 rfl (iEv lL) ?_
      exact hK.out _ _ (Kp.refl _) rfl
    · intro a w' hk hF hD K hK
      have h19 : a.tmps[19]?.getD undef = .agg L.toArray := hD 0 (by kernel_rfl)
      clear hF hD
      go_simp
      refine (HFm.out _ (k2.trans hk)).mono ?_
      rintro e w9 ⟨rfl, k9⟩
      exact hK.out _ _ k9 rfl
    · intro a w' hk hF hD K hK
      have h20 : a.tmps[20]?.getD undef = .bool false := hD 1 (by kernel_rfl)
      clear hF hD
      go_simp
      exact hK.out _ _ (Kp.refl _) rfl
    · intro a w' hk hF hD K hK
      have h21 : a.tmps[21]?.getD undef = .bool true := hD 2 (by kernel_rfl)
      clear hF hD
      go_simp
      exact hK.out _ _ (Kp.refl _) rfl
    · intro a w' hk hF hD K hK
      have h3 : a.tmps[3]?.getD undef = .pointer (some ⟨eb, 0, none⟩) := hF 3 (by kernel_rfl)
      have h22 : a.tmps[22]?.getD undef = .bool true := hD 3 (by kernel_rfl)
      have g22 := guard_get h22
      clear hF hD
      go_simp
      exact hK.out _ _ (Kp.refl _) rfl
    · intro a w' hk hF hD K hK
      have h23 : a.tmps[23]?.getD undef = undef := hD 4 (by kernel_rfl)
      have h22 : a.tmps[22]?.getD undef = .bool true := hD 3 (by kernel_rfl)
      have g22 := guard_get h22
      clear hF hD
      go_simp
      exact hK.out _ _ (Kp.refl _) rfl
    · intro a w' hk hF hD K hK
      have h24 : a.tmps[24]?.getD undef = undef := hD 5 (by kernel_rfl)
      have h22 : a.tmps[22]?.getD undef = .bool true := hD 3 (by kernel_rfl)
      have g22 := guard_get h22
      clear hF hD
      go_simp
      exact hK.out _ _ (Kp.refl _) rfl
    · intro a w' hk hF hD K hK
      have h0 : a.tmps[0]?.getD undef = .pointer (some ⟨b, 0, none⟩) := hF 0 (by kernel_rfl)
      have h22 : a.tmps[22]?.getD undef = .bool true := hD 3 (by kernel_rfl)
      have g22 := guard_get h22
      clear hF hD
      go_simp
      exact hK.out _ _ (Kp.refl _) rfl
    · intro a w' hk hF hD K hK
      have h26 : a.tmps[26]?.getD undef = undef := hD 7 (by kernel_rfl)
      have h22 : a.tmps[22]?.getD undef = .bool true := hD 3 (by kernel_rfl)
      have g22 := guard_get h22
      clear hF hD
      go_simp
      exact hK.out _ _ (Kp.refl _) rfl
    · intro a w' hk hF hD K hK
      have h27 : a.tmps[27]?.getD undef = undef := hD 8 (by kernel_rfl)
      have h22 : a.tmps[22]?.getD undef = .bool true := hD 3 (by kernel_rfl)
      have g22 := guard_get h22
      clear hF hD
      go_simp
      exact hK.out _ _ (Kp.refl _) rfl
    · intro a w' hk hF hD K hK
      have h28 : a.tmps[28]?.getD undef = undef := hD 9 (by kernel_rfl)
      have h22 : a.tmps[22]?.getD undef = .bool true := hD 3 (by kernel_rfl)
      have g22 := guard_get h22
      clear hF hD
      go_simp
      exact hK.out _ _ (Kp.refl _) rfl
    · intro a w' hk hF hD K hK
      have h29 : a.tmps[29]?.getD undef = undef := hD 10 (by kernel_rfl)
      have h22 : a.tmps[22]?.getD undef = .bool true := hD 3 (by kernel_rfl)
      have g22 := guard_get h22
      clear hF hD
      go_simp
      exact hK.out _ _ (Kp.refl _) rfl
    · intro a w' hk hF hD K hK
      have h25 : a.tmps[25]?.getD undef = undef := hD 6 (by kernel_rfl)
      have h30 : a.tmps[30]?.getD undef = undef := hD 11 (by kernel_rfl)
      have h22 : a.tmps[22]?.getD undef = .bool true := hD 3 (by kernel_rfl)
      have g22 := guard_get h22
      clear hF hD
      go_simp
      exact hK.out _ _ (Kp.refl _) rfl
    · intro a w' hk hF hD K hK
      have h22 : a.tmps[22]?.getD undef = .bool true := hD 3 (by kernel_rfl)
      have h31 : a.tmps[31]?.getD undef = undef := hD 12 (by kernel_rfl)
      clear hF hD
      go_simp
      exact hK.out _ _ (Kp.refl _) rfl
    · exact fun i0 hi0 => by simp at hi0
    intro v w9 k9 hv
    have v13 : v 13 = .bool true := hv 13 (by omega)
    clear hv
    simp only [G2.growPut, G2.gSlot, List.getElem?_toArray, List.getElem?_cons_zero, List.getElem?_cons_succ, Option.bind_some, List.setIfInBounds_toArray, List.set_cons_zero, List.set_cons_succ, List.drop_succ_cons, List.drop_zero, v13]
    have kf := k2.trans k9
    clear y0 e3 HFm HrE HN
    go_wp2_with fail
    go_ret2
    rw [HX.out]
    exact ⟨_, [], M, S, cb, cc, w.heap.size, rfl, (hb1.out.kp kf), hH.out, EsR.nil _ _, rfl, (k0.trans kf).fx _, fun q hq => .inl hq, Nat.le_refl _, (k0.trans kf).size⟩
  | true =>
    obtain ⟨nb, hnb⟩ : ∃ nb, nb = !decide (m = n) := ⟨_, rfl⟩
    have q1 : ((m : Int) != (n : Int)) = nb := by
      rw [hnb, Bool.eq_iff_iff]
      simp
      omega
    have q2 : (m != n) = nb := by
      rw [hnb, Bool.eq_iff_iff]
      simp
    have q3 : (!decide (m = n)) = nb := hnb.symm
    have q4 : ((m : Int) == (n : Int)) = !nb := by
      rw [hnb, Bool.eq_iff_iff]
      simp
      omega
    replace hnb := hid hnb
    refine G2.wp_region_growT Kp [] 14 72 (G2.pvL [G2.eqv (.agg L.toArray), G2.eqv (.bool true), G2.eqv (.bool false), G2.eqv (.bool false), G2.eqv (.pointer (some ⟨eb, 3, none⟩)), G2.eqv (.slice Av m cv), G2.eqv (.int .i64 (m : Int)), G2.eqv (.pointer (some ⟨b, 0, none⟩)), G2.eqv (.pointer (some ⟨b, 0, none⟩)), G2.eqv (.pointer (some ⟨b, 0, none⟩)), G2.eqv (.slice (some ⟨cb, 0, none⟩) n cc), G2.eqv (.int .i64 (n : Int)), G2.eqv (.bool nb), G2.eqv (.bool nb)]) (by kernel_rfl) (by kernel_rfl) rfl (fun x => Kp.refl x) (fun _ _ _ h k => h.trans k) (Kp.refl _).drew (by intro _ _ _ _ _ h; exact h) (G2.pvL_keep (G2.stabL_cons (G2.stab_eq _) (G2.stabL_cons (G2.stab_eq _) (G2.stabL_cons (G2.stab_eq _) (G2.stabL_cons (G2.stab_eq _) (G2.stabL_cons (G2.stab_eq _) (G2.stabL_cons (G2.stab_eq _) (G2.stabL_cons (G2.stab_eq _) (G2.stabL_cons (G2.stab_eq _) (G2.stabL_cons (G2.stab_eq _) (G2.stabL_cons (G2.stab_eq _) (G2.stabL_cons (G2.stab_eq _) (G2.stabL_cons (G2.stab_eq _) (G2.stabL_cons (G2.stab_eq _) (G2.stabL_cons (G2.stab_eq _) (G2.stabL_nil)))))))))))))))) (G2.stepsT_cons 0 ?_ (G2.stepsT_cons 1 ?_ (G2.stepsT_cons 2 ?_ (G2.stepsT_cons 3 ?_ (G2.stepsT_cons 4 ?_ (G2.stepsT_cons 5 ?_ (G2.stepsT_cons 6 ?_ (G2.stepsT_cons 7 ?_ (G2.stepsT_cons 8 ?_ (G2.stepsT_cons 9 ?_ (G2.stepsT_cons 10 ?_ (G2.stepsT_cons 11 ?_ (G2.stepsT_cons 12 ?_ (G2.stepsT_cons 13 ?_ (G2.stepsT_nil _ _ _))))))))))))))) ?_ ?_
    · intro a w' hk hF hD K hK
      have h3 : a.tmps[3]?.getD undef = .pointer (some ⟨eb, 0, none⟩) := hF 3 (by kernel_rfl)
      clear hF hD
      rw [if_pos (by simp [Region.wanted])]
      refine wp_load_mid 33 (.tmp 3) rfl eb 0 ((eval_tmp _ _).trans h3) L _ (HrE.out _ (k2.trans hk)) Try.underlying33 rfl (iEv lL) ?_
      exact hK.out _ _ (Kp.refl _) rfl
    · intro a w' hk hF hD K hK
      have h19 : a.tmps[19]?.getD undef = .agg L.toArray := hD 0 (by kernel_rfl)
      clear hF hD
      go_simp
      refine (HFm.out _ (k2.trans hk)).mono ?_
      rintro e w9 ⟨rfl, k9⟩
      exact hK.out _ _ k9 rfl
    · intro a w' hk hF hD K hK
      have h20 : a.tmps[20]?.getD undef = .bool true := hD 1 (by kernel_rfl)
      clear hF hD
      go_simp
      exact hK.out _ _ (Kp.refl _) rfl
    · intro a w' hk hF hD K hK
      have h21 : a.tmps[21]?.getD undef = .bool false := hD 2 (by kernel_rfl)
      clear hF hD
      go_simp
      exact hK.out _ _ (Kp.refl _) rfl
    · intro a w' hk hF hD K hK
      have h3 : a.tmps[3]?.getD undef = .pointer (some ⟨eb, 0, none⟩) := hF 3 (by kernel_rfl)
      have h22 : a.tmps[22]?.getD undef = .bool false := hD 3 (by kernel_rfl)
      have g22 := guard_get h22
      clear hF hD
      go_simp
      exact hK.out _ _ (Kp.refl _) rfl
    · intro a w' hk hF hD K hK
      have h23 : a.tmps[23]?.getD undef = .pointer (some ⟨eb, 3, none⟩) := hD 4 (by kernel_rfl)
      have h22 : a.tmps[22]?.getD undef = .bool false := hD 3 (by kernel_rfl)
      have g22 := guard_get h22
      clear hF hD
      have z0 := hk.cellS e3
      go_simp
      exact hK.out _ _ (Kp.refl _) rfl
    · intro a w' hk hF hD K hK
      have h24 : a.tmps[24]?.getD undef = .slice Av m cv := hD 5 (by kernel_rfl)
      have h22 : a.tmps[22]?.getD undef = .bool false := hD 3 (by kernel_rfl)
      have g22 := guard_get h22
      clear hF hD
      go_simp
      exact hK.out _ _ (Kp.refl _) rfl
    · intro a w' hk hF hD K hK
      have h0 : a.tmps[0]?.getD undef = .pointer (some ⟨b, 0, none⟩) := hF 0 (by kernel_rfl)
      have h22 : a.tmps[22]?.getD undef = .bool false := hD 3 (by kernel_rfl)
      have g22 := guard_get h22
      clear hF hD
      go_simp
      exact hK.out _ _ (Kp.refl _) rfl
    · intro a w' hk hF hD K hK
      have h26 : a.tmps[26]?.getD undef = .pointer (some ⟨b, 0, none⟩) := hD 7 (by kernel_rfl)
      have h22 : a.tmps[22]?.getD undef = .bool false := hD 3 (by kernel_rfl)
      have g22 := guard_get h22
      clear hF hD
      go_simp
      exact hK.out _ _ (Kp.refl _) rfl
    · intro a w' hk hF hD K hK
      have h27 : a.tmps[27]?.getD undef = .pointer (some ⟨b, 0, none⟩) := hD 8 (by kernel_rfl)
      have h22 : a.tmps[22]?.getD undef = .bool false := hD 3 (by kernel_rfl)
      have g22 := guard_get h22
      clear hF hD
      go_simp
      exact hK.out _ _ (Kp.refl _) rfl
    · intro a w' hk hF hD K hK
      have h28 : a.tmps[28]?.getD undef = .pointer (some ⟨b, 0, none⟩) := hD 9 (by kernel_rfl)
      have h22 : a.tmps[22]?.getD undef = .bool false := hD 3 (by kernel_rfl)
      have g22 := guard_get h22
      clear hF hD
      have z0 := hk.cellS y0
      go_simp
      exact hK.out _ _ (Kp.refl _) rfl
    · intro a w' hk hF hD K hK
      have h29 : a.tmps[29]?.getD undef = .slice (some ⟨cb, 0, none⟩) n cc := hD 10 (by kernel_rfl)
      have h22 : a.tmps[22]?.getD undef = .bool false := hD 3 (by kernel_rfl)
      have g22 := guard_get h22
      clear hF hD
      go_simp
      exact hK.out _ _ (Kp.refl _) rfl
    · intro a w' hk hF hD K hK
      have h25 : a.tmps[25]?.getD undef = .int .i64 (m : Int) := hD 6 (by kernel_rfl)
      have h30 : a.tmps[30]?.getD undef = .int .i64 (n : Int) := hD 11 (by kernel_rfl)
      have h22 : a.tmps[22]?.getD undef = .bool false := hD 3 (by kernel_rfl)
      have g22 := guard_get h22
      clear hF hD
      have z1 := q1
      have z2 := q2
      have z3 := q3
      have z4 := q4
      go_simp
      exact hK.out _ _ (Kp.refl _) rfl
    · intro a w' hk hF hD K hK
      have h22 : a.tmps[22]?.getD undef = .bool false := hD 3 (by kernel_rfl)
      have h31 : a.tmps[31]?.getD undef = .bool nb := hD 12 (by kernel_rfl)
      clear hF hD
      go_simp
      exact hK.out _ _ (Kp.refl _) rfl
    · exact fun i0 hi0 => by simp at hi0
    intro v w9 k9 hv
    have v13 : v 13 = .bool nb := hv 13 (by omega)
    clear hv
    simp only [G2.growPut, G2.gSlot, List.getElem?_toArray, List.getElem?_cons_zero, List.getElem?_cons_succ, Option.bind_some, List.setIfInBounds_toArray, List.set_cons_zero, List.set_cons_succ, List.drop_succ_cons, List.drop_zero, v13]
    replace k2 := k2.trans k9
    clear q1 q2 q3 q4 HFm
    have y0 := k9.cellS y0
    have hel2 := Nat.lt_of_lt_of_le hel k2.size
    have hbl2 := Nat.lt_of_lt_of_le hbl1 k2.size
    clear k9 e3
    cases nb with
    | true =>
      have HX : Hid (addE (c, H) e = ((c, H), [], 1)) := hid (by
        unfold addE
        rw [if_pos]
        rw [hlen.out, ← hm'.out, ← hnb.out, Bool.or_true])
      clear y0 HrE HN
      go_wp2_with fail
      go_ret2
      rw [HX.out]
      exact ⟨_, [], M, S, cb, cc, w.heap.size, rfl, (hb1.out.kp k2), hH.out, EsR.nil _ _, rfl, (k0.trans k2).fx _, fun q hq => .inl hq, Nat.le_refl _, (k0.trans k2).size⟩
    | false =>
      have hmn : m = n := by
        have := hnb.out
        simpa using this
      have hpl2 : e.past.length = c.length := by rw [← hm'.out, hmn, hlen.out]
      have hfe : formedE e = true := hfm.out.symm
      have f := formedE_fe hfe
      replace hmn := hid hmn
      have HA : Hid (addE (c, H) e = (if H.any (fun x => decide (nameE x = nameE e)) || hasC c (nameE e) then ((c, H), [], 6) else if readyE c e then (((settleE H.length (setD c e) H).1, (settleE H.length (setD c e) H).2.1), e :: (settleE H.length (setD c e) H).2.2, 0) else if 256 ≤ H.length then ((c, H), [], 8) else ((c, insE e H), [], 0))) := hid (by
        unfold addE
        rw [if_neg (by simp [hfe, hpl2])])
      obtain ⟨hs, hhs⟩ : ∃ hs, hs = hasC c (nameE e) := ⟨_, rfl⟩
      have HHs : Hid (∀ W, Kp w1 W → Calls Try.prog 28 #[.slice (some ⟨cb, 0, none⟩) n cc, .agg #[.int .i64 e.r, .int .i64 e.n]] W fun x w' => x = .returned (.bool hs) ∧ Kp W w') := hid fun W k => by
        rw [hhs]
        exact cHas_any c e.r e.n _ W (hb1.out.clkI.keep (pl_stable _) k)
      replace hhs := hid hhs
      cases hd with
      | true =>
        have HX : Hid (addE (c, H) e = ((c, H), [], 6)) := hid (by rw [HA.out, if_pos]; rw [← hhd.out, Bool.true_or])
        go_upto_region 4 with (fail)
        obtain ⟨wz, rfl⟩ : ∃ wz, wz = w9 := ⟨_, rfl⟩
        refine G2.wp_region_growT Kp [] 10 72 (G2.pvL [G2.eqv (.bool true), G2.eqv (.bool true), G2.eqv (undef), G2.eqv (undef), G2.eqv (undef), G2.eqv (undef), G2.eqv (undef), G2.eqv (undef), G2.eqv (undef), G2.eqv (.bool true)]) (by kernel_rfl) (by kernel_rfl) rfl (fun x => Kp.refl x) (fun _ _ _ h k => h.trans k) (Kp.refl _).drew (by intro _ _ _ _ _ h; exact h) (G2.pvL_keep (G2.stabL_cons (G2.stab_eq _) (G2.stabL_cons (G2.stab_eq _) (G2.stabL_cons (G2.stab_eq _) (G2.stabL_cons (G2.stab_eq _) (G2.stabL_cons (G2.stab_eq _) (G2.stabL_cons (G2.stab_eq _) (G2.stabL_cons (G2.stab_eq _) (G2.stabL_cons (G2.stab_eq _) (G2.stabL_cons (G2.stab_eq _) (G2.stabL_cons (G2.stab_eq _) (G2.stabL_nil)))))))))))) (G2.stepsT_cons 0 ?_ (G2.stepsT_cons 1 ?_ (G2.stepsT_cons 2 ?_ (G2.stepsT_cons 3 ?_ (G2.stepsT_cons 4 ?_ (G2.stepsT_cons 5 ?_ (G2.stepsT_cons 6 ?_ (G2.stepsT_cons 7 ?_ (G2.stepsT_cons 8 ?_ (G2.stepsT_cons 9 ?_ (G2.stepsT_nil _ _ _))))))))))) ?_ ?_
        · intro a w' hk hF hD K hK
          have h7 : a.tmps[7]?.getD undef = .bool true := hF 7 (by kernel_rfl)
          clear hF hD
          go_simp
          exact hK.out _ _ (Kp.refl _) rfl
        · intro a w' hk hF hD K hK
          have h34 : a.tmps[34]?.getD undef = .bool true := hD 0 (by kernel_rfl)
          clear hF hD
          go_simp
          exact hK.out _ _ (Kp.refl _) rfl
        · intro a w' hk hF hD K hK
          have h0 : a.tmps[0]?.getD undef = .pointer (some ⟨b, 0, none⟩) := hF 0 (by kernel_rfl)
          have h35 : a.tmps[35]?.getD undef = .bool true := hD 1 (by kernel_rfl)
          have g35 := guard_get h35
          clear hF hD
          go_simp
          exact hK.out _ _ (Kp.refl _) rfl
        · intro a w' hk hF hD K hK
          have h36 : a.tmps[36]?.getD undef = undef := hD 2 (by kernel_rfl)
          have h35 : a.tmps[35]?.getD undef = .bool true := hD 1 (by kernel_rfl)
          have g35 := guard_get h35
          clear hF hD
          go_simp
          exact hK.out _ _ (Kp.refl _) rfl
        · intro a w' hk hF hD K hK
          have h37 : a.tmps[37]?.getD undef = undef := hD 3 (by kernel_rfl)
          have h35 : a.tmps[35]?.getD undef = .bool true := hD 1 (by kernel_rfl)
          have g35 := guard_get h35
          clear hF hD
          go_simp
          exact hK.out _ _ (Kp.refl _) rfl
        · intro a w' hk hF hD K hK
          have h38 : a.tmps[38]?.getD undef = undef := hD 4 (by kernel_rfl)
          have h35 : a.tmps[35]?.getD undef = .bool true := hD 1 (by kernel_rfl)
          have g35 := guard_get h35
          clear hF hD
          go_simp
          exact hK.out _ _ (Kp.refl _) rfl
        · intro a w' hk hF hD K hK
          have h3 : a.tmps[3]?.getD undef = .pointer (some ⟨eb, 0, none⟩) := hF 3 (by kernel_rfl)
          have h35 : a.tmps[35]?.getD undef = .bool true := hD 1 (by kernel_rfl)
          have g35 := guard_get h35
          clear hF hD
          go_simp
          exact hK.out _ _ (Kp.refl _) rfl
        · intro a w' hk hF hD K hK
          have h40 : a.tmps[40]?.getD undef = undef := hD 6 (by kernel_rfl)
          have h35 : a.tmps[35]?.getD undef = .bool true := hD 1 (by kernel_rfl)
          have g35 := guard_get h35
          clear hF hD
          go_simp
          exact hK.out _ _ (Kp.refl _) rfl
        · intro a w' hk hF hD K hK
          have h39 : a.tmps[39]?.getD undef = undef := hD 5 (by kernel_rfl)
          have h41 : a.tmps[41]?.getD undef = undef := hD 7 (by kernel_rfl)
          have h35 : a.tmps[35]?.getD undef = .bool true := hD 1 (by kernel_rfl)
          have g35 := guard_get h35
          clear hF hD
          go_simp
          exact hK.out _ _ (Kp.refl _) rfl
        · intro a w' hk hF hD K hK
          have h35 : a.tmps[35]?.getD undef = .bool true := hD 1 (by kernel_rfl)
          have h42 : a.tmps[42]?.getD undef = undef := hD 8 (by kernel_rfl)
          clear hF hD
          go_simp
          exact hK.out _ _ (Kp.refl _) rfl
        · exact fun i0 hi0 => by simp at hi0
        intro v w9 k9 hv
        have v9 : v 9 = .bool true := hv 9 (by omega)
        clear hv
        simp only [G2.growPut, G2.gSlot, List.getElem?_toArray, List.getElem?_cons_zero, List.getElem?_cons_succ, Option.bind_some, List.setIfInBounds_toArray, List.set_cons_zero, List.set_cons_succ, List.drop_succ_cons, List.drop_zero, v9]
        have kf := k2.trans k9
        clear y0 HrE HN HHs
        go_wp2_with fail
        go_ret2
        rw [HX.out]
        exact ⟨_, [], M, S, cb, cc, w.heap.size, rfl, (hb1.out.kp kf), hH.out, EsR.nil _ _, rfl, (k0.trans kf).fx _, fun q hq => .inl hq, Nat.le_refl _, (k0.trans kf).size⟩
      | false =>
        go_upto_region 4 with (fail)
        obtain ⟨wz, rfl⟩ : ∃ wz, wz = w9 := ⟨_, rfl⟩
        refine G2.wp_region_growT Kp [] 10 72 (G2.pvL [G2.eqv (.bool false), G2.eqv (.bool false), G2.eqv (.pointer (some ⟨b, 0, none⟩)), G2.eqv (.pointer (some ⟨b, 0, none⟩)), G2.eqv (.pointer (some ⟨b, 0, none⟩)), G2.eqv (.slice (some ⟨cb, 0, none⟩) n cc), G2.eqv (.agg L.toArray), G2.eqv (.agg #[.int .i64 e.r, .int .i64 e.n]), G2.eqv (.bool hs), G2.eqv (.bool hs)]) (by kernel_rfl) (by kernel_rfl) rfl (fun x => Kp.refl x) (fun _ _ _ h k => h.trans k) (Kp.refl _).drew (by intro _ _ _ _ _ h; exact h) (G2.pvL_keep (G2.stabL_cons (G2.stab_eq _) (G2.stabL_cons (G2.stab_eq _) (G2.stabL_cons (G2.stab_eq _) (G2.stabL_cons (G2.stab_eq _) (G2.stabL_cons (G2.stab_eq _) (G2.stabL_cons (G2.stab_eq _) (G2.stabL_cons (G2.stab_eq _) (G2.stabL_cons (G2.stab_eq _) (G2.stabL_cons (G2.stab_eq _) (G2.stabL_cons (G2.stab_eq _) (G2.stabL_nil)))))))))))) (G2.stepsT_cons 0 ?_ (G2.stepsT_cons 1 ?_ (G2.stepsT_cons 2 ?_ (G2.stepsT_cons 3 ?_ (G2.stepsT_cons 4 ?_ (G2.stepsT_cons 5 ?_ (G2.stepsT_cons 6 ?_ (G2.stepsT_cons 7 ?_ (G2.stepsT_cons 8 ?_ (G2.stepsT_cons 9 ?_ (G2.stepsT_nil _ _ _))))))))))) ?_ ?_
        · intro a w' hk hF hD K hK
          have h7 : a.tmps[7]?.getD undef = .bool false := hF 7 (by kernel_rfl)
          clear hF hD
          go_simp
          exact hK.out _ _ (Kp.refl _) rfl
        · intro a w' hk hF hD K hK
          have h34 : a.tmps[34]?.getD undef = .bool false := hD 0 (by kernel_rfl)
          clear hF hD
          go_simp
          exact hK.out _ _ (Kp.refl _) rfl
        · intro a w' hk hF hD K hK
          have h0 : a.tmps[0]?.getD undef = .pointer (some ⟨b, 0, none⟩) := hF 0 (by kernel_rfl)
          have h35 : a.tmps[35]?.getD undef = .bool false := hD 1 (by kernel_rfl)
          have g35 := guard_get h35
          clear hF hD
          go_simp
          exact hK.out _ _ (Kp.refl _) rfl
        · intro a w' hk hF hD K hK
          have h36 : a.tmps[36]?.getD undef = .pointer (some ⟨b, 0, none⟩) := hD 2 (by kernel_rfl)
          have h35 : a.tmps[35]?.getD undef = .bool false := hD 1 (by kernel_rfl)
          have g35 := guard_get h35
          clear hF hD
          go_simp
          exact hK.out _ _ (Kp.refl _) rfl
        · intro a w' hk hF hD K hK
          have h37 : a.tmps[37]?.getD undef = .pointer (some ⟨b, 0, none⟩) := hD 3 (by kernel_rfl)
          have h35 : a.tmps[35]?.getD undef = .bool false := hD 1 (by kernel_rfl)
          have g35 := guard_get h35
          clear hF hD
          go_simp
          exact hK.out _ _ (Kp.refl _) rfl
        · intro a w' hk hF hD K hK
          have h38 : a.tmps[38]?.getD undef = .pointer (some ⟨b, 0, none⟩) := hD 4 (by kernel_rfl)
          have h35 : a.tmps[35]?.getD undef = .bool false := hD 1 (by kernel_rfl)
          have g35 := guard_get h35
          clear hF hD
          have z0 := hk.cellS y0
          go_simp
          exact hK.out _ _ (Kp.refl _) rfl
        · intro a w' hk hF hD K hK
          have h3 : a.tmps[3]?.getD undef = .pointer (some ⟨eb, 0, none⟩) := hF 3 (by kernel_rfl)
          have h35 : a.tmps[35]?.getD undef = .bool false := hD 1 (by kernel_rfl)
          have g35 := guard_get h35
          clear hF hD
          rw [if_pos (by simp [Region.wanted, yielded, g35])]
          refine wp_load_mid 33 (.tmp 3) rfl eb 0 ((eval_tmp _ _).trans h3) L _ (HrE.out _ (k2.trans hk)) Try.underlying33 rfl (iEv lL) ?_
          exact hK.out _ _ (Kp.refl _) rfl
        · intro a w' hk hF hD K hK
          have h40 : a.tmps[40]?.getD undef = .agg L.toArray := hD 6 (by kernel_rfl)
          have h35 : a.tmps[35]?.getD undef = .bool false := hD 1 (by kernel_rfl)
          have g35 := guard_get h35
          clear hF hD
          go_simp
          refine (HN.out _).mono ?_
          rintro e w9 ⟨rfl, k9⟩
          exact hK.out _ _ k9 rfl
        · intro a w' hk hF hD K hK
          have h39 : a.tmps[39]?.getD undef = .slice (some ⟨cb, 0, none⟩) n cc := hD 5 (by kernel_rfl)
          have h41 : a.tmps[41]?.getD undef = .agg #[.int .i64 e.r, .int .i64 e.n] := hD 7 (by kernel_rfl)
          have h35 : a.tmps[35]?.getD undef = .bool false := hD 1 (by kernel_rfl)
          have g35 := guard_get h35
          clear hF hD
          go_simp
          refine (HHs.out _ (k2.trans hk)).mono ?_
          rintro e w9 ⟨rfl, k9⟩
          exact hK.out _ _ k9 rfl
        · intro a w' hk hF hD K hK
          have h35 : a.tmps[35]?.getD undef = .bool false := hD 1 (by kernel_rfl)
          have h42 : a.tmps[42]?.getD undef = .bool hs := hD 8 (by kernel_rfl)
          clear hF hD
          go_simp
          exact hK.out _ _ (Kp.refl _) rfl
        · exact fun i0 hi0 => by simp at hi0
        intro v w9 k9 hv
        have v9 : v 9 = .bool hs := hv 9 (by omega)
        clear hv
        simp only [G2.growPut, G2.gSlot, List.getElem?_toArray, List.getElem?_cons_zero, List.getElem?_cons_succ, Option.bind_some, List.setIfInBounds_toArray, List.set_cons_zero, List.set_cons_succ, List.drop_succ_cons, List.drop_zero, v9]
        replace k2 := k2.trans k9
        clear y0 k9 HHs HN
        cases hs with
        | true =>
          have HX : Hid (addE (c, H) e = ((c, H), [], 6)) := hid (by rw [HA.out, if_pos]; rw [← hhs.out, Bool.or_true])
          clear HrE
          go_wp2_with fail
          go_ret2
          rw [HX.out]
          exact ⟨_, [], M, S, cb, cc, w.heap.size, rfl, (hb1.out.kp k2), hH.out, EsR.nil _ _, rfl, (k0.trans k2).fx _, fun q hq => .inl hq, Nat.le_refl _, (k0.trans k2).size⟩
        | false =>
          have hany : H.any (fun x => decide (nameE x = nameE e)) = false := hhd.out.symm
          have HA2 : Hid (addE (c, H) e = (if readyE c e then (((settleE H.length (setD c e) H).1, (settleE H.length (setD c e) H).2.1), e :: (settleE H.length (setD c e) H).2.2, 0) else if 256 ≤ H.length then ((c, H), [], 8) else ((c, insE e H), [], 0))) := hid (by rw [HA.out, if_neg]; rw [hany, ← hhs.out]; simp)
          obtain ⟨rd, hrd⟩ : ∃ rd, rd = readyE c e := ⟨_, rfl⟩
          have C6 := hid (bReady_any (hb1.out.kp k2) ok.clk e (.slice Av m cv) f hpl2 (hp1.keep (pl_stable _) k2))
          rw [show evV e (.slice Av m cv) = .agg L.toArray by rw [hL.out], ← hrd] at C6
          replace hrd := hid hrd
          have hr9 := HrE.out _ k2
          clear HA
          go_wp2_with (refine wpList_load_mid rfl 33 (.tmp 3) rfl eb 0 rfl _ _ hr9 Try.underlying33 rfl (iEv lL) ?_)
          refine C6.out.mono ?_
          rintro z w3 ⟨rfl, k3⟩
          replace k2 := k2.trans k3
          clear k3 hr9 C6 hel2 hbl2
          have hr3 := HrE.out _ k2
          have hb3 := hb1.out.kp k2
          have hz3 := k2.size
          have hel3 := Nat.lt_of_lt_of_le hel k2.size
          have HCl : Hid (∀ W, Ints W (.slice Av m cv) e.past → Calls Try.prog 43 #[.agg L.toArray] W fun x w' => ∃ y : EvS, x = .returned (esV y) ∧ y.e = e ∧ Own encInt 3 1 W.heap.size w' y.v y.e.past ∧ Kp W w') := hid fun W hi => by
            have := dClone_any e (.slice Av m cv) W hi (by have := hm'.out; omega)
            rw [hL.out]
            refine this.mono ?_
            rintro x w' ⟨v', rfl, own', k'⟩
            obtain ⟨A', n', c', rfl⟩ := own'.isSl
            exact ⟨⟨e, A', n', c'⟩, rfl, rfl, own', k'⟩
          cases rd with
          | true =>
            have HX : Hid (addE (c, H) e = (((settleE H.length (setD c e) H).1, (settleE H.length (setD c e) H).2.1), e :: (settleE H.length (setD c e) H).2.2, 0)) := hid (by rw [HA2.out, if_pos hrd.out.symm])
            obtain ⟨r1, r2⟩ := (readyE_iff ok.clk f hpl2).1 hrd.out.symm
            have C7 := hid (bDeliver_any hb3 e (.slice Av m cv) f.r0 (by have := f.r1; have := hlen.out; omega) (by unfold InC at r2; omega))
            rw [show evV e (.slice Av m cv) = .agg L.toArray by rw [hL.out]] at C7
            have hne := any_name hany
            have hp4 := dropM_map e hH.out
            rw [dropE_none hne] at hp4
            have ok4 : BfOk (setD c e) H := ⟨set_valid ok.clk f, ok.sort, ok.names, fun x hx => by rw [setD_len]; exact ok.ev x hx, ok.len⟩
            have hHl := ok.len
            have hE3 := hE.kp k2 hel
            replace hp4 := hid hp4
            replace ok4 := hid ok4
            clear r1 r2 hne hb3 HrE
            go_wp2_with (refine wpList_load_mid rfl 33 (.tmp 3) rfl eb 0 rfl _ _ hr3 Try.underlying33 rfl (iEv lL) ?_)
            refine C7.out.mono ?_
            rintro z w4 ⟨rfl, hb4, fx4⟩
            clear C7 hr3
            have hE4 := hE3.fx fx4 hel3 (fun hq => by rcases hq with hq | hq <;> omega)
            have hr4 := hE4.range
            have fxs : Fx S w w4 := ((k0.trans k2).fx S).trans (fx4.mono fun q _ hq => by rcases hq with rfl | rfl; exact hb4.sm; exact hb4.sc)
            have C8 := hid (HCl.out w4 (hp0.out w4 fxs))
            have hz04 := fxs.size
            have hel4 := Nat.lt_of_lt_of_le hel3 fx4.size
            clear fx4 hE4 hE3 HCl
            go_wp2_with (refine wpList_load_mid rfl 33 (.tmp 3) rfl eb 0 rfl _ _ hr4 Try.underlying33 rfl (iEv lL) ?_)
            refine C8.out.mono ?_
            rintro z w5 ⟨y, rfl, hye, own5, k5⟩
            have own6 := Own.lit (base := w4.heap.size) encEs (e := 33) (size := 13) w5 (encEs y).toArray [y] k5.size (by simp) rfl (by simp [flat])
            have k6 := (Kp.refl w5).alloc (.cells (encEs y).toArray 33)
            have hz5 := k5.size
            have hz6 : (w5.alloc (.cells (encEs y).toArray 33)).heap.size = w5.heap.size + 1 := World.size_alloc _ _
            have hb6 := hb4.kp (k5.trans k6)
            have hy6 := own5.kp k6
            have hyb := own5.blt
            have C9 := hid (bSettle_any hb6 (fun q hq => by have := hS q hq; omega) hp4.out ok4.out)
            have fx6 := fxs.trans ((k5.trans k6).fx S)
            have hcm : S mb ∧ S cb := ⟨hb6.sm, hb6.sc⟩
            clear C8 hr4 k5 k6 own5 hb4 hb6 fxs
            go_wp2_with (refine wpl_buildOne rfl (.tmp 52) rfl rfl stEvs (encEs_len y) (by omega) ?_; generalize hw6 : w5.alloc (.cells (encEs y).toArray 33) = w6 at *; replace hw6 := hid hw6)
            refine C9.out.mono ?_
            rintro z w7 ⟨v7, outs, M', rfl, hb7, hp7, hE7, ho7, fx7⟩
            have hol : outs.length ≤ 256 := by
              have h1 := congrArg List.length ho7
              rw [List.length_map] at h1
              have h2 : (settleE H.length (setD c e) H).2.2.length ≤ H.length := settle_len _ _ _
              omega
            have own7 := own6.fx fx7 (fun q hq hx => by
              have hq' : w5.heap.size = q := by simpa [Value.ownBlock] using hq
              have h1 := hS _ hcm.1
              have h2 := hS _ hcm.2
              rcases hx with h3 | h3 <;> omega)
            have hy7 := hy6.fx fx7 (fun q hq hx => by
              have h0 := hy6.ge q hq
              have h1 := hS _ hcm.1
              have h2 := hS _ hcm.2
              rcases hx with h3 | h3 <;> omega)
            have hz7 := fx7.size
            have fxz := fx6.trans (fx7.mono fun q _ hq => by rcases hq with rfl | rfl; exact hcm.1; exact hcm.2)
            obtain ⟨A7, c7, rfl, hc7, hm7⟩ := hE7.own.form
            have hsrc := hE7.own.sl encEs_len
            replace ho7 := hid ho7
            replace hp7 := hid hp7
            clear C9 own6 hy6 fx6
            go_wp2_with (at_builtin; refine wpl_append_flat rfl (.tmp 53) (.tmp 55) rfl stEvs encEs_len encEs_one rfl own7 rfl hsrc (by simp; omega) (by simp; omega) (by omega) ?_; intro v8 w8 hown8 hgrow8 hat8 hnil8)
            rw [List.singleton_append] at hown8
            replace hgrow8 : w7.grownBy w8 (some w5.heap.size) := hgrow8
            replace hat8 : v8.ownBlock = some w5.heap.size ∨ v8.ownBlock = some w7.heap.size := hat8
            have hE8 := hE7.cons (base := w4.heap.size) (g := w5.heap.size) (by omega) hy7 hyb (by omega) (by omega) hown8 hgrow8 hat8
            have hb8 := hb7.fx (X := fun q => q = w5.heap.size) (hgrow8.fxg _ rfl) (fun q hq hx => by have := hS q hq; omega)
            have hz8 := hgrow8.size
            obtain ⟨A8, c8, rfl, -, -⟩ := hown8.form
            have fx8 := fxz.grown hgrow8 (fun q hq => .inr (by
              injection hq with hq'
              omega))
            clear hown8 hgrow8 hat8 hnil8 own7 hsrc
            go_wp2
            go_ret2
            rw [HX.out]
            exact ⟨_, y :: outs, M', S, cb, cc, w4.heap.size, rfl, hb8, hp7.out, hE8, by rw [List.map_cons, hye, ho7.out], fx8, fun q hq => .inl hq, hz04, by omega⟩
          | false =>
            have HA3 : Hid (addE (c, H) e = (if 256 ≤ H.length then ((c, H), [], 8) else ((c, insE e H), [], 0))) := hid (by rw [HA2.out, if_neg]; rw [← hrd.out]; simp)
            have hml := hH.out.length_eq
            rw [List.length_map] at hml
            have y1 := hb3.box.cell (j := 1) rfl
            have hbl3 := hb3.blt
            have hln := fun ty => hb3.map.len_run ty
            clear HA2
            by_cases hbig : 256 ≤ M.length
            · have HX : Hid (addE (c, H) e = ((c, H), [], 8)) := hid (by rw [HA3.out, if_pos (by omega)])
              have e1 : decide ((256 : Int) ≤ (M.length : Int)) = true := decide_eq_true (by omega)
              have e2 : decide (256 ≤ M.length) = true := decide_eq_true hbig
              replace hml := hid hml
              clear hr3 HrE
              go_wp2_with fail
              go_ret2
              rw [HX.out]
              exact ⟨_, [], M, S, cb, cc, w.heap.size, rfl, (hb1.out.kp k2), hH.out, EsR.nil _ _, rfl, (k0.trans k2).fx _, fun q hq => .inl hq, Nat.le_refl _, (k0.trans k2).size⟩
            · have HX : Hid (addE (c, H) e = ((c, insE e H), [], 0)) := hid (by rw [HA3.out, if_neg (by omega)])
              have e1 : decide ((256 : Int) ≤ (M.length : Int)) = false := decide_eq_false (by omega)
              have e2 : decide (256 ≤ M.length) = false := decide_eq_false hbig
              have hHl : H.length < 256 := by omega
              replace hml := hid hml
              go_upto_region 11 with (fail)
              have HK := hid (fun W (k : Kp w3 W) => HCl.out W (hp0.out W (((k0.trans k2).trans k).fx S)))
              have hrK := hid (fun W (k : Kp w3 W) => HrE.out W (k2.trans k))
              have HN2 : Hid (∀ W, Calls Try.prog 39 #[.agg L.toArray] W fun x w' => x = .returned (.agg #[.int .i64 e.r, .int .i64 e.n]) ∧ Kp W w') := hid fun W => by
                rw [hL.out]
                exact dName_any e _ W
              clear HCl HrE hr3
              refine G2.wp_region_growT Kp [] 8 72 (G2.pvL [G2.eqv (.pointer (some ⟨b, 0, none⟩)), G2.eqv (.pointer (some ⟨b, 0, none⟩)), G2.eqv (.pointer (some ⟨b, 1, none⟩)), G2.eqv (.map (some mb)), G2.eqv (.agg L.toArray), G2.eqv (.agg #[.int .i64 e.r, .int .i64 e.n]), G2.eqv (.agg L.toArray), (fun x W => ∃ y : EvS, x = esV y ∧ y.e = e ∧ Own encInt 3 1 w3.heap.size W y.v y.e.past)]) (by kernel_rfl) (by kernel_rfl) rfl (fun x => Kp.refl x) (fun _ _ _ h k => h.trans k) (Kp.refl _).drew (by intro _ _ _ _ _ h; exact h) (G2.pvL_keep (G2.stabL_cons (G2.stab_eq _) (G2.stabL_cons (G2.stab_eq _) (G2.stabL_cons (G2.stab_eq _) (G2.stabL_cons (G2.stab_eq _) (G2.stabL_cons (G2.stab_eq _) (G2.stabL_cons (G2.stab_eq _) (G2.stabL_cons (G2.stab_eq _) (G2.stabL_cons (fun _ _ _ ⟨y, h1, h2, h3⟩ k => ⟨y, h1, h2, h3.kp k⟩) (G2.stabL_nil)))))))))) (G2.stepsT_cons 0 ?_ (G2.stepsT_cons 1 ?_ (G2.stepsT_cons 2 ?_ (G2.stepsT_cons 3 ?_ (G2.stepsT_cons 4 ?_ (G2.stepsT_cons 5 ?_ (G2.stepsT_cons 6 ?_ (G2.stepsT_cons 7 ?_ (G2.stepsT_nil _ _ _))))))))) ?_ ?_
              · intro a w' hk hF hD K hK
                have h0 : a.tmps[0]?.getD undef = .pointer (some ⟨b, 0, none⟩) := hF 0 (by kernel_rfl)
                clear hF hD
                go_simp
                exact hK.out _ _ (Kp.refl _) rfl
              · intro a w' hk hF hD K hK
                have h64 : a.tmps[64]?.getD undef = .pointer (some ⟨b, 0, none⟩) := hD 0 (by kernel_rfl)
                clear hF hD
                go_simp
                exact hK.out _ _ (Kp.refl _) rfl
              · intro a w' hk hF hD K hK
                have h65 : a.tmps[65]?.getD undef = .pointer (some ⟨b, 0, none⟩) := hD 1 (by kernel_rfl)
                clear hF hD
                go_simp
                exact hK.out _ _ (Kp.refl _) rfl
              · intro a w' hk hF hD K hK
                have h66 : a.tmps[66]?.getD undef = .pointer (some ⟨b, 1, none⟩) := hD 2 (by kernel_rfl)
                clear hF hD
                have z0 := hk.cellS y1
                go_simp
                exact hK.out _ _ (Kp.refl _) rfl
              · intro a w' hk hF hD K hK
                have h3 : a.tmps[3]?.getD undef = .pointer (some ⟨eb, 0, none⟩) := hF 3 (by kernel_rfl)
                clear hF hD
                rw [if_pos (by simp [Region.wanted])]
                refine wp_load_mid 33 (.tmp 3) rfl eb 0 ((eval_tmp _ _).trans h3) L _ (hrK.out _ hk) Try.underlying33 rfl (iEv lL) ?_
                exact hK.out _ _ (Kp.refl _) rfl
              · intro a w' hk hF hD K hK
                have h68 : a.tmps[68]?.getD undef = .agg L.toArray := hD 4 (by kernel_rfl)
                clear hF hD
                go_simp
                refine (HN2.out _).mono ?_
                rintro e w9 ⟨rfl, k9⟩
                exact hK.out _ _ k9 rfl
              · intro a w' hk hF hD K hK
                have h3 : a.tmps[3]?.getD undef = .pointer (some ⟨eb, 0, none⟩) := hF 3 (by kernel_rfl)
                clear hF hD
                rw [if_pos (by simp [Region.wanted])]
                refine wp_load_mid 33 (.tmp 3) rfl eb 0 ((eval_tmp _ _).trans h3) L _ (hrK.out _ hk) Try.underlying33 rfl (iEv lL) ?_
                exact hK.out _ _ (Kp.refl _) rfl
              · intro a w' hk hF hD K hK
                have h70 : a.tmps[70]?.getD undef = .agg L.toArray := hD 6 (by kernel_rfl)
                clear hF hD
                go_simp
                refine (HK.out _ hk).mono ?_
                rintro z w9 ⟨y, rfl, hy, own, k9⟩
                exact hK.out _ _ k9 ⟨y, rfl, hy, own.less hk.size⟩
              · exact fun i0 hi0 => by simp at hi0
              intro v w9 k9 hv
              have v3 : v 3 = .map (some mb) := hv 3 (by omega)
              have v5 : v 5 = .agg #[.int .i64 e.r, .int .i64 e.n] := hv 5 (by omega)
              have v7 : (fun x W => ∃ y : EvS, x = esV y ∧ y.e = e ∧ Own encInt 3 1 w3.heap.size W y.v y.e.past) (v 7) w9 := hv 7 (by omega)
              clear hv
              obtain ⟨y, e7, hye, own9⟩ := v7
              simp only [G2.growPut, G2.gSlot, List.getElem?_toArray, List.getElem?_cons_zero, List.getElem?_cons_succ, Option.bind_some, List.setIfInBounds_toArray, List.set_cons_zero, List.set_cons_succ, List.drop_succ_cons, List.drop_zero, v3, v5, e7]
              have hb9 := hb3.kp k9
              obtain ⟨w10, r1, r2, r3, r4⟩ := hb9.map.put keyDt Try.underlying93 (nameE e) (esV y)
              rw [entL_put (by rw [any_perm hH.out]; exact hany) hye] at r2
              refine wpl_mapset rfl 93 (.tmp 67) (.tmp 69) (.tmp 71) rfl rfl rfl rfl r1 ?_
              clear HK hrK HN2 y1 r1
              have hz9 := k9.size
              have hz03 := (k0.trans k2).size
              have fxm : Fx (fun q => q = mb) w9 w10 := r3.fx (.inl rfl)
              have fx10 : Fx S w w10 := (((k0.trans k2).trans k9).fx S).trans (fxm.mono fun q _ hq => by subst hq; exact hb9.sm)
              have own10 := own9.fx fxm fun q hq hx => by
                have h1 := own9.ge q hq
                have h2 := hS _ hb9.sm
                omega
              have hyb := own9.blt
              have hyg := own9.ge
              have hb10 : BfW (fun q => S q ∨ y.v.ownBlock = some q) base w10 b cb cc mb n c (M ++ [y]) :=
                ⟨hb9.box.fx fxm hb9.blt n2, hb9.len, hb9.clk.fx fxm (fun q hq => by
                  obtain rfl : cb = q := by simpa [Value.ownBlock] using hq
                  exact n3), r2, fun x hx => by
                  rcases List.mem_append.1 hx with hx | hx
                  · obtain ⟨g1, g2⟩ := hb9.past x hx
                    exact ⟨g1.fx fxm fun q hq hm => (g2 q hq).2.2.2 hm, fun q hq => ⟨.inl (g2 q hq).1, (g2 q hq).2⟩⟩
                  · obtain rfl : x = y := by simpa using hx
                    refine ⟨own10.less (by omega), fun q hq => ⟨.inr hq, ?_⟩⟩
                    have h1 := hyg q hq
                    have h2 := hS _ hb9.sm
                    have h3 := hS _ hb9.sb
                    have h4 := hS _ hb9.sc
                    omega, n1, n2, n3, hb9.lb, hb9.lm, .inl hb9.sb, .inl hb9.sc, .inl hb9.sm⟩
              have hp10 : ((M ++ [y]).map (·.e)).Perm (insE e H) := by
                rw [List.map_append, List.map_cons, List.map_nil, hye]
                refine (hH.out.append_right [e]).trans ?_
                refine List.perm_append_comm.trans ?_
                exact (insE_perm e H).symm
              replace hp10 := hid hp10
              replace r4 := hid r4
              go_wp2
              go_ret2
              rw [HX.out]
              exact ⟨_, [], M ++ [y], _, cb, cc, w10.heap.size, rfl, hb10, hp10.out, EsR.nil _ _, rfl, fx10, fun q hq => hq.imp id (fun h => ⟨by have := hyg q h; omega, by have := hyb q h; have := r4.out; omega⟩), fx10.size, Nat.le_refl _⟩
end Go.Proofs.Ytcddllaljgfjbaa
