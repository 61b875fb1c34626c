
/-
Search, the reference: Present, Cut: the walks.
-/
import Derived.Test.YtlbhidiliogflaaGreatSeE
import Derived.Test.YtlbhidiliogflaaGreatDgPb
import Derived.Test.YtlbhidiliogflaaGreatSB
import Derived.Test.YtlbhidiliogflaaGreatGM
namespace Go.Proofs.YtlbhidiliogflaaGreat
set_option linter.unusedSimpArgs false
set_option linter.unusedVariables false
open Go.RowKit

/-- a guard on an operation that is not asked -/
theorem guard_und {T : Array Value} {i : Nat} (h : T[i]?.getD undef = undef) : T[i]? = none ∨ T[i]? = some undef := by
  cases hT : T[i]? with
  | none => exact .inl rfl
  | some v => rw [hT] at h; exact .inr (congrArg some h)
theorem presB_snoc (g : Gr) (b : List Rng) (k : Nat) (h : k < g.least.length) : (presB g b).take (k + 1) = (presB g b).take k ++ [decide (g.least.getD k 0 ≤ (pick b (g.first + (k : Int))).lo)] := presB_take g b k h
theorem GrV.keep' {w w' : World} {v : Value} {g : Gr} (h : GrV w v g) (k : Kp w w') : GrV w' v g := by
  obtain ⟨A, c, e, h⟩ := h
  exact ⟨A, c, e, h.keep (pl_stable _) k⟩
set_option maxRecDepth 8000 in
set_option maxHeartbeats 8000000 in
theorem rPresent_any (va vb : Value) (g : Gr) (box : List Rng) (w : World) (hg : GrV w va g) (hb : Rngs w vb box) (hok : grOk box.length g = true) (hn : box.length ≤ 1000) :
    Calls Tryz.prog 91 #[va, vb] w fun e w' => ∃ v, e = .returned v ∧ Own encBool 4 1 w.heap.size w' v (presB g box) ∧ Kp w w' := by
  obtain ⟨f, s, hf, hs, hs1, hs6, hfs, hll, h36⟩ := gr_facts hok
  obtain ⟨A, c, rfl, hl⟩ := hg
  obtain ⟨Ab, cb, rfl, hcb, hmb⟩ := hb.form
  obtain ⟨hc, hm⟩ := hl.caps
  obtain ⟨fi, sz, le⟩ := g
  dsimp only at *
  subst hf hs
  have HPL := hid (presB_len ⟨(f : Int), (s : Int), le⟩ box)
  have HPT : Hid (∀ j, j < le.length → _) := hid (presB_take ⟨(f : Int), (s : Int), le⟩ box)
  dsimp only at HPL
  generalize presB ⟨(f : Int), (s : Int), le⟩ box = P at *
  have hss : ((s * s : Nat) : Int) = (s : Int) * (s : Int) := by simp
  obtain ⟨m, hm0⟩ : ∃ m, m = s * s := ⟨_, rfl⟩
  rw [← hm0] at hll hfs
  obtain ⟨wm1, wm2⟩ : IntKind.i64.wrap ((s : Int) * (s : Int)) = (m : Int) ∧ wrap64 ((s : Int) * (s : Int)) = (m : Int) := by
    rw [← hss, ← hm0]
    exact ⟨IntWalk.i64_in _ (by omega), IntWalk.wrap64_in _ (by omega)⟩
  have Hl := hid hll
  clear hok hss hm0 hll
  have k0 := (Kp.refl w).alloc (.cells #[.int .i64 (f : Int), .int .i64 (s : Int), .slice A le.length c] 83)
  have c0 := alloc_cell w #[.int .i64 (f : Int), .int .i64 (s : Int), .slice A le.length c] 83 0 rfl
  have c1 := alloc_cell w #[.int .i64 (f : Int), .int .i64 (s : Int), .slice A le.length c] 83 1 rfl
  have c2 := alloc_cell w #[.int .i64 (f : Int), .int .i64 (s : Int), .slice A le.length c] 83 2 rfl
  have z0 := alloc_lt w (.cells #[.int .i64 (f : Int), .int .i64 (s : Int), .slice A le.length c] 83)
  have hz0 := World.size_alloc w (.cells #[.int .i64 (f : Int), .int .i64 (s : Int), .slice A le.length c] 83)
  go_enter Tryz.func91, Tryz.ntmps91
  go_wp2
  generalize w.alloc (.cells #[.int .i64 (f : Int), .int .i64 (s : Int), .slice A le.length c] 83) = w0 at *
  generalize hb0 : w.heap.size = b at *
  replace hb0 := hid hb0
  have hz0' := hid hz0
  clear hz0
  go_loopw [5, 6] (fun v i wr => ∃ k : Nat, k ≤ m ∧ i = .int .i64 k ∧ Own encBool 4 1 (b + 1) wr v (P.take k) ∧ Kp w0 wr) (fun _ i _ => m - (intOf i).toNat)
  case atStart => exact ⟨0, Nat.zero_le _, rfl, by
    have h := Own.lit (base := b + 1) (e := 4) (size := 1) encBool w0 #[] [] (by have := hz0'.out; omega) (by simp) rfl rfl
    rw [hz0'.out] at h
    exact h, (Kp.refl _).alloc _⟩
  case round =>
    obtain ⟨k, hk, rfl, hown, hbel⟩ := hrel
    have d0 := hbel.cellS c0
    have d1 := hbel.cellS c1
    have d2 := hbel.cellS c2
    have hgl := block_lt_of_cell d0
    have hsz := hbel.size
    have hbk := k0.trans hbel
    by_cases hlt : k < m
    · have hjl : k < le.length := by rw [Hl.out]; exact hlt
      have hjb : f + k < box.length := by omega
      obtain ⟨gb, ob, rfl, hgb, i1, i2⟩ := (hb.keep (pl_stable _) hbk).rng hjb
      obtain ⟨pl, ol, rfl, hpl, cl⟩ := (hl.keep (pl_stable _) hbk).ints (k := k) hjl
      have HS := hid (HPT.out k hjl)
      have hx1 : le.getD k 0 = le[k] := by rw [List.getD_eq_getElem?_getD, List.getElem?_eq_getElem hjl]; rfl
      have hx2 : pick box ((f : Int) + (k : Int)) = box[f + k] := by rw [show (f : Int) + (k : Int) = ((f + k : Nat) : Int) by push_cast; rfl]; exact pick_at box (f + k) hjb
      rw [hx1, hx2] at HS
      clear hx1 hx2
      have hel : (P.take k).length = k := by rw [List.length_take]; have := HPL.out; omega
      generalize le[k] = y at *
      generalize box[f + k].lo = z at *
      generalize box[f + k].hi = z2 at *
      generalize P.take k = L at *
      obtain ⟨A5, c5, rfl, _, _⟩ := hown.form
      have q1 : (0 : Int) ≤ (f : Int) + (k : Int) := by omega
      have q2 : (f : Int) + (k : Int) < box.length := by omega
      have q3 : (k : Int) < le.length := by omega
      have q4 : ((f : Int) + (k : Int)).toNat = f + k := by omega
      obtain ⟨hw1, hw2⟩ : wrap64 ((f : Int) + (k : Int)) = (f : Int) + (k : Int) ∧ IntKind.i64.wrap ((f : Int) + (k : Int)) = (f : Int) + (k : Int) := ⟨IntWalk.wrap64_in _ (by omega), IntWalk.i64_in _ (by omega)⟩
      have q5 : (k : Int) < m := by omega
      replace hel := hid hel
      clear hb hl
      go_upto_region 5 with (fail)
      refine G2.wp_region_growT Kp [] 16 35 (G2.pvL [G2.eqv (.slice A5 L.length c5), G2.eqv (.slice (some ⟨gb, ob, none⟩) box.length cb), G2.eqv (.pointer (some ⟨b, 0, none⟩)), G2.eqv (.int .i64 (f : Int)), G2.eqv (.int .i64 (k : Int)), G2.eqv (.int .i64 ((f : Int) + (k : Int))), G2.eqv (.pointer (some ⟨gb, ob + (f + k) * 2, none⟩)), G2.eqv (.pointer (some ⟨gb, ob + (f + k) * 2, none⟩)), G2.eqv (.int .i64 z), G2.eqv (.pointer (some ⟨b, 2, none⟩)), G2.eqv (.slice (some ⟨pl, ol, none⟩) le.length c), G2.eqv (.int .i64 (k : Int)), G2.eqv (.pointer (some ⟨pl, ol + k, none⟩)), G2.eqv (.int .i64 y), G2.eqv (.bool (decide (y ≤ z))), (G2.newSl encBool 1 [decide (y ≤ z)])]) (by kernel_rfl) (by kernel_rfl) rfl (fun x => Kp.refl x) (fun _ _ _ h k => h.trans k) (Kp.refl _).drew (fun _ _ _ _ _ h => h) (G2.pvL_keep (G2.stabL_cons (G2.stab_eq _) (G2.stabL_cons (G2.stab_eq _) (G2.stabL_cons (G2.stab_eq _) (G2.stabL_cons (G2.stab_eq _) (G2.stabL_cons (G2.stab_eq _) (G2.stabL_cons (G2.stab_eq _) (G2.stabL_cons (G2.stab_eq _) (G2.stabL_cons (G2.stab_eq _) (G2.stabL_cons (G2.stab_eq _) (G2.stabL_cons (G2.stab_eq _) (G2.stabL_cons (G2.stab_eq _) (G2.stabL_cons (G2.stab_eq _) (G2.stabL_cons (G2.stab_eq _) (G2.stabL_cons (G2.stab_eq _) (G2.stabL_cons (G2.stab_eq _) (G2.stabL_cons (G2.stab_newSl _ _ _) (G2.stabL_nil)))))))))))))))))) (G2.stepsT_cons 0 ?_ (G2.stepsT_cons 1 ?_ (G2.stepsT_cons 2 ?_ (G2.stepsT_cons 3 ?_ (G2.stepsT_cons 4 ?_ (G2.stepsT_cons 5 ?_ (G2.stepsT_cons 6 ?_ (G2.stepsT_cons 7 ?_ (G2.stepsT_cons 8 ?_ (G2.stepsT_cons 9 ?_ (G2.stepsT_cons 10 ?_ (G2.stepsT_cons 11 ?_ (G2.stepsT_cons 12 ?_ (G2.stepsT_cons 13 ?_ (G2.stepsT_cons 14 ?_ (G2.stepsT_cons 15 ?_ (G2.stepsT_nil _ _ _))))))))))))))))) ?_ ?_
      · intro a w' hk hF hD K hK
        have h5 : a.tmps[5]?.getD undef = .slice A5 L.length c5 := hF 5 (by kernel_rfl)
        clear hF hD
        go_simp
        exact hK.out _ _ (Kp.refl _) rfl
      · intro a w' hk hF hD K hK
        have h1 : a.tmps[1]?.getD undef = .slice (some ⟨gb, ob, none⟩) box.length cb := hF 1 (by kernel_rfl)
        clear hF hD
        go_simp
        exact hK.out _ _ (Kp.refl _) rfl
      · intro a w' hk hF hD K hK
        have h2 : a.tmps[2]?.getD undef = .pointer (some ⟨b, 0, none⟩) := hF 2 (by kernel_rfl)
        clear hF hD
        go_simp
        exact hK.out _ _ (Kp.refl _) rfl
      · intro a w' hk hF hD K hK
        have h19 : a.tmps[19]?.getD undef = .pointer (some ⟨b, 0, none⟩) := hD 2 (by kernel_rfl)
        clear hF hD
        have z1 := hk.cellS d0
        go_simp
        exact hK.out _ _ (Kp.refl _) rfl
      · intro a w' hk hF hD K hK
        have h6 : a.tmps[6]?.getD undef = .int .i64 (k : Int) := hF 6 (by kernel_rfl)
        clear hF hD
        go_simp
        exact hK.out _ _ (Kp.refl _) rfl
      · intro a w' hk hF hD K hK
        have h20 : a.tmps[20]?.getD undef = .int .i64 (f : Int) := hD 3 (by kernel_rfl)
        have h21 : a.tmps[21]?.getD undef = .int .i64 (k : Int) := hD 4 (by kernel_rfl)
        clear hF hD
        go_simp
        exact hK.out _ _ (Kp.refl _) rfl
      · intro a w' hk hF hD K hK
        have h18 : a.tmps[18]?.getD undef = .slice (some ⟨gb, ob, none⟩) box.length cb := hD 1 (by kernel_rfl)
        have h22 : a.tmps[22]?.getD undef = .int .i64 ((f : Int) + (k : Int)) := hD 5 (by kernel_rfl)
        clear hF hD
        go_simp
        exact hK.out _ _ (Kp.refl _) rfl
      · intro a w' hk hF hD K hK
        have h23 : a.tmps[23]?.getD undef = .pointer (some ⟨gb, ob + (f + k) * 2, none⟩) := hD 6 (by kernel_rfl)
        clear hF hD
        go_simp
        exact hK.out _ _ (Kp.refl _) rfl
      · intro a w' hk hF hD K hK
        have h24 : a.tmps[24]?.getD undef = .pointer (some ⟨gb, ob + (f + k) * 2, none⟩) := hD 7 (by kernel_rfl)
        clear hF hD
        have z1 := hk.cellS i1
        go_simp
        exact hK.out _ _ (Kp.refl _) rfl
      · intro a w' hk hF hD K hK
        have h2 : a.tmps[2]?.getD undef = .pointer (some ⟨b, 0, none⟩) := hF 2 (by kernel_rfl)
        clear hF hD
        go_simp
        exact hK.out _ _ (Kp.refl _) rfl
      · intro a w' hk hF hD K hK
        have h26 : a.tmps[26]?.getD undef = .pointer (some ⟨b, 2, none⟩) := hD 9 (by kernel_rfl)
        clear hF hD
        have z1 := hk.cellS d2
        go_simp
        exact hK.out _ _ (Kp.refl _) rfl
      · intro a w' hk hF hD K hK
        have h6 : a.tmps[6]?.getD undef = .int .i64 (k : Int) := hF 6 (by kernel_rfl)
        clear hF hD
        go_simp
        exact hK.out _ _ (Kp.refl _) rfl
      · intro a w' hk hF hD K hK
        have h27 : a.tmps[27]?.getD undef = .slice (some ⟨pl, ol, none⟩) le.length c := hD 10 (by kernel_rfl)
        have h28 : a.tmps[28]?.getD undef = .int .i64 (k : Int) := hD 11 (by kernel_rfl)
        clear hF hD
        go_simp
        exact hK.out _ _ (Kp.refl _) rfl
      · intro a w' hk hF hD K hK
        have h29 : a.tmps[29]?.getD undef = .pointer (some ⟨pl, ol + k, none⟩) := hD 12 (by kernel_rfl)
        clear hF hD
        have z1 := hk.cellS cl
        go_simp
        exact hK.out _ _ (Kp.refl _) rfl
      · intro a w' hk hF hD K hK
        have h25 : a.tmps[25]?.getD undef = .int .i64 z := hD 8 (by kernel_rfl)
        have h30 : a.tmps[30]?.getD undef = .int .i64 y := hD 13 (by kernel_rfl)
        clear hF hD
        go_simp
        exact hK.out _ _ (Kp.refl _) rfl
      · intro a w' hk hF hD K hK
        have h31 : a.tmps[31]?.getD undef = .bool (decide (y ≤ z)) := hD 14 (by kernel_rfl)
        clear hF hD
        go_simp
        exact hK.out _ _ ((Kp.refl w').alloc (.cells #[.bool (decide (y ≤ z))] 4)) (G2.newSl_one (cs := [.bool (decide (y ≤ z))]) w' 4 rfl rfl)
      · exact fun i0 hi0 => by simp at hi0
      intro v w9 k9 hv
      have v0 : v 0 = .slice A5 L.length c5 := hv 0 (by omega)
      have v15 : (G2.newSl encBool 1 [decide (y ≤ z)]) (v 15) w9 := hv 15 (by omega)
      clear hv
      obtain ⟨p, v15', hp⟩ := v15
      simp only [G2.growPut, G2.gSlot, List.getElem?_toArray, List.getElem?_cons_zero, List.getElem?_cons_succ, Option.bind_some, List.setIfInBounds_toArray, List.set_cons_zero, List.set_cons_succ, List.drop_succ_cons, List.drop_zero, v0, v15']
      have hown9 := hown.kp k9
      have hs9 := k9.size
      clear hown d0 d1 d2 i1 i2 cl
      go_wp2_with (at_builtin; refine wpl_append_flat rfl (.tmp 17) (.tmp 32) rfl stBoolM encBool_len encBool_one rfl hown9 rfl hp (by have := hel.out; simp; omega) (by have := hel.out; simp; omega) (by omega) ?_; intro v1 w1 hown1 hgrow1 hat1 hnil1)
      go_roundw
      case rel => exact ⟨k + 1, by omega, by go_num, by rw [HS.out]; exact hown1, (hbel.trans k9).grown hgrow1 (fun q hq => by have := hown9.ge q hq; have := hz0'.out; omega)⟩
      case measure => simp [intOf]; omega
    · have hkm : k = m := by omega
      have HT : Hid (P.take k = P) := hid (List.take_of_length_le (by rw [HPL.out, Hl.out]; omega))
      subst hkm
      have g0 : decide ((k : Int) < (k : Int)) = false := decide_eq_false (by omega)
      rw [HT.out] at hown
      obtain ⟨A5, c5, rfl, _, _⟩ := hown.form
      go_wp2
      go_ret
      exact ⟨_, rfl, hown.less (by have := hb0.out; omega), hbk⟩
theorem pathPub_self {s : Nat} {es : List Bool} {a : Nat} (ho : openB (s : Int) es.length = true) (ha : a < s) : (pathPub (s : Int) es (a : Int) (a : Int)).length ≠ 0 := by
  unfold pathPub
  rw [if_pos ⟨ho, ⟨by omega, by omega⟩, by omega, by omega⟩]
  unfold pathF
  simp only [Int.toNat_natCast]
  cases s with
  | zero => omega
  | succ n =>
    rw [bfs]
    simp [castL]
set_option maxRecDepth 8000 in
set_option maxHeartbeats 8000000 in
theorem rCut_any (va vb : Value) (g : Gr) (box : List Rng) (k : Nat) (w : World) (hg : GrV w va g) (hb : Rngs w vb box) (hok : grOk box.length g = true) (hn : box.length ≤ 1000) (hk : k < g.least.length) :
    Calls Tryz.prog 83 #[va, vb, .int .i64 (k : Int)] w fun e w' => e = .returned (.agg #[.int .i64 (cutG g box k).lo, .int .i64 (cutG g box k).hi]) ∧ Kp w w' := by
  obtain ⟨f, s, hf, hs, hs1, hs6, hfs, hll, h36⟩ := gr_facts hok
  have hfar : ∀ x ∈ g.least, farI x = false := by
    have h := hok
    unfold grOk at h
    rw [Bool.and_eq_true, Bool.not_eq_true'] at h
    intro x hx
    have := List.any_eq_false.1 h.2 x hx
    simpa using this
  have HPr := hid (fun W hk1 hk2 => rPresent_any va vb g box W hk1 hk2 hok hn)
  have hg0 := hid hg
  have hb0' := hid hb
  have HC : Hid (cutG g box k = if g.least.getD k 0 ≤ (pick box (g.first + (k : Int))).hi ∧ closB g box k = true then ⟨(pick box (g.first + (k : Int))).lo, g.least.getD k 0 - 1⟩ else pick box (g.first + (k : Int))) := hid rfl
  have HCl : Hid (closB g box k = !decide ((pathPub g.size (presB g box) ((k : Int).tmod g.size) ((k : Int).tdiv g.size)).length = 0)) := hid rfl
  have hop : openB g.size (presB g box).length = true := by
    unfold openB
    rw [presB_len]
    simp
    rw [hs, hll]
    push_cast
    exact ⟨by omega, rfl⟩
  obtain ⟨A, c, rfl, hl⟩ := hg
  obtain ⟨Ab, cb, rfl, hcb, hmb⟩ := hb.form
  obtain ⟨hc, hm⟩ := hl.caps
  obtain ⟨fi, sz, le⟩ := g
  dsimp only at *
  subst hf hs
  have hjb : f + k < box.length := by omega
  have hx1 : le.getD k 0 = le[k] := by rw [List.getD_eq_getElem?_getD, List.getElem?_eq_getElem hk]; rfl
  have hx2 : pick box ((f : Int) + (k : Int)) = box[f + k] := by rw [show (f : Int) + (k : Int) = ((f + k : Nat) : Int) by push_cast; rfl]; exact pick_at box (f + k) hjb
  rw [hx1, hx2] at HC
  have hyb := hfar le[k] (List.getElem_mem hk)
  obtain ⟨gb, ob, rfl, hgb, i1, i2⟩ := hb.rng hjb
  obtain ⟨pl, ol, rfl, hpl, cl0⟩ := hl.ints (k := k) hk
  generalize le[k] = y at *
  generalize box[f + k] = bx at *
  obtain ⟨lo, hi⟩ := bx
  dsimp only at i1 i2 HC
  have hyb2 : -4000000 ≤ y ∧ y ≤ 4000000 := by
    unfold farI at hyb
    rw [Bool.or_eq_false_iff, decide_eq_false_iff_not, decide_eq_false_iff_not] at hyb
    omega
  have hkn : k ≤ 36 := by omega
  obtain ⟨qa, hqa⟩ : ∃ qa : Nat, qa = k / s := ⟨_, rfl⟩
  obtain ⟨qb, hqb⟩ : ∃ qb : Nat, qb = k % s := ⟨_, rfl⟩
  have hqal : qa ≤ k := by rw [hqa]; exact Nat.div_le_self _ _
  have hqas : qa < s := by rw [hqa]; exact (Nat.div_lt_iff_lt_mul (by omega)).2 (by omega)
  have hqbl : qb < s := by rw [hqb]; exact Nat.mod_lt _ (by omega)
  have ed : (k : Int) / (s : Int) = (qa : Int) := by rw [hqa]; simp
  have em : (k : Int) % (s : Int) = (qb : Int) := by rw [hqb]; simp
  have etd : (k : Int).tdiv (s : Int) = (qa : Int) := by rw [Int.tdiv_eq_ediv_of_nonneg (by omega), ed]
  have etm : (k : Int).tmod (s : Int) = (qb : Int) := by rw [Int.tmod_eq_emod_of_nonneg (by omega), em]
  rw [etd, etm] at HCl
  obtain ⟨wa1, wa2, wb1, wb2⟩ : wrap64 (qa : Int) = (qa : Int) ∧ IntKind.i64.wrap (qa : Int) = (qa : Int) ∧ wrap64 (qb : Int) = (qb : Int) ∧ IntKind.i64.wrap (qb : Int) = (qb : Int) :=
    ⟨IntWalk.wrap64_in _ (by omega), IntWalk.i64_in _ (by omega), IntWalk.wrap64_in _ (by omega), IntWalk.i64_in _ (by omega)⟩
  have wy1 : wrap64 (y - 1) = y - 1 := IntWalk.wrap64_in _ (by omega)
  have wy2 : IntKind.i64.wrap (y - 1) = y - 1 := IntWalk.i64_in _ (by omega)
  have hself : qa = qb → closB ⟨(f : Int), (s : Int), le⟩ box k = true := fun e => by
    rw [HCl.out, e, Bool.not_eq_true', decide_eq_false_iff_not]
    exact pathPub_self hop hqbl
  replace hself := hid hself
  generalize closB ⟨(f : Int), (s : Int), le⟩ box k = cb1 at *
  generalize cutG ⟨(f : Int), (s : Int), le⟩ box k = R at *
  have ka := (Kp.refl w).alloc (.cells #[.int .i64 (f : Int), .int .i64 (s : Int), .slice (some ⟨pl, ol, none⟩) le.length c] 83)
  have kb := (Kp.refl (w.alloc (.cells #[.int .i64 (f : Int), .int .i64 (s : Int), .slice (some ⟨pl, ol, none⟩) le.length c] 83))).alloc (.cells #[.int .i64 0, .int .i64 0] 57)
  have B0 := (Bx.new w #[.int .i64 (f : Int), .int .i64 (s : Int), .slice (some ⟨pl, ol, none⟩) le.length c] 83).kp kb (by simp)
  have B1 := Bx.new (w.alloc (.cells #[.int .i64 (f : Int), .int .i64 (s : Int), .slice (some ⟨pl, ol, none⟩) le.length c] 83)) #[.int .i64 0, .int .i64 0] 57
  have zb : ((w.alloc (.cells #[.int .i64 (f : Int), .int .i64 (s : Int), .slice (some ⟨pl, ol, none⟩) le.length c] 83)).alloc (.cells #[.int .i64 0, .int .i64 0] 57)).heap.size = w.heap.size + 2 := by simp
  rw [World.size_alloc] at B1
  have kab := ka.trans kb
  have q1 : (0 : Int) ≤ (f : Int) + (k : Int) := by omega
  have q2 : (f : Int) + (k : Int) < (box.length : Int) := by omega
  have q4 : ((f : Int) + (k : Int)).toNat = f + k := by omega
  obtain ⟨hw1, hw2⟩ : wrap64 ((f : Int) + (k : Int)) = (f : Int) + (k : Int) ∧ IntKind.i64.wrap ((f : Int) + (k : Int)) = (f : Int) + (k : Int) := ⟨IntWalk.wrap64_in _ (by omega), IntWalk.i64_in _ (by omega)⟩
  have q5 : (k : Int) < (le.length : Int) := by omega
  have q6 : (0 : Int) ≤ (k : Int) := by omega
  have hs0 : ¬ (s : Int) = 0 := by omega
  have hs2 : (s : Int) ≠ 0 := by omega
  have hs3 : ¬ s = 0 := by omega
  clear hb hl hok hfar hx1 hx2 hyb hop ka
  replace hqa := hid hqa
  replace hll := hid hll
  replace hqb := hid hqb
  go_enter Tryz.func83, Tryz.ntmps83
  go_upto_region 1 with (fail)
  generalize (w.alloc (.cells #[.int .i64 (f : Int), .int .i64 (s : Int), .slice (some ⟨pl, ol, none⟩) le.length c] 83)).alloc (.cells #[.int .i64 0, .int .i64 0] 57) = w1 at *
  obtain ⟨b0, hb0⟩ : ∃ b0, b0 = w.heap.size := ⟨_, rfl⟩
  obtain ⟨b1, hb1⟩ : ∃ b1, b1 = b0 + 1 := ⟨_, rfl⟩
  rw [← hb0, ← hb1] at B1 ⊢
  rw [← hb0] at B0 zb
  have c0 := B0.cell (j := 0) rfl
  have c1 := B0.cell (j := 1) rfl
  have c2 := B0.cell (j := 2) rfl
  have j1 := kab.cellS i1
  have j2 := kab.cellS i2
  have hl0 := B0.lt (by simp)
  have hl1 := B1.lt (by simp)
  have kc := (Kp.refl w1).alloc (.cells #[.int .i64 lo, .int .i64 hi] 57)
  have B2 := Bx.new w1 #[.int .i64 lo, .int .i64 hi] 57
  have h012 : b0 ≠ b1 ∧ b0 ≠ w1.heap.size ∧ b1 ≠ w1.heap.size := by omega
  have hwb1 : w.heap.size ≤ b1 ∧ w.heap.size ≤ w1.heap.size := by omega
  clear i1 i2
  replace hb0 := hid hb0
  replace hb1 := hid hb1
  replace zb := hid zb
  go_upto_region 2 with (fail)
  generalize w1.alloc (.cells #[.int .i64 lo, .int .i64 hi] 57) = w2 at *
  obtain ⟨b2, hb2⟩ : ∃ b2, b2 = w1.heap.size := ⟨_, rfl⟩
  rw [← hb2] at B2 h012 hwb1 ⊢
  replace B0 := B0.kp kc hl0
  replace B1 := B1.kp kc hl1
  have k2 := kab.trans kc
  clear c0 c1 c2 j1 j2 hl0 hl1 kab kb kc
  have c0 := B0.cell (j := 0) rfl
  have c1 := B0.cell (j := 1) rfl
  have c2 := B0.cell (j := 2) rfl
  have o0 := B2.cell (j := 0) rfl
  have o1 := B2.cell (j := 1) rfl
  have cl := k2.cellS cl0
  have hl0 := B0.lt (by simp)
  have hl1 := B1.lt (by simp)
  have hl2 := B2.lt (by simp)
  replace hb2 := hid hb2
  go_upto_region 4 with (fail)
  by_cases h1 : y ≤ hi
  · have e1 : decide (y ≤ hi) = true := decide_eq_true h1
    by_cases h2 : qa = qb
    · have HR : Hid (R = ⟨lo, y - 1⟩) := hid (by rw [HC.out, if_pos ⟨h1, hself.out h2⟩])
      have e2 : ((qa : Int) == (qb : Int)) = true := by rw [h2]; simp
      have e3 : (qa == qb) = true := by rw [h2]; simp
      replace h2 := hid h2
      refine G2.wp_region_growT Kp [] 24 61 (G2.pvL [G2.eqv (.pointer (some ⟨b2, 1, none⟩)), G2.eqv (.int .i64 hi), G2.eqv (.pointer (some ⟨b0, 2, none⟩)), G2.eqv (.slice (some ⟨pl, ol, none⟩) le.length c), G2.eqv (.int .i64 (k : Int)), G2.eqv (.pointer (some ⟨pl, ol + k, none⟩)), G2.eqv (.int .i64 y), G2.eqv (.bool true), G2.eqv (.bool true), G2.eqv (.int .i64 (qa : Int)), G2.eqv (.int .i64 (qb : Int)), G2.eqv (.bool true), G2.eqv (.bool true), G2.eqv (undef), G2.eqv (undef), G2.eqv (undef), G2.eqv (undef), G2.eqv (undef), G2.eqv (undef), G2.eqv (undef), G2.eqv (undef), G2.eqv (undef), G2.eqv (undef), G2.eqv (.bool true)]) (by kernel_rfl) (by kernel_rfl) rfl (fun x => Kp.refl x) (fun _ _ _ h k => h.trans k) (Kp.refl _).drew (fun _ _ _ _ _ h => h) (G2.pvL_keep (G2.stabL_cons (G2.stab_eq _) (G2.stabL_cons (G2.stab_eq _) (G2.stabL_cons (G2.stab_eq _) (G2.stabL_cons (G2.stab_eq _) (G2.stabL_cons (G2.stab_eq _) (G2.stabL_cons (G2.stab_eq _) (G2.stabL_cons (G2.stab_eq _) (G2.stabL_cons (G2.stab_eq _) (G2.stabL_cons (G2.stab_eq _) (G2.stabL_cons (G2.stab_eq _) (G2.stabL_cons (G2.stab_eq _) (G2.stabL_cons (G2.stab_eq _) (G2.stabL_cons (G2.stab_eq _) (G2.stabL_cons (G2.stab_eq _) (G2.stabL_cons (G2.stab_eq _) (G2.stabL_cons (G2.stab_eq _) (G2.stabL_cons (G2.stab_eq _) (G2.stabL_cons (G2.stab_eq _) (G2.stabL_cons (G2.stab_eq _) (G2.stabL_cons (G2.stab_eq _) (G2.stabL_cons (G2.stab_eq _) (G2.stabL_cons (G2.stab_eq _) (G2.stabL_cons (G2.stab_eq _) (G2.stabL_cons (G2.stab_eq _) (G2.stabL_nil)))))))))))))))))))))))))) (G2.stepsT_cons 0 ?_ (G2.stepsT_cons 1 ?_ (G2.stepsT_cons 2 ?_ (G2.stepsT_cons 3 ?_ (G2.stepsT_cons 4 ?_ (G2.stepsT_cons 5 ?_ (G2.stepsT_cons 6 ?_ (G2.stepsT_cons 7 ?_ (G2.stepsT_cons 8 ?_ (G2.stepsT_cons 9 ?_ (G2.stepsT_cons 10 ?_ (G2.stepsT_cons 11 ?_ (G2.stepsT_cons 12 ?_ (G2.stepsT_cons 13 ?_ (G2.stepsT_cons 14 ?_ (G2.stepsT_cons 15 ?_ (G2.stepsT_cons 16 ?_ (G2.stepsT_cons 17 ?_ (G2.stepsT_cons 18 ?_ (G2.stepsT_cons 19 ?_ (G2.stepsT_cons 20 ?_ (G2.stepsT_cons 21 ?_ (G2.stepsT_cons 22 ?_ (G2.stepsT_cons 23 ?_ (G2.stepsT_nil _ _ _))))))))))))))))))))))))) ?_ ?_
      · intro a w' hk hF hD K hK
        have h7 : a.tmps[7]?.getD undef = .pointer (some ⟨b2, 0, none⟩) := hF 7 (by kernel_rfl)
        clear hF hD
        go_simp
        exact hK.out _ _ (Kp.refl _) rfl
      · intro a w' hk hF hD K hK
        have h25 : a.tmps[25]?.getD undef = .pointer (some ⟨b2, 1, none⟩) := hD 0 (by kernel_rfl)
        clear hF hD
        have z0 := hk.cellS o1
        go_simp
        exact hK.out _ _ (Kp.refl _) rfl
      · intro a w' hk hF hD K hK
        have h3 : a.tmps[3]?.getD undef = .pointer (some ⟨b0, 0, none⟩) := hF 3 (by kernel_rfl)
        clear hF hD
        go_simp
        exact hK.out _ _ (Kp.refl _) rfl
      · intro a w' hk hF hD K hK
        have h27 : a.tmps[27]?.getD undef = .pointer (some ⟨b0, 2, none⟩) := hD 2 (by kernel_rfl)
        clear hF hD
        have z0 := hk.cellS c2
        go_simp
        exact hK.out _ _ (Kp.refl _) rfl
      · intro a w' hk hF hD K hK
        have h2 : a.tmps[2]?.getD undef = .int .i64 (k : Int) := hF 2 (by kernel_rfl)
        clear hF hD
        go_simp
        exact hK.out _ _ (Kp.refl _) rfl
      · intro a w' hk hF hD K hK
        have h28 : a.tmps[28]?.getD undef = .slice (some ⟨pl, ol, none⟩) le.length c := hD 3 (by kernel_rfl)
        have h29 : a.tmps[29]?.getD undef = .int .i64 (k : Int) := hD 4 (by kernel_rfl)
        clear hF hD
        go_simp
        exact hK.out _ _ (Kp.refl _) rfl
      · intro a w' hk hF hD K hK
        have h30 : a.tmps[30]?.getD undef = .pointer (some ⟨pl, ol + k, none⟩) := hD 5 (by kernel_rfl)
        clear hF hD
        have z0 := hk.cellS cl
        go_simp
        exact hK.out _ _ (Kp.refl _) rfl
      · intro a w' hk hF hD K hK
        have h26 : a.tmps[26]?.getD undef = .int .i64 hi := hD 1 (by kernel_rfl)
        have h31 : a.tmps[31]?.getD undef = .int .i64 y := hD 6 (by kernel_rfl)
        clear hF hD
        go_simp
        exact hK.out _ _ (Kp.refl _) rfl
      · intro a w' hk hF hD K hK
        have h32 : a.tmps[32]?.getD undef = .bool true := hD 7 (by kernel_rfl)
        clear hF hD
        go_simp
        exact hK.out _ _ (Kp.refl _) rfl
      · intro a w' hk hF hD K hK
        have h8 : a.tmps[8]?.getD undef = .int .i64 (qa : Int) := hF 8 (by kernel_rfl)
        have h33 : a.tmps[33]?.getD undef = .bool true := hD 8 (by kernel_rfl)
        have g33 := guard_get h33
        clear hF hD
        go_simp
        exact hK.out _ _ (Kp.refl _) rfl
      · intro a w' hk hF hD K hK
        have h9 : a.tmps[9]?.getD undef = .int .i64 (qb : Int) := hF 9 (by kernel_rfl)
        have h33 : a.tmps[33]?.getD undef = .bool true := hD 8 (by kernel_rfl)
        have g33 := guard_get h33
        clear hF hD
        go_simp
        exact hK.out _ _ (Kp.refl _) rfl
      · intro a w' hk hF hD K hK
        have h34 : a.tmps[34]?.getD undef = .int .i64 (qa : Int) := hD 9 (by kernel_rfl)
        have h35 : a.tmps[35]?.getD undef = .int .i64 (qb : Int) := hD 10 (by kernel_rfl)
        have h33 : a.tmps[33]?.getD undef = .bool true := hD 8 (by kernel_rfl)
        have g33 := guard_get h33
        clear hF hD
        go_simp
        exact hK.out _ _ (Kp.refl _) rfl
      · intro a w' hk hF hD K hK
        have h36 : a.tmps[36]?.getD undef = .bool true := hD 11 (by kernel_rfl)
        have h33 : a.tmps[33]?.getD undef = .bool true := hD 8 (by kernel_rfl)
        have g33 := guard_get h33
        clear hF hD
        go_simp
        exact hK.out _ _ (Kp.refl _) rfl
      · intro a w' hk hF hD K hK
        have h3 : a.tmps[3]?.getD undef = .pointer (some ⟨b0, 0, none⟩) := hF 3 (by kernel_rfl)
        have h37 : a.tmps[37]?.getD undef = .bool true := hD 12 (by kernel_rfl)
        have g37 := guard_get h37
        clear hF hD
        go_simp
        exact hK.out _ _ (Kp.refl _) rfl
      · intro a w' hk hF hD K hK
        have h38 : a.tmps[38]?.getD undef = undef := hD 13 (by kernel_rfl)
        have h37 : a.tmps[37]?.getD undef = .bool true := hD 12 (by kernel_rfl)
        have g37 := guard_get h37
        clear hF hD
        go_simp
        exact hK.out _ _ (Kp.refl _) rfl
      · intro a w' hk hF hD K hK
        have h3 : a.tmps[3]?.getD undef = .pointer (some ⟨b0, 0, none⟩) := hF 3 (by kernel_rfl)
        have h37 : a.tmps[37]?.getD undef = .bool true := hD 12 (by kernel_rfl)
        have g37 := guard_get h37
        clear hF hD
        go_simp
        exact hK.out _ _ (Kp.refl _) rfl
      · intro a w' hk hF hD K hK
        have h1 : a.tmps[1]?.getD undef = .slice (some ⟨gb, ob, none⟩) box.length cb := hF 1 (by kernel_rfl)
        have h37 : a.tmps[37]?.getD undef = .bool true := hD 12 (by kernel_rfl)
        have g37 := guard_get h37
        clear hF hD
        go_simp
        exact hK.out _ _ (Kp.refl _) rfl
      · intro a w' hk hF hD K hK
        have h40 : a.tmps[40]?.getD undef = undef := hD 15 (by kernel_rfl)
        have h41 : a.tmps[41]?.getD undef = undef := hD 16 (by kernel_rfl)
        have h37 : a.tmps[37]?.getD undef = .bool true := hD 12 (by kernel_rfl)
        have g37 := guard_get h37
        clear hF hD
        go_simp
        exact hK.out _ _ (Kp.refl _) rfl
      · intro a w' hk hF hD K hK
        have h9 : a.tmps[9]?.getD undef = .int .i64 (qb : Int) := hF 9 (by kernel_rfl)
        have h37 : a.tmps[37]?.getD undef = .bool true := hD 12 (by kernel_rfl)
        have g37 := guard_get h37
        clear hF hD
        go_simp
        exact hK.out _ _ (Kp.refl _) rfl
      · intro a w' hk hF hD K hK
        have h8 : a.tmps[8]?.getD undef = .int .i64 (qa : Int) := hF 8 (by kernel_rfl)
        have h37 : a.tmps[37]?.getD undef = .bool true := hD 12 (by kernel_rfl)
        have g37 := guard_get h37
        clear hF hD
        go_simp
        exact hK.out _ _ (Kp.refl _) rfl
      · intro a w' hk hF hD K hK
        have h39 : a.tmps[39]?.getD undef = undef := hD 14 (by kernel_rfl)
        have h42 : a.tmps[42]?.getD undef = undef := hD 17 (by kernel_rfl)
        have h43 : a.tmps[43]?.getD undef = undef := hD 18 (by kernel_rfl)
        have h44 : a.tmps[44]?.getD undef = undef := hD 19 (by kernel_rfl)
        have h37 : a.tmps[37]?.getD undef = .bool true := hD 12 (by kernel_rfl)
        have g37 := guard_get h37
        clear hF hD
        go_simp
        exact hK.out _ _ (Kp.refl _) rfl
      · intro a w' hk hF hD K hK
        have h45 : a.tmps[45]?.getD undef = undef := hD 20 (by kernel_rfl)
        have h37 : a.tmps[37]?.getD undef = .bool true := hD 12 (by kernel_rfl)
        have g37 := guard_get h37
        clear hF hD
        go_simp
        exact hK.out _ _ (Kp.refl _) rfl
      · intro a w' hk hF hD K hK
        have h46 : a.tmps[46]?.getD undef = undef := hD 21 (by kernel_rfl)
        have h37 : a.tmps[37]?.getD undef = .bool true := hD 12 (by kernel_rfl)
        have g37 := guard_get h37
        clear hF hD
        go_simp
        exact hK.out _ _ (Kp.refl _) rfl
      · intro a w' hk hF hD K hK
        have h37 : a.tmps[37]?.getD undef = .bool true := hD 12 (by kernel_rfl)
        have h47 : a.tmps[47]?.getD undef = undef := hD 22 (by kernel_rfl)
        have h33 : a.tmps[33]?.getD undef = .bool true := hD 8 (by kernel_rfl)
        have g33 := guard_get h33
        clear hF hD
        go_simp
        exact hK.out _ _ (Kp.refl _) rfl
      · exact fun i0 hi0 => by simp at hi0
      intro v w9 k9 hv
      have v8 : v 8 = .bool true := hv 8 (by omega)
      have v23 : v 23 = .bool true := hv 23 (by omega)
      clear hv
      simp only [G2.growPut, G2.gSlot, List.getElem?_toArray, List.getElem?_cons_zero, List.getElem?_cons_succ, Option.bind_some, List.setIfInBounds_toArray, List.set_cons_zero, List.set_cons_succ, List.drop_succ_cons, List.drop_zero, v8, v23]
      have B0k := B0.kp k9 hl0
      have B2k := B2.kp k9 hl2
      have o0 := B2k.cell (j := 0) rfl
      have o1 := B2k.cell (j := 1) rfl
      have g1 := B2k.free (j := 1) (by simp)
      have c2 := B0k.cell (j := 2) rfl
      have cl := k9.cellS cl
      have hm : (if y - 1 < hi then y - 1 else hi) = y - 1 := if_pos (by omega)
      have hl0 := B0k.lt (by simp)
      have hl2 := B2k.lt (by simp)
      go_upto_region 5 with (fail)
      have k9x' := k2.trans k9
      have kq := k9
      refine G2.wp_region_growT Kp [] 9 61 (G2.pvL [G2.eqv (.pointer (some ⟨b2, 1, none⟩)), G2.eqv (.int .i64 hi), G2.eqv (.pointer (some ⟨b0, 2, none⟩)), G2.eqv (.slice (some ⟨pl, ol, none⟩) le.length c), G2.eqv (.int .i64 (k : Int)), G2.eqv (.pointer (some ⟨pl, ol + k, none⟩)), G2.eqv (.int .i64 y), G2.eqv (.int .i64 (y - 1)), G2.eqv (.int .i64 (y - 1))]) (by kernel_rfl) (by kernel_rfl) rfl (fun x => Kp.refl x) (fun _ _ _ h k => h.trans k) (Kp.refl _).drew (fun _ _ _ _ _ h => h) (G2.pvL_keep (G2.stabL_cons (G2.stab_eq _) (G2.stabL_cons (G2.stab_eq _) (G2.stabL_cons (G2.stab_eq _) (G2.stabL_cons (G2.stab_eq _) (G2.stabL_cons (G2.stab_eq _) (G2.stabL_cons (G2.stab_eq _) (G2.stabL_cons (G2.stab_eq _) (G2.stabL_cons (G2.stab_eq _) (G2.stabL_cons (G2.stab_eq _) (G2.stabL_nil))))))))))) (G2.stepsT_cons 0 ?_ (G2.stepsT_cons 1 ?_ (G2.stepsT_cons 2 ?_ (G2.stepsT_cons 3 ?_ (G2.stepsT_cons 4 ?_ (G2.stepsT_cons 5 ?_ (G2.stepsT_cons 6 ?_ (G2.stepsT_cons 7 ?_ (G2.stepsT_cons 8 ?_ (G2.stepsT_nil _ _ _)))))))))) ?_ ?_
      · intro a w' hk hF hD K hK
        have h7 : a.tmps[7]?.getD undef = .pointer (some ⟨b2, 0, none⟩) := hF 7 (by kernel_rfl)
        clear hF hD
        go_simp
        exact hK.out _ _ (Kp.refl _) rfl
      · intro a w' hk hF hD K hK
        have h50 : a.tmps[50]?.getD undef = .pointer (some ⟨b2, 1, none⟩) := hD 0 (by kernel_rfl)
        clear hF hD
        have z0 := hk.cellS o1
        go_simp
        exact hK.out _ _ (Kp.refl _) rfl
      · intro a w' hk hF hD K hK
        have h3 : a.tmps[3]?.getD undef = .pointer (some ⟨b0, 0, none⟩) := hF 3 (by kernel_rfl)
        clear hF hD
        go_simp
        exact hK.out _ _ (Kp.refl _) rfl
      · intro a w' hk hF hD K hK
        have h52 : a.tmps[52]?.getD undef = .pointer (some ⟨b0, 2, none⟩) := hD 2 (by kernel_rfl)
        clear hF hD
        have z0 := hk.cellS c2
        go_simp
        exact hK.out _ _ (Kp.refl _) rfl
      · intro a w' hk hF hD K hK
        have h2 : a.tmps[2]?.getD undef = .int .i64 (k : Int) := hF 2 (by kernel_rfl)
        clear hF hD
        go_simp
        exact hK.out _ _ (Kp.refl _) rfl
      · intro a w' hk hF hD K hK
        have h53 : a.tmps[53]?.getD undef = .slice (some ⟨pl, ol, none⟩) le.length c := hD 3 (by kernel_rfl)
        have h54 : a.tmps[54]?.getD undef = .int .i64 (k : Int) := hD 4 (by kernel_rfl)
        clear hF hD
        go_simp
        exact hK.out _ _ (Kp.refl _) rfl
      · intro a w' hk hF hD K hK
        have h55 : a.tmps[55]?.getD undef = .pointer (some ⟨pl, ol + k, none⟩) := hD 5 (by kernel_rfl)
        clear hF hD
        have z0 := hk.cellS cl
        go_simp
        exact hK.out _ _ (Kp.refl _) rfl
      · intro a w' hk hF hD K hK
        have h56 : a.tmps[56]?.getD undef = .int .i64 y := hD 6 (by kernel_rfl)
        clear hF hD
        go_simp
        exact hK.out _ _ (Kp.refl _) rfl
      · intro a w' hk hF hD K hK
        have h51 : a.tmps[51]?.getD undef = .int .i64 hi := hD 1 (by kernel_rfl)
        have h57 : a.tmps[57]?.getD undef = .int .i64 (y - 1) := hD 7 (by kernel_rfl)
        clear hF hD
        go_simp
        exact hK.out _ _ (Kp.refl _) rfl
      · exact fun i0 hi0 => by simp at hi0
      intro v w9 k9 hv
      have v8 : v 8 = .int .i64 (y - 1) := hv 8 (by omega)
      clear hv
      simp only [G2.growPut, G2.gSlot, List.getElem?_toArray, List.getElem?_cons_zero, List.getElem?_cons_succ, Option.bind_some, List.setIfInBounds_toArray, List.set_cons_zero, List.set_cons_succ, List.drop_succ_cons, List.drop_zero, v8]
      have B2x := B2k.kp k9 hl2
      have g1 := B2x.free (j := 1) (by simp)
      have p1 := B2x.cell (j := 1) rfl
      have B1k := (B1.kp (kq.trans k9) hl1).keep (set_block w9 ⟨b2, 1, none⟩ (.int .i64 (y - 1)) b1 (by show b1 ≠ b2; exact h012.2.2))
      have B2y := B2x.set (j := 1) (by simp) (.int .i64 (y - 1))
      simp only [List.set_cons_zero, List.set_cons_succ, List.toList_toArray] at B2y
      have ky := ((k2.trans kq).trans k9).set (p := ⟨b2, 1, none⟩) hwb1.2 (.int .i64 (y - 1))
      have hl2x := B2x.lt (by simp)
      go_upto_region 6 with (fail)
      generalize w9.setCell ⟨b2, 1, none⟩ (.int .i64 (y - 1)) = wy at *
      have u0 := B2y.cell (j := 0) rfl
      have u1 := B2y.cell (j := 1) rfl
      have f0 := B1k.free (j := 0) (by simp)
      have f1 := B1k.free (j := 1) (by simp)
      have d0 := B1k.cell (j := 0) rfl
      have d1 := B1k.cell (j := 1) rfl
      have B1e := (B1k.set (j := 0) (by simp) (.int .i64 lo)).set (j := 1) (by simp) (.int .i64 (y - 1))
      simp only [List.set_cons_zero, List.set_cons_succ, List.toList_toArray] at B1e
      have hl1k := B1k.lt (by simp)
      have hl2k := B2y.lt (by simp)
      have kE := (ky.set (p := ⟨b1, 0, none⟩) hwb1.1 (.int .i64 lo)).set (p := ⟨b1, 1, none⟩) hwb1.1 (.int .i64 (y - 1))
      clear B1k B2y B2x p1 g1 o0 o1 c2 cl
      go_wp2
      refine bodyPost_ret (results_cell_bx rfl _ _ b1 [.int .i64 lo, .int .i64 (y - 1)] _ rfl B1e.range Tryz.underlying57 rfl (by kernel_rfl)) rfl ?_
      exact ⟨by rw [HR.out], kE⟩
    · have e2 : ((qa : Int) == (qb : Int)) = false := by simpa using fun h => h2 (Int.ofNat.inj h)
      have e3 : (qa == qb) = false := by simpa using h2
      obtain ⟨D, hD⟩ : ∃ D, D = (pathPub (s : Int) (presB ⟨(f : Int), (s : Int), le⟩ box) (qb : Int) (qa : Int)).length := ⟨_, rfl⟩
      rw [← hD] at HCl
      rw [pathPub_eq] at hD
      have HD := hid hD
      replace h2 := hid h2
      clear hD
      by_cases h3 : 0 < D
      · have hcb1 : cb1 = true := by rw [HCl.out, decide_eq_false (by omega)]; rfl
        have HR : Hid (R = ⟨lo, y - 1⟩) := hid (by rw [HC.out, if_pos ⟨h1, hcb1⟩])
        have e4 : decide ((0 : Int) < (D : Int)) = true := decide_eq_true (by omega)
        have e5 : decide (0 < D) = true := decide_eq_true h3
        clear hcb1
        refine G2.wp_region_growT Kp [] 24 61 (G2.pvL [G2.eqv (.pointer (some ⟨b2, 1, none⟩)), G2.eqv (.int .i64 hi), G2.eqv (.pointer (some ⟨b0, 2, none⟩)), G2.eqv (.slice (some ⟨pl, ol, none⟩) le.length c), G2.eqv (.int .i64 (k : Int)), G2.eqv (.pointer (some ⟨pl, ol + k, none⟩)), G2.eqv (.int .i64 y), G2.eqv (.bool true), G2.eqv (.bool true), G2.eqv (.int .i64 (qa : Int)), G2.eqv (.int .i64 (qb : Int)), G2.eqv (.bool false), G2.eqv (.bool false), G2.eqv (.pointer (some ⟨b0, 1, none⟩)), G2.eqv (.int .i64 (s : Int)), G2.eqv (.agg #[.int .i64 (f : Int), .int .i64 (s : Int), .slice (some ⟨pl, ol, none⟩) le.length c]), G2.eqv (.slice (some ⟨gb, ob, none⟩) box.length cb), (fun v w => Bools w v (presB ⟨(f : Int), (s : Int), le⟩ box)), G2.eqv (.int .i64 (qb : Int)), G2.eqv (.int .i64 (qa : Int)), (fun v w => ∃ A c, v = .slice A D c), G2.eqv (.int .i64 (D : Int)), G2.eqv (.bool true), G2.eqv (.bool true)]) (by kernel_rfl) (by kernel_rfl) rfl (fun x => Kp.refl x) (fun _ _ _ h k => h.trans k) (Kp.refl _).drew (fun _ _ _ _ _ h => h) (G2.pvL_keep (G2.stabL_cons (G2.stab_eq _) (G2.stabL_cons (G2.stab_eq _) (G2.stabL_cons (G2.stab_eq _) (G2.stabL_cons (G2.stab_eq _) (G2.stabL_cons (G2.stab_eq _) (G2.stabL_cons (G2.stab_eq _) (G2.stabL_cons (G2.stab_eq _) (G2.stabL_cons (G2.stab_eq _) (G2.stabL_cons (G2.stab_eq _) (G2.stabL_cons (G2.stab_eq _) (G2.stabL_cons (G2.stab_eq _) (G2.stabL_cons (G2.stab_eq _) (G2.stabL_cons (G2.stab_eq _) (G2.stabL_cons (G2.stab_eq _) (G2.stabL_cons (G2.stab_eq _) (G2.stabL_cons (G2.stab_eq _) (G2.stabL_cons (G2.stab_eq _) (G2.stabL_cons (fun _ _ _ h hk => h.keep (pl_stable _) hk) (G2.stabL_cons (G2.stab_eq _) (G2.stabL_cons (G2.stab_eq _) (G2.stabL_cons (fun _ _ _ h _ => h) (G2.stabL_cons (G2.stab_eq _) (G2.stabL_cons (G2.stab_eq _) (G2.stabL_cons (G2.stab_eq _) (G2.stabL_nil)))))))))))))))))))))))))) (G2.stepsT_cons 0 ?_ (G2.stepsT_cons 1 ?_ (G2.stepsT_cons 2 ?_ (G2.stepsT_cons 3 ?_ (G2.stepsT_cons 4 ?_ (G2.stepsT_cons 5 ?_ (G2.stepsT_cons 6 ?_ (G2.stepsT_cons 7 ?_ (G2.stepsT_cons 8 ?_ (G2.stepsT_cons 9 ?_ (G2.stepsT_cons 10 ?_ (G2.stepsT_cons 11 ?_ (G2.stepsT_cons 12 ?_ (G2.stepsT_cons 13 ?_ (G2.stepsT_cons 14 ?_ (G2.stepsT_cons 15 ?_ (G2.stepsT_cons 16 ?_ (G2.stepsT_cons 17 ?_ (G2.stepsT_cons 18 ?_ (G2.stepsT_cons 19 ?_ (G2.stepsT_cons 20 ?_ (G2.stepsT_cons 21 ?_ (G2.stepsT_cons 22 ?_ (G2.stepsT_cons 23 ?_ (G2.stepsT_nil _ _ _))))))))))))))))))))))))) ?_ ?_
        · intro a w' hk hF hD K hK
          have h7 : a.tmps[7]?.getD undef = .pointer (some ⟨b2, 0, none⟩) := hF 7 (by kernel_rfl)
          clear hF hD
          go_simp
          exact hK.out _ _ (Kp.refl _) rfl
        · intro a w' hk hF hD K hK
          have h25 : a.tmps[25]?.getD undef = .pointer (some ⟨b2, 1, none⟩) := hD 0 (by kernel_rfl)
          clear hF hD
          have z0 := hk.cellS o1
          go_simp
          exact hK.out _ _ (Kp.refl _) rfl
        · intro a w' hk hF hD K hK
          have h3 : a.tmps[3]?.getD undef = .pointer (some ⟨b0, 0, none⟩) := hF 3 (by kernel_rfl)
          clear hF hD
          go_simp
          exact hK.out _ _ (Kp.refl _) rfl
        · intro a w' hk hF hD K hK
          have h27 : a.tmps[27]?.getD undef = .pointer (some ⟨b0, 2, none⟩) := hD 2 (by kernel_rfl)
          clear hF hD
          have z0 := hk.cellS c2
          go_simp
          exact hK.out _ _ (Kp.refl _) rfl
        · intro a w' hk hF hD K hK
          have h2 : a.tmps[2]?.getD undef = .int .i64 (k : Int) := hF 2 (by kernel_rfl)
          clear hF hD
          go_simp
          exact hK.out _ _ (Kp.refl _) rfl
        · intro a w' hk hF hD K hK
          have h28 : a.tmps[28]?.getD undef = .slice (some ⟨pl, ol, none⟩) le.length c := hD 3 (by kernel_rfl)
          have h29 : a.tmps[29]?.getD undef = .int .i64 (k : Int) := hD 4 (by kernel_rfl)
          clear hF hD
          go_simp
          exact hK.out _ _ (Kp.refl _) rfl
        · intro a w' hk hF hD K hK
          have h30 : a.tmps[30]?.getD undef = .pointer (some ⟨pl, ol + k, none⟩) := hD 5 (by kernel_rfl)
          clear hF hD
          have z0 := hk.cellS cl
          go_simp
          exact hK.out _ _ (Kp.refl _) rfl
        · intro a w' hk hF hD K hK
          have h26 : a.tmps[26]?.getD undef = .int .i64 hi := hD 1 (by kernel_rfl)
          have h31 : a.tmps[31]?.getD undef = .int .i64 y := hD 6 (by kernel_rfl)
          clear hF hD
          go_simp
          exact hK.out _ _ (Kp.refl _) rfl
        · intro a w' hk hF hD K hK
          have h32 : a.tmps[32]?.getD undef = .bool true := hD 7 (by kernel_rfl)
          clear hF hD
          go_simp
          exact hK.out _ _ (Kp.refl _) rfl
        · intro a w' hk hF hD K hK
          have h8 : a.tmps[8]?.getD undef = .int .i64 (qa : Int) := hF 8 (by kernel_rfl)
          have h33 : a.tmps[33]?.getD undef = .bool true := hD 8 (by kernel_rfl)
          have g33 := guard_get h33
          clear hF hD
          go_simp
          exact hK.out _ _ (Kp.refl _) rfl
        · intro a w' hk hF hD K hK
          have h9 : a.tmps[9]?.getD undef = .int .i64 (qb : Int) := hF 9 (by kernel_rfl)
          have h33 : a.tmps[33]?.getD undef = .bool true := hD 8 (by kernel_rfl)
          have g33 := guard_get h33
          clear hF hD
          go_simp
          exact hK.out _ _ (Kp.refl _) rfl
        · intro a w' hk hF hD K hK
          have h34 : a.tmps[34]?.getD undef = .int .i64 (qa : Int) := hD 9 (by kernel_rfl)
          have h35 : a.tmps[35]?.getD undef = .int .i64 (qb : Int) := hD 10 (by kernel_rfl)
          have h33 : a.tmps[33]?.getD undef = .bool true := hD 8 (by kernel_rfl)
          have g33 := guard_get h33
          clear hF hD
          go_simp
          exact hK.out _ _ (Kp.refl _) rfl
        · intro a w' hk hF hD K hK
          have h36 : a.tmps[36]?.getD undef = .bool false := hD 11 (by kernel_rfl)
          have h33 : a.tmps[33]?.getD undef = .bool true := hD 8 (by kernel_rfl)
          have g33 := guard_get h33
          clear hF hD
          go_simp
          exact hK.out _ _ (Kp.refl _) rfl
        · intro a w' hk hF hD K hK
          have h3 : a.tmps[3]?.getD undef = .pointer (some ⟨b0, 0, none⟩) := hF 3 (by kernel_rfl)
          have h37 : a.tmps[37]?.getD undef = .bool false := hD 12 (by kernel_rfl)
          have g37 := guard_get h37
          clear hF hD
          go_simp
          exact hK.out _ _ (Kp.refl _) rfl
        · intro a w' hk hF hD K hK
          have h38 : a.tmps[38]?.getD undef = .pointer (some ⟨b0, 1, none⟩) := hD 13 (by kernel_rfl)
          have h37 : a.tmps[37]?.getD undef = .bool false := hD 12 (by kernel_rfl)
          have g37 := guard_get h37
          clear hF hD
          have z0 := hk.cellS c1
          go_simp
          exact hK.out _ _ (Kp.refl _) rfl
        · intro a w' hk hF hD K hK
          have h3 : a.tmps[3]?.getD undef = .pointer (some ⟨b0, 0, none⟩) := hF 3 (by kernel_rfl)
          have h37 : a.tmps[37]?.getD undef = .bool false := hD 12 (by kernel_rfl)
          have g37 := guard_get h37
          clear hF hD
          have z0 := hk.cellS c0
          have z1 := hk.cellS c1
          have z2 := hk.cellS c2
          go_simp
          exact hK.out _ _ (Kp.refl _) rfl
        · intro a w' hk hF hD K hK
          have h1 : a.tmps[1]?.getD undef = .slice (some ⟨gb, ob, none⟩) box.length cb := hF 1 (by kernel_rfl)
          have h37 : a.tmps[37]?.getD undef = .bool false := hD 12 (by kernel_rfl)
          have g37 := guard_get h37
          clear hF hD
          go_simp
          exact hK.out _ _ (Kp.refl _) rfl
        · intro a w' hk hF hD K hK
          have h40 : a.tmps[40]?.getD undef = .agg #[.int .i64 (f : Int), .int .i64 (s : Int), .slice (some ⟨pl, ol, none⟩) le.length c] := hD 15 (by kernel_rfl)
          have h41 : a.tmps[41]?.getD undef = .slice (some ⟨gb, ob, none⟩) box.length cb := hD 16 (by kernel_rfl)
          have h37 : a.tmps[37]?.getD undef = .bool false := hD 12 (by kernel_rfl)
          have g37 := guard_get h37
          clear hF hD
          go_simp
          refine (HPr.out _ (GrV.keep' hg0.out (k2.trans hk)) (hb0'.out.keep (pl_stable _) (k2.trans hk))).mono ?_
          rintro e w9 ⟨v9, rfl, hI, hk9⟩
          exact hK.out _ _ hk9 (hI.sl encBool_len)
        · intro a w' hk hF hD K hK
          have h9 : a.tmps[9]?.getD undef = .int .i64 (qb : Int) := hF 9 (by kernel_rfl)
          have h37 : a.tmps[37]?.getD undef = .bool false := hD 12 (by kernel_rfl)
          have g37 := guard_get h37
          clear hF hD
          go_simp
          exact hK.out _ _ (Kp.refl _) rfl
        · intro a w' hk hF hD K hK
          have h8 : a.tmps[8]?.getD undef = .int .i64 (qa : Int) := hF 8 (by kernel_rfl)
          have h37 : a.tmps[37]?.getD undef = .bool false := hD 12 (by kernel_rfl)
          have g37 := guard_get h37
          clear hF hD
          go_simp
          exact hK.out _ _ (Kp.refl _) rfl
        · intro a w' hk hF hD K hK
          have h39 : a.tmps[39]?.getD undef = .int .i64 (s : Int) := hD 14 (by kernel_rfl)
          have h42 : (fun v w => Bools w v (presB ⟨(f : Int), (s : Int), le⟩ box)) (a.tmps[42]?.getD undef) w' := hD 17 (by kernel_rfl)
          have h43 : a.tmps[43]?.getD undef = .int .i64 (qb : Int) := hD 18 (by kernel_rfl)
          have h44 : a.tmps[44]?.getD undef = .int .i64 (qa : Int) := hD 19 (by kernel_rfl)
          have h37 : a.tmps[37]?.getD undef = .bool false := hD 12 (by kernel_rfl)
          have g37 := guard_get h37
          clear hF hD
          go_simp
          refine (qPath_any (s : Int) _ (presB ⟨(f : Int), (s : Int), le⟩ box) (qb : Int) (qa : Int) _ h42).mono ?_
          rintro e w9 ⟨v9, rfl, hI, hk9⟩
          obtain ⟨Ap, cp, rfl, -, -⟩ := hI.form
          rw [← HD.out]
          exact hK.out _ _ hk9 ⟨_, _, rfl⟩
        · intro a w' hk hF hD K hK
          have h45 : (fun v w => ∃ A c, v = .slice A D c) (a.tmps[45]?.getD undef) w' := hD 20 (by kernel_rfl)
          have h37 : a.tmps[37]?.getD undef = .bool false := hD 12 (by kernel_rfl)
          have g37 := guard_get h37
          clear hF hD
          obtain ⟨Ap, cp, e20⟩ := h45
          go_simp
          exact hK.out _ _ (Kp.refl _) rfl
        · intro a w' hk hF hD K hK
          have h46 : a.tmps[46]?.getD undef = .int .i64 (D : Int) := hD 21 (by kernel_rfl)
          have h37 : a.tmps[37]?.getD undef = .bool false := hD 12 (by kernel_rfl)
          have g37 := guard_get h37
          clear hF hD
          go_simp
          exact hK.out _ _ (Kp.refl _) rfl
        · intro a w' hk hF hD K hK
          have h37 : a.tmps[37]?.getD undef = .bool false := hD 12 (by kernel_rfl)
          have h47 : a.tmps[47]?.getD undef = .bool true := hD 22 (by kernel_rfl)
          have h33 : a.tmps[33]?.getD undef = .bool true := hD 8 (by kernel_rfl)
          have g33 := guard_get h33
          clear hF hD
          go_simp
          exact hK.out _ _ (Kp.refl _) rfl
        · exact fun i0 hi0 => by simp at hi0
        intro v w9 k9 hv
        have v8 : v 8 = .bool true := hv 8 (by omega)
        have v23 : v 23 = .bool true := hv 23 (by omega)
        clear hv
        simp only [G2.growPut, G2.gSlot, List.getElem?_toArray, List.getElem?_cons_zero, List.getElem?_cons_succ, Option.bind_some, List.setIfInBounds_toArray, List.set_cons_zero, List.set_cons_succ, List.drop_succ_cons, List.drop_zero, v8, v23]
        have B0k := B0.kp k9 hl0
        have B2k := B2.kp k9 hl2
        have o0 := B2k.cell (j := 0) rfl
        have o1 := B2k.cell (j := 1) rfl
        have g1 := B2k.free (j := 1) (by simp)
        have c2 := B0k.cell (j := 2) rfl
        have cl := k9.cellS cl
        have hm : (if y - 1 < hi then y - 1 else hi) = y - 1 := if_pos (by omega)
        have hl0 := B0k.lt (by simp)
        have hl2 := B2k.lt (by simp)
        go_upto_region 5 with (fail)
        have k9x' := k2.trans k9
        have kq := k9
        refine G2.wp_region_growT Kp [] 9 61 (G2.pvL [G2.eqv (.pointer (some ⟨b2, 1, none⟩)), G2.eqv (.int .i64 hi), G2.eqv (.pointer (some ⟨b0, 2, none⟩)), G2.eqv (.slice (some ⟨pl, ol, none⟩) le.length c), G2.eqv (.int .i64 (k : Int)), G2.eqv (.pointer (some ⟨pl, ol + k, none⟩)), G2.eqv (.int .i64 y), G2.eqv (.int .i64 (y - 1)), G2.eqv (.int .i64 (y - 1))]) (by kernel_rfl) (by kernel_rfl) rfl (fun x => Kp.refl x) (fun _ _ _ h k => h.trans k) (Kp.refl _).drew (fun _ _ _ _ _ h => h) (G2.pvL_keep (G2.stabL_cons (G2.stab_eq _) (G2.stabL_cons (G2.stab_eq _) (G2.stabL_cons (G2.stab_eq _) (G2.stabL_cons (G2.stab_eq _) (G2.stabL_cons (G2.stab_eq _) (G2.stabL_cons (G2.stab_eq _) (G2.stabL_cons (G2.stab_eq _) (G2.stabL_cons (G2.stab_eq _) (G2.stabL_cons (G2.stab_eq _) (G2.stabL_nil))))))))))) (G2.stepsT_cons 0 ?_ (G2.stepsT_cons 1 ?_ (G2.stepsT_cons 2 ?_ (G2.stepsT_cons 3 ?_ (G2.stepsT_cons 4 ?_ (G2.stepsT_cons 5 ?_ (G2.stepsT_cons 6 ?_ (G2.stepsT_cons 7 ?_ (G2.stepsT_cons 8 ?_ (G2.stepsT_nil _ _ _)))))))))) ?_ ?_
        · intro a w' hk hF hD K hK
          have h7 : a.tmps[7]?.getD undef = .pointer (some ⟨b2, 0, none⟩) := hF 7 (by kernel_rfl)
          clear hF hD
          go_simp
          exact hK.out _ _ (Kp.refl _) rfl
        · intro a w' hk hF hD K hK
          have h50 : a.tmps[50]?.getD undef = .pointer (some ⟨b2, 1, none⟩) := hD 0 (by kernel_rfl)
          clear hF hD
          have z0 := hk.cellS o1
          go_simp
          exact hK.out _ _ (Kp.refl _) rfl
        · intro a w' hk hF hD K hK
          have h3 : a.tmps[3]?.getD undef = .pointer (some ⟨b0, 0, none⟩) := hF 3 (by kernel_rfl)
          clear hF hD
          go_simp
          exact hK.out _ _ (Kp.refl _) rfl
        · intro a w' hk hF hD K hK
          have h52 : a.tmps[52]?.getD undef = .pointer (some ⟨b0, 2, none⟩) := hD 2 (by kernel_rfl)
          clear hF hD
          have z0 := hk.cellS c2
          go_simp
          exact hK.out _ _ (Kp.refl _) rfl
        · intro a w' hk hF hD K hK
          have h2 : a.tmps[2]?.getD undef = .int .i64 (k : Int) := hF 2 (by kernel_rfl)
          clear hF hD
          go_simp
          exact hK.out _ _ (Kp.refl _) rfl
        · intro a w' hk hF hD K hK
          have h53 : a.tmps[53]?.getD undef = .slice (some ⟨pl, ol, none⟩) le.length c := hD 3 (by kernel_rfl)
          have h54 : a.tmps[54]?.getD undef = .int .i64 (k : Int) := hD 4 (by kernel_rfl)
          clear hF hD
          go_simp
          exact hK.out _ _ (Kp.refl _) rfl
        · intro a w' hk hF hD K hK
          have h55 : a.tmps[55]?.getD undef = .pointer (some ⟨pl, ol + k, none⟩) := hD 5 (by kernel_rfl)
          clear hF hD
          have z0 := hk.cellS cl
          go_simp
          exact hK.out _ _ (Kp.refl _) rfl
        · intro a w' hk hF hD K hK
          have h56 : a.tmps[56]?.getD undef = .int .i64 y := hD 6 (by kernel_rfl)
          clear hF hD
          go_simp
          exact hK.out _ _ (Kp.refl _) rfl
        · intro a w' hk hF hD K hK
          have h51 : a.tmps[51]?.getD undef = .int .i64 hi := hD 1 (by kernel_rfl)
          have h57 : a.tmps[57]?.getD undef = .int .i64 (y - 1) := hD 7 (by kernel_rfl)
          clear hF hD
          go_simp
          exact hK.out _ _ (Kp.refl _) rfl
        · exact fun i0 hi0 => by simp at hi0
        intro v w9 k9 hv
        have v8 : v 8 = .int .i64 (y - 1) := hv 8 (by omega)
        clear hv
        simp only [G2.growPut, G2.gSlot, List.getElem?_toArray, List.getElem?_cons_zero, List.getElem?_cons_succ, Option.bind_some, List.setIfInBounds_toArray, List.set_cons_zero, List.set_cons_succ, List.drop_succ_cons, List.drop_zero, v8]
        have B2x := B2k.kp k9 hl2
        have g1 := B2x.free (j := 1) (by simp)
        have p1 := B2x.cell (j := 1) rfl
        have B1k := (B1.kp (kq.trans k9) hl1).keep (set_block w9 ⟨b2, 1, none⟩ (.int .i64 (y - 1)) b1 (by show b1 ≠ b2; exact h012.2.2))
        have B2y := B2x.set (j := 1) (by simp) (.int .i64 (y - 1))
        simp only [List.set_cons_zero, List.set_cons_succ, List.toList_toArray] at B2y
        have ky := ((k2.trans kq).trans k9).set (p := ⟨b2, 1, none⟩) hwb1.2 (.int .i64 (y - 1))
        have hl2x := B2x.lt (by simp)
        go_upto_region 6 with (fail)
        generalize w9.setCell ⟨b2, 1, none⟩ (.int .i64 (y - 1)) = wy at *
        have u0 := B2y.cell (j := 0) rfl
        have u1 := B2y.cell (j := 1) rfl
        have f0 := B1k.free (j := 0) (by simp)
        have f1 := B1k.free (j := 1) (by simp)
        have d0 := B1k.cell (j := 0) rfl
        have d1 := B1k.cell (j := 1) rfl
        have B1e := (B1k.set (j := 0) (by simp) (.int .i64 lo)).set (j := 1) (by simp) (.int .i64 (y - 1))
        simp only [List.set_cons_zero, List.set_cons_succ, List.toList_toArray] at B1e
        have hl1k := B1k.lt (by simp)
        have hl2k := B2y.lt (by simp)
        have kE := (ky.set (p := ⟨b1, 0, none⟩) hwb1.1 (.int .i64 lo)).set (p := ⟨b1, 1, none⟩) hwb1.1 (.int .i64 (y - 1))
        clear B1k B2y B2x p1 g1 o0 o1 c2 cl
        go_wp2
        refine bodyPost_ret (results_cell_bx rfl _ _ b1 [.int .i64 lo, .int .i64 (y - 1)] _ rfl B1e.range Tryz.underlying57 rfl (by kernel_rfl)) rfl ?_
        exact ⟨by rw [HR.out], kE⟩
      · have hcb1 : cb1 = false := by rw [HCl.out, decide_eq_true (by omega)]; rfl
        have HR : Hid (R = ⟨lo, hi⟩) := hid (by rw [HC.out, if_neg (fun h => by rw [hcb1] at h; cases h.2)])
        have e4 : decide ((0 : Int) < (D : Int)) = false := decide_eq_false (by omega)
        have e5 : decide (0 < D) = false := decide_eq_false h3
        clear hcb1
        refine G2.wp_region_growT Kp [] 24 61 (G2.pvL [G2.eqv (.pointer (some ⟨b2, 1, none⟩)), G2.eqv (.int .i64 hi), G2.eqv (.pointer (some ⟨b0, 2, none⟩)), G2.eqv (.slice (some ⟨pl, ol, none⟩) le.length c), G2.eqv (.int .i64 (k : Int)), G2.eqv (.pointer (some ⟨pl, ol + k, none⟩)), G2.eqv (.int .i64 y), G2.eqv (.bool true), G2.eqv (.bool true), G2.eqv (.int .i64 (qa : Int)), G2.eqv (.int .i64 (qb : Int)), G2.eqv (.bool false), G2.eqv (.bool false), G2.eqv (.pointer (some ⟨b0, 1, none⟩)), G2.eqv (.int .i64 (s : Int)), G2.eqv (.agg #[.int .i64 (f : Int), .int .i64 (s : Int), .slice (some ⟨pl, ol, none⟩) le.length c]), G2.eqv (.slice (some ⟨gb, ob, none⟩) box.length cb), (fun v w => Bools w v (presB ⟨(f : Int), (s : Int), le⟩ box)), G2.eqv (.int .i64 (qb : Int)), G2.eqv (.int .i64 (qa : Int)), (fun v w => ∃ A c, v = .slice A D c), G2.eqv (.int .i64 (D : Int)), G2.eqv (.bool false), G2.eqv (.bool false)]) (by kernel_rfl) (by kernel_rfl) rfl (fun x => Kp.refl x) (fun _ _ _ h k => h.trans k) (Kp.refl _).drew (fun _ _ _ _ _ h => h) (G2.pvL_keep (G2.stabL_cons (G2.stab_eq _) (G2.stabL_cons (G2.stab_eq _) (G2.stabL_cons (G2.stab_eq _) (G2.stabL_cons (G2.stab_eq _) (G2.stabL_cons (G2.stab_eq _) (G2.stabL_cons (G2.stab_eq _) (G2.stabL_cons (G2.stab_eq _) (G2.stabL_cons (G2.stab_eq _) (G2.stabL_cons (G2.stab_eq _) (G2.stabL_cons (G2.stab_eq _) (G2.stabL_cons (G2.stab_eq _) (G2.stabL_cons (G2.stab_eq _) (G2.stabL_cons (G2.stab_eq _) (G2.stabL_cons (G2.stab_eq _) (G2.stabL_cons (G2.stab_eq _) (G2.stabL_cons (G2.stab_eq _) (G2.stabL_cons (G2.stab_eq _) (G2.stabL_cons (fun _ _ _ h hk => h.keep (pl_stable _) hk) (G2.stabL_cons (G2.stab_eq _) (G2.stabL_cons (G2.stab_eq _) (G2.stabL_cons (fun _ _ _ h _ => h) (G2.stabL_cons (G2.stab_eq _) (G2.stabL_cons (G2.stab_eq _) (G2.stabL_cons (G2.stab_eq _) (G2.stabL_nil)))))))))))))))))))))))))) (G2.stepsT_cons 0 ?_ (G2.stepsT_cons 1 ?_ (G2.stepsT_cons 2 ?_ (G2.stepsT_cons 3 ?_ (G2.stepsT_cons 4 ?_ (G2.stepsT_cons 5 ?_ (G2.stepsT_cons 6 ?_ (G2.stepsT_cons 7 ?_ (G2.stepsT_cons 8 ?_ (G2.stepsT_cons 9 ?_ (G2.stepsT_cons 10 ?_ (G2.stepsT_cons 11 ?_ (G2.stepsT_cons 12 ?_ (G2.stepsT_cons 13 ?_ (G2.stepsT_cons 14 ?_ (G2.stepsT_cons 15 ?_ (G2.stepsT_cons 16 ?_ (G2.stepsT_cons 17 ?_ (G2.stepsT_cons 18 ?_ (G2.stepsT_cons 19 ?_ (G2.stepsT_cons 20 ?_ (G2.stepsT_cons 21 ?_ (G2.stepsT_cons 22 ?_ (G2.stepsT_cons 23 ?_ (G2.stepsT_nil _ _ _))))))))))))))))))))))))) ?_ ?_
        · intro a w' hk hF hD K hK
          have h7 : a.tmps[7]?.getD undef = .pointer (some ⟨b2, 0, none⟩) := hF 7 (by kernel_rfl)
          clear hF hD
          go_simp
          exact hK.out _ _ (Kp.refl _) rfl
        · intro a w' hk hF hD K hK
          have h25 : a.tmps[25]?.getD undef = .pointer (some ⟨b2, 1, none⟩) := hD 0 (by kernel_rfl)
          clear hF hD
          have z0 := hk.cellS o1
          go_simp
          exact hK.out _ _ (Kp.refl _) rfl
        · intro a w' hk hF hD K hK
          have h3 : a.tmps[3]?.getD undef = .pointer (some ⟨b0, 0, none⟩) := hF 3 (by kernel_rfl)
          clear hF hD
          go_simp
          exact hK.out _ _ (Kp.refl _) rfl
        · intro a w' hk hF hD K hK
          have h27 : a.tmps[27]?.getD undef = .pointer (some ⟨b0, 2, none⟩) := hD 2 (by kernel_rfl)
          clear hF hD
          have z0 := hk.cellS c2
          go_simp
          exact hK.out _ _ (Kp.refl _) rfl
        · intro a w' hk hF hD K hK
          have h2 : a.tmps[2]?.getD undef = .int .i64 (k : Int) := hF 2 (by kernel_rfl)
          clear hF hD
          go_simp
          exact hK.out _ _ (Kp.refl _) rfl
        · intro a w' hk hF hD K hK
          have h28 : a.tmps[28]?.getD undef = .slice (some ⟨pl, ol, none⟩) le.length c := hD 3 (by kernel_rfl)
          have h29 : a.tmps[29]?.getD undef = .int .i64 (k : Int) := hD 4 (by kernel_rfl)
          clear hF hD
          go_simp
          exact hK.out _ _ (Kp.refl _) rfl
        · intro a w' hk hF hD K hK
          have h30 : a.tmps[30]?.getD undef = .pointer (some ⟨pl, ol + k, none⟩) := hD 5 (by kernel_rfl)
          clear hF hD
          have z0 := hk.cellS cl
          go_simp
          exact hK.out _ _ (Kp.refl _) rfl
        · intro a w' hk hF hD K hK
          have h26 : a.tmps[26]?.getD undef = .int .i64 hi := hD 1 (by kernel_rfl)
          have h31 : a.tmps[31]?.getD undef = .int .i64 y := hD 6 (by kernel_rfl)
          clear hF hD
          go_simp
          exact hK.out _ _ (Kp.refl _) rfl
        · intro a w' hk hF hD K hK
          have h32 : a.tmps[32]?.getD undef = .bool true := hD 7 (by kernel_rfl)
          clear hF hD
          go_simp
          exact hK.out _ _ (Kp.refl _) rfl
        · intro a w' hk hF hD K hK
          have h8 : a.tmps[8]?.getD undef = .int .i64 (qa : Int) := hF 8 (by kernel_rfl)
          have h33 : a.tmps[33]?.getD undef = .bool true := hD 8 (by kernel_rfl)
          have g33 := guard_get h33
          clear hF hD
          go_simp
          exact hK.out _ _ (Kp.refl _) rfl
        · intro a w' hk hF hD K hK
          have h9 : a.tmps[9]?.getD undef = .int .i64 (qb : Int) := hF 9 (by kernel_rfl)
          have h33 : a.tmps[33]?.getD undef = .bool true := hD 8 (by kernel_rfl)
          have g33 := guard_get h33
          clear hF hD
          go_simp
          exact hK.out _ _ (Kp.refl _) rfl
        · intro a w' hk hF hD K hK
          have h34 : a.tmps[34]?.getD undef = .int .i64 (qa : Int) := hD 9 (by kernel_rfl)
          have h35 : a.tmps[35]?.getD undef = .int .i64 (qb : Int) := hD 10 (by kernel_rfl)
          have h33 : a.tmps[33]?.getD undef = .bool true := hD 8 (by kernel_rfl)
          have g33 := guard_get h33
          clear hF hD
          go_simp
          exact hK.out _ _ (Kp.refl _) rfl
        · intro a w' hk hF hD K hK
          have h36 : a.tmps[36]?.getD undef = .bool false := hD 11 (by kernel_rfl)
          have h33 : a.tmps[33]?.getD undef = .bool true := hD 8 (by kernel_rfl)
          have g33 := guard_get h33
          clear hF hD
          go_simp
          exact hK.out _ _ (Kp.refl _) rfl
        · intro a w' hk hF hD K hK
          have h3 : a.tmps[3]?.getD undef = .pointer (some ⟨b0, 0, none⟩) := hF 3 (by kernel_rfl)
          have h37 : a.tmps[37]?.getD undef = .bool false := hD 12 (by kernel_rfl)
          have g37 := guard_get h37
          clear hF hD
          go_simp
          exact hK.out _ _ (Kp.refl _) rfl
        · intro a w' hk hF hD K hK
          have h38 : a.tmps[38]?.getD undef = .pointer (some ⟨b0, 1, none⟩) := hD 13 (by kernel_rfl)
          have h37 : a.tmps[37]?.getD undef = .bool false := hD 12 (by kernel_rfl)
          have g37 := guard_get h37
          clear hF hD
          have z0 := hk.cellS c1
          go_simp
          exact hK.out _ _ (Kp.refl _) rfl
        · intro a w' hk hF hD K hK
          have h3 : a.tmps[3]?.getD undef = .pointer (some ⟨b0, 0, none⟩) := hF 3 (by kernel_rfl)
          have h37 : a.tmps[37]?.getD undef = .bool false := hD 12 (by kernel_rfl)
          have g37 := guard_get h37
          clear hF hD
          have z0 := hk.cellS c0
          have z1 := hk.cellS c1
          have z2 := hk.cellS c2
          go_simp
          exact hK.out _ _ (Kp.refl _) rfl
        · intro a w' hk hF hD K hK
          have h1 : a.tmps[1]?.getD undef = .slice (some ⟨gb, ob, none⟩) box.length cb := hF 1 (by kernel_rfl)
          have h37 : a.tmps[37]?.getD undef = .bool false := hD 12 (by kernel_rfl)
          have g37 := guard_get h37
          clear hF hD
          go_simp
          exact hK.out _ _ (Kp.refl _) rfl
        · intro a w' hk hF hD K hK
          have h40 : a.tmps[40]?.getD undef = .agg #[.int .i64 (f : Int), .int .i64 (s : Int), .slice (some ⟨pl, ol, none⟩) le.length c] := hD 15 (by kernel_rfl)
          have h41 : a.tmps[41]?.getD undef = .slice (some ⟨gb, ob, none⟩) box.length cb := hD 16 (by kernel_rfl)
          have h37 : a.tmps[37]?.getD undef = .bool false := hD 12 (by kernel_rfl)
          have g37 := guard_get h37
          clear hF hD
          go_simp
          refine (HPr.out _ (GrV.keep' hg0.out (k2.trans hk)) (hb0'.out.keep (pl_stable _) (k2.trans hk))).mono ?_
          rintro e w9 ⟨v9, rfl, hI, hk9⟩
          exact hK.out _ _ hk9 (hI.sl encBool_len)
        · intro a w' hk hF hD K hK
          have h9 : a.tmps[9]?.getD undef = .int .i64 (qb : Int) := hF 9 (by kernel_rfl)
          have h37 : a.tmps[37]?.getD undef = .bool false := hD 12 (by kernel_rfl)
          have g37 := guard_get h37
          clear hF hD
          go_simp
          exact hK.out _ _ (Kp.refl _) rfl
        · intro a w' hk hF hD K hK
          have h8 : a.tmps[8]?.getD undef = .int .i64 (qa : Int) := hF 8 (by kernel_rfl)
          have h37 : a.tmps[37]?.getD undef = .bool false := hD 12 (by kernel_rfl)
          have g37 := guard_get h37
          clear hF hD
          go_simp
          exact hK.out _ _ (Kp.refl _) rfl
        · intro a w' hk hF hD K hK
          have h39 : a.tmps[39]?.getD undef = .int .i64 (s : Int) := hD 14 (by kernel_rfl)
          have h42 : (fun v w => Bools w v (presB ⟨(f : Int), (s : Int), le⟩ box)) (a.tmps[42]?.getD undef) w' := hD 17 (by kernel_rfl)
          have h43 : a.tmps[43]?.getD undef = .int .i64 (qb : Int) := hD 18 (by kernel_rfl)
          have h44 : a.tmps[44]?.getD undef = .int .i64 (qa : Int) := hD 19 (by kernel_rfl)
          have h37 : a.tmps[37]?.getD undef = .bool false := hD 12 (by kernel_rfl)
          have g37 := guard_get h37
          clear hF hD
          go_simp
          refine (qPath_any (s : Int) _ (presB ⟨(f : Int), (s : Int), le⟩ box) (qb : Int) (qa : Int) _ h42).mono ?_
          rintro e w9 ⟨v9, rfl, hI, hk9⟩
          obtain ⟨Ap, cp, rfl, -, -⟩ := hI.form
          rw [← HD.out]
          exact hK.out _ _ hk9 ⟨_, _, rfl⟩
        · intro a w' hk hF hD K hK
          have h45 : (fun v w => ∃ A c, v = .slice A D c) (a.tmps[45]?.getD undef) w' := hD 20 (by kernel_rfl)
          have h37 : a.tmps[37]?.getD undef = .bool false := hD 12 (by kernel_rfl)
          have g37 := guard_get h37
          clear hF hD
          obtain ⟨Ap, cp, e20⟩ := h45
          go_simp
          exact hK.out _ _ (Kp.refl _) rfl
        · intro a w' hk hF hD K hK
          have h46 : a.tmps[46]?.getD undef = .int .i64 (D : Int) := hD 21 (by kernel_rfl)
          have h37 : a.tmps[37]?.getD undef = .bool false := hD 12 (by kernel_rfl)
          have g37 := guard_get h37
          clear hF hD
          go_simp
          exact hK.out _ _ (Kp.refl _) rfl
        · intro a w' hk hF hD K hK
          have h37 : a.tmps[37]?.getD undef = .bool false := hD 12 (by kernel_rfl)
          have h47 : a.tmps[47]?.getD undef = .bool false := hD 22 (by kernel_rfl)
          have h33 : a.tmps[33]?.getD undef = .bool true := hD 8 (by kernel_rfl)
          have g33 := guard_get h33
          clear hF hD
          go_simp
          exact hK.out _ _ (Kp.refl _) rfl
        · exact fun i0 hi0 => by simp at hi0
        intro v w9 k9 hv
        have v8 : v 8 = .bool true := hv 8 (by omega)
        have v23 : v 23 = .bool false := hv 23 (by omega)
        clear hv
        simp only [G2.growPut, G2.gSlot, List.getElem?_toArray, List.getElem?_cons_zero, List.getElem?_cons_succ, Option.bind_some, List.setIfInBounds_toArray, List.set_cons_zero, List.set_cons_succ, List.drop_succ_cons, List.drop_zero, v8, v23]
        have u0 := k9.cellS o0
        have u1 := k9.cellS o1
        have B1k := (B1.kp k9 hl1)
        have f0 := B1k.free (j := 0) (by simp)
        have f1 := B1k.free (j := 1) (by simp)
        have d0 := B1k.cell (j := 0) rfl
        have d1 := B1k.cell (j := 1) rfl
        have B1e := (B1k.set (j := 0) (by simp) (.int .i64 lo)).set (j := 1) (by simp) (.int .i64 hi)
        simp only [List.set_cons_zero, List.set_cons_succ, List.toList_toArray] at B1e
        have hl1k := B1k.lt (by simp)
        have kE := ((k2.trans k9).set (p := ⟨b1, 0, none⟩) hwb1.1 (.int .i64 lo)).set (p := ⟨b1, 1, none⟩) hwb1.1 (.int .i64 hi)
        clear B1k
        go_wp2
        refine bodyPost_ret (results_cell_bx rfl _ _ b1 [.int .i64 lo, .int .i64 hi] _ rfl B1e.range Tryz.underlying57 rfl (by kernel_rfl)) rfl ?_
        exact ⟨by rw [HR.out], kE⟩
  · have HR : Hid (R = ⟨lo, hi⟩) := hid (by rw [HC.out, if_neg (fun h => h1 h.1)])
    have e1 : decide (y ≤ hi) = false := decide_eq_false h1
    refine G2.wp_region_growT Kp [] 24 61 (G2.pvL [G2.eqv (.pointer (some ⟨b2, 1, none⟩)), G2.eqv (.int .i64 hi), G2.eqv (.pointer (some ⟨b0, 2, none⟩)), G2.eqv (.slice (some ⟨pl, ol, none⟩) le.length c), G2.eqv (.int .i64 (k : Int)), G2.eqv (.pointer (some ⟨pl, ol + k, none⟩)), G2.eqv (.int .i64 y), G2.eqv (.bool false), G2.eqv (.bool false), G2.eqv (undef), G2.eqv (undef), G2.eqv (undef), G2.eqv (undef), G2.eqv (undef), G2.eqv (undef), G2.eqv (undef), G2.eqv (undef), G2.eqv (undef), G2.eqv (undef), G2.eqv (undef), G2.eqv (undef), G2.eqv (undef), G2.eqv (undef), G2.eqv (undef)]) (by kernel_rfl) (by kernel_rfl) rfl (fun x => Kp.refl x) (fun _ _ _ h k => h.trans k) (Kp.refl _).drew (fun _ _ _ _ _ h => h) (G2.pvL_keep (G2.stabL_cons (G2.stab_eq _) (G2.stabL_cons (G2.stab_eq _) (G2.stabL_cons (G2.stab_eq _) (G2.stabL_cons (G2.stab_eq _) (G2.stabL_cons (G2.stab_eq _) (G2.stabL_cons (G2.stab_eq _) (G2.stabL_cons (G2.stab_eq _) (G2.stabL_cons (G2.stab_eq _) (G2.stabL_cons (G2.stab_eq _) (G2.stabL_cons (G2.stab_eq _) (G2.stabL_cons (G2.stab_eq _) (G2.stabL_cons (G2.stab_eq _) (G2.stabL_cons (G2.stab_eq _) (G2.stabL_cons (G2.stab_eq _) (G2.stabL_cons (G2.stab_eq _) (G2.stabL_cons (G2.stab_eq _) (G2.stabL_cons (G2.stab_eq _) (G2.stabL_cons (G2.stab_eq _) (G2.stabL_cons (G2.stab_eq _) (G2.stabL_cons (G2.stab_eq _) (G2.stabL_cons (G2.stab_eq _) (G2.stabL_cons (G2.stab_eq _) (G2.stabL_cons (G2.stab_eq _) (G2.stabL_cons (G2.stab_eq _) (G2.stabL_nil)))))))))))))))))))))))))) (G2.stepsT_cons 0 ?_ (G2.stepsT_cons 1 ?_ (G2.stepsT_cons 2 ?_ (G2.stepsT_cons 3 ?_ (G2.stepsT_cons 4 ?_ (G2.stepsT_cons 5 ?_ (G2.stepsT_cons 6 ?_ (G2.stepsT_cons 7 ?_ (G2.stepsT_cons 8 ?_ (G2.stepsT_cons 9 ?_ (G2.stepsT_cons 10 ?_ (G2.stepsT_cons 11 ?_ (G2.stepsT_cons 12 ?_ (G2.stepsT_cons 13 ?_ (G2.stepsT_cons 14 ?_ (G2.stepsT_cons 15 ?_ (G2.stepsT_cons 16 ?_ (G2.stepsT_cons 17 ?_ (G2.stepsT_cons 18 ?_ (G2.stepsT_cons 19 ?_ (G2.stepsT_cons 20 ?_ (G2.stepsT_cons 21 ?_ (G2.stepsT_cons 22 ?_ (G2.stepsT_cons 23 ?_ (G2.stepsT_nil _ _ _))))))))))))))))))))))))) ?_ ?_
    · intro a w' hk hF hD K hK
      have h7 : a.tmps[7]?.getD undef = .pointer (some ⟨b2, 0, none⟩) := hF 7 (by kernel_rfl)
      clear hF hD
      go_simp
      exact hK.out _ _ (Kp.refl _) rfl
    · intro a w' hk hF hD K hK
      have h25 : a.tmps[25]?.getD undef = .pointer (some ⟨b2, 1, none⟩) := hD 0 (by kernel_rfl)
      clear hF hD
      have z0 := hk.cellS o1
      go_simp
      exact hK.out _ _ (Kp.refl _) rfl
    · intro a w' hk hF hD K hK
      have h3 : a.tmps[3]?.getD undef = .pointer (some ⟨b0, 0, none⟩) := hF 3 (by kernel_rfl)
      clear hF hD
      go_simp
      exact hK.out _ _ (Kp.refl _) rfl
    · intro a w' hk hF hD K hK
      have h27 : a.tmps[27]?.getD undef = .pointer (some ⟨b0, 2, none⟩) := hD 2 (by kernel_rfl)
      clear hF hD
      have z0 := hk.cellS c2
      go_simp
      exact hK.out _ _ (Kp.refl _) rfl
    · intro a w' hk hF hD K hK
      have h2 : a.tmps[2]?.getD undef = .int .i64 (k : Int) := hF 2 (by kernel_rfl)
      clear hF hD
      go_simp
      exact hK.out _ _ (Kp.refl _) rfl
    · intro a w' hk hF hD K hK
      have h28 : a.tmps[28]?.getD undef = .slice (some ⟨pl, ol, none⟩) le.length c := hD 3 (by kernel_rfl)
      have h29 : a.tmps[29]?.getD undef = .int .i64 (k : Int) := hD 4 (by kernel_rfl)
      clear hF hD
      go_simp
      exact hK.out _ _ (Kp.refl _) rfl
    · intro a w' hk hF hD K hK
      have h30 : a.tmps[30]?.getD undef = .pointer (some ⟨pl, ol + k, none⟩) := hD 5 (by kernel_rfl)
      clear hF hD
      have z0 := hk.cellS cl
      go_simp
      exact hK.out _ _ (Kp.refl _) rfl
    · intro a w' hk hF hD K hK
      have h26 : a.tmps[26]?.getD undef = .int .i64 hi := hD 1 (by kernel_rfl)
      have h31 : a.tmps[31]?.getD undef = .int .i64 y := hD 6 (by kernel_rfl)
      clear hF hD
      go_simp
      exact hK.out _ _ (Kp.refl _) rfl
    · intro a w' hk hF hD K hK
      have h32 : a.tmps[32]?.getD undef = .bool false := hD 7 (by kernel_rfl)
      clear hF hD
      go_simp
      exact hK.out _ _ (Kp.refl _) rfl
    · intro a w' hk hF hD K hK
      have h8 : a.tmps[8]?.getD undef = .int .i64 (qa : Int) := hF 8 (by kernel_rfl)
      have h33 : a.tmps[33]?.getD undef = .bool false := hD 8 (by kernel_rfl)
      have g33 := guard_get h33
      clear hF hD
      go_simp
      exact hK.out _ _ (Kp.refl _) rfl
    · intro a w' hk hF hD K hK
      have h9 : a.tmps[9]?.getD undef = .int .i64 (qb : Int) := hF 9 (by kernel_rfl)
      have h33 : a.tmps[33]?.getD undef = .bool false := hD 8 (by kernel_rfl)
      have g33 := guard_get h33
      clear hF hD
      go_simp
      exact hK.out _ _ (Kp.refl _) rfl
    · intro a w' hk hF hD K hK
      have h34 : a.tmps[34]?.getD undef = undef := hD 9 (by kernel_rfl)
      have h35 : a.tmps[35]?.getD undef = undef := hD 10 (by kernel_rfl)
      have h33 : a.tmps[33]?.getD undef = .bool false := hD 8 (by kernel_rfl)
      have g33 := guard_get h33
      clear hF hD
      go_simp
      exact hK.out _ _ (Kp.refl _) rfl
    · intro a w' hk hF hD K hK
      have h36 : a.tmps[36]?.getD undef = undef := hD 11 (by kernel_rfl)
      have h33 : a.tmps[33]?.getD undef = .bool false := hD 8 (by kernel_rfl)
      have g33 := guard_get h33
      clear hF hD
      go_simp
      exact hK.out _ _ (Kp.refl _) rfl
    · intro a w' hk hF hD K hK
      have h3 : a.tmps[3]?.getD undef = .pointer (some ⟨b0, 0, none⟩) := hF 3 (by kernel_rfl)
      have h37 : a.tmps[37]?.getD undef = undef := hD 12 (by kernel_rfl)
      clear hF hD
      rcases guard_und h37 with g37 | g37
      all_goals go_simp
      all_goals exact hK.out _ _ (Kp.refl _) rfl
    · intro a w' hk hF hD K hK
      have h38 : a.tmps[38]?.getD undef = undef := hD 13 (by kernel_rfl)
      have h37 : a.tmps[37]?.getD undef = undef := hD 12 (by kernel_rfl)
      clear hF hD
      rcases guard_und h37 with g37 | g37
      all_goals go_simp
      all_goals exact hK.out _ _ (Kp.refl _) rfl
    · intro a w' hk hF hD K hK
      have h3 : a.tmps[3]?.getD undef = .pointer (some ⟨b0, 0, none⟩) := hF 3 (by kernel_rfl)
      have h37 : a.tmps[37]?.getD undef = undef := hD 12 (by kernel_rfl)
      clear hF hD
      rcases guard_und h37 with g37 | g37
      all_goals go_simp
      all_goals exact hK.out _ _ (Kp.refl _) rfl
    · intro a w' hk hF hD K hK
      have h1 : a.tmps[1]?.getD undef = .slice (some ⟨gb, ob, none⟩) box.length cb := hF 1 (by kernel_rfl)
      have h37 : a.tmps[37]?.getD undef = undef := hD 12 (by kernel_rfl)
      clear hF hD
      rcases guard_und h37 with g37 | g37
      all_goals go_simp
      all_goals exact hK.out _ _ (Kp.refl _) rfl
    · intro a w' hk hF hD K hK
      have h40 : a.tmps[40]?.getD undef = undef := hD 15 (by kernel_rfl)
      have h41 : a.tmps[41]?.getD undef = undef := hD 16 (by kernel_rfl)
      have h37 : a.tmps[37]?.getD undef = undef := hD 12 (by kernel_rfl)
      clear hF hD
      rcases guard_und h37 with g37 | g37
      all_goals go_simp
      all_goals exact hK.out _ _ (Kp.refl _) rfl
    · intro a w' hk hF hD K hK
      have h9 : a.tmps[9]?.getD undef = .int .i64 (qb : Int) := hF 9 (by kernel_rfl)
      have h37 : a.tmps[37]?.getD undef = undef := hD 12 (by kernel_rfl)
      clear hF hD
      rcases guard_und h37 with g37 | g37
      all_goals go_simp
      all_goals exact hK.out _ _ (Kp.refl _) rfl
    · intro a w' hk hF hD K hK
      have h8 : a.tmps[8]?.getD undef = .int .i64 (qa : Int) := hF 8 (by kernel_rfl)
      have h37 : a.tmps[37]?.getD undef = undef := hD 12 (by kernel_rfl)
      clear hF hD
      rcases guard_und h37 with g37 | g37
      all_goals go_simp
      all_goals exact hK.out _ _ (Kp.refl _) rfl
    · intro a w' hk hF hD K hK
      have h39 : a.tmps[39]?.getD undef = undef := hD 14 (by kernel_rfl)
      have h42 : a.tmps[42]?.getD undef = undef := hD 17 (by kernel_rfl)
      have h43 : a.tmps[43]?.getD undef = undef := hD 18 (by kernel_rfl)
      have h44 : a.tmps[44]?.getD undef = undef := hD 19 (by kernel_rfl)
      have h37 : a.tmps[37]?.getD undef = undef := hD 12 (by kernel_rfl)
      clear hF hD
      rcases guard_und h37 with g37 | g37
      all_goals go_simp
      all_goals exact hK.out _ _ (Kp.refl _) rfl
    · intro a w' hk hF hD K hK
      have h45 : a.tmps[45]?.getD undef = undef := hD 20 (by kernel_rfl)
      have h37 : a.tmps[37]?.getD undef = undef := hD 12 (by kernel_rfl)
      clear hF hD
      rcases guard_und h37 with g37 | g37
      all_goals go_simp
      all_goals exact hK.out _ _ (Kp.refl _) rfl
    · intro a w' hk hF hD K hK
      have h46 : a.tmps[46]?.getD undef = undef := hD 21 (by kernel_rfl)
      have h37 : a.tmps[37]?.getD undef = undef := hD 12 (by kernel_rfl)
      clear hF hD
      rcases guard_und h37 with g37 | g37
      all_goals go_simp
      all_goals exact hK.out _ _ (Kp.refl _) rfl
    · intro a w' hk hF hD K hK
      have h37 : a.tmps[37]?.getD undef = undef := hD 12 (by kernel_rfl)
      have h47 : a.tmps[47]?.getD undef = undef := hD 22 (by kernel_rfl)
      have h33 : a.tmps[33]?.getD undef = .bool false := hD 8 (by kernel_rfl)
      have g33 := guard_get h33
      clear hF hD
      go_simp
      exact hK.out _ _ (Kp.refl _) rfl
    · exact fun i0 hi0 => by simp at hi0
    intro v w9 k9 hv
    have v8 : v 8 = .bool false := hv 8 (by omega)
    have v23 : v 23 = undef := hv 23 (by omega)
    clear hv
    simp only [G2.growPut, G2.gSlot, List.getElem?_toArray, List.getElem?_cons_zero, List.getElem?_cons_succ, Option.bind_some, List.setIfInBounds_toArray, List.set_cons_zero, List.set_cons_succ, List.drop_succ_cons, List.drop_zero, v8, v23]
    have u0 := k9.cellS o0
    have u1 := k9.cellS o1
    have B1k := (B1.kp k9 hl1)
    have f0 := B1k.free (j := 0) (by simp)
    have f1 := B1k.free (j := 1) (by simp)
    have d0 := B1k.cell (j := 0) rfl
    have d1 := B1k.cell (j := 1) rfl
    have B1e := (B1k.set (j := 0) (by simp) (.int .i64 lo)).set (j := 1) (by simp) (.int .i64 hi)
    simp only [List.set_cons_zero, List.set_cons_succ, List.toList_toArray] at B1e
    have hl1k := B1k.lt (by simp)
    have kE := ((k2.trans k9).set (p := ⟨b1, 0, none⟩) hwb1.1 (.int .i64 lo)).set (p := ⟨b1, 1, none⟩) hwb1.1 (.int .i64 hi)
    clear B1k
    go_wp2
    refine bodyPost_ret (results_cell_bx rfl _ _ b1 [.int .i64 lo, .int .i64 hi] _ rfl B1e.range Tryz.underlying57 rfl (by kernel_rfl)) rfl ?_
    exact ⟨by rw [HR.out], kE⟩
end Go.Proofs.YtlbhidiliogflaaGreat
