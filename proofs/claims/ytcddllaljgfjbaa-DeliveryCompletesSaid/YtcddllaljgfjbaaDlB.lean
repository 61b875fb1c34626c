
/-
A delivery out of the causal buffer: the walk.
-/
import Derived.Test.YtcddllaljgfjbaaDlA
namespace Go.Proofs.Ytcddllaljgfjbaa
set_option linter.unusedSimpArgs false
set_option linter.unusedVariables false
open Go.RowKit

set_option maxRecDepth 8000 in
set_option maxHeartbeats 4000000 in
theorem bDeliver_any {S : Nat → Prop} {base : Nat} {w : World} {b cb cc mb n : Nat} {c : List Int} {M : List EvS} (h : BfW S base w b cb cc mb n c M) (e : Ev) (v : Value) (h0 : 0 ≤ e.r) (h1 : e.r < n) (hx : c.getD e.r.toNat 0 < e.n) :
    Calls Try.prog 42 #[.pointer (some ⟨b, 0, none⟩), evV e v] w fun x w' => x = .returned (.tuple #[]) ∧ BfW S base w' b cb cc mb n (setD c e) (dropM e M) ∧ Fx (fun q => q = mb ∨ q = cb) w w' := by
  obtain ⟨L, hL⟩ : ∃ L, L = evL e v := ⟨_, rfl⟩
  have lL : L.length = 13 := by rw [hL]; rfl
  have k0 := (Kp.refl w).alloc (.cells L.toArray 33)
  have hE := Bx.new w L.toArray 33
  have hb1 := h.kp k0
  have zb := h.blt
  have zc := h.clt
  have zm := h.mlt
  rw [show evV e v = .agg L.toArray by rw [hL]]
  clear h
  replace hL := hid hL
  obtain ⟨k, hk0⟩ : ∃ k : Nat, k = e.r.toNat := ⟨_, rfl⟩
  have hkr : e.r = (k : Int) := by omega
  have hkn : k < n := by omega
  have hSD : Hid (setD c e = c.set k e.n) := hid (by rw [hk0]; rfl)
  rw [← hk0, getD_i (by rw [hb1.len]; exact hkn)] at hx
  have HN : Hid (∀ W, Calls Try.prog 39 #[.agg L.toArray] W fun x w' => x = .returned (.agg #[.int .i64 (k : Int), .int .i64 e.n]) ∧ Kp W w') := hid fun W => by
    rw [hL.out, ← hkr]
    exact dName_any e v W
  have HD : Hid (nameE e = ((k : Int), e.n)) := hid (by unfold nameE; rw [hkr])
  have e0' : L[0]? = some (.int .i64 (k : Int)) := by rw [hL.out, ← hkr]; rfl
  have e1' : L[1]? = some (.int .i64 e.n) := by rw [hL.out]; rfl
  replace hkr := hid hkr
  clear hk0 h0 h1
  go_enter Try.func42, Try.ntmps42
  go_upto_region 1 with (fail)
  generalize w.alloc (.cells L.toArray 33) = w1 at *
  rw [List.toList_toArray] at hE
  have hel := hE.lt (by omega)
  obtain ⟨eb, heb⟩ : ∃ eb, eb = w.heap.size := ⟨_, rfl⟩
  rw [← heb] at hE hel ⊢
  have zb' : b ≠ eb := by omega
  have zc' : cb ≠ eb := by omega
  have zm' : mb ≠ eb := by omega
  replace heb := hid heb
  clear zb zc zm
  have n1 := hb1.n1
  have n2 := hb1.n2
  have n3 := hb1.n3
  have zb := hb1.blt
  have zc := hb1.clt
  have zm := hb1.mlt
  have y0 := hb1.box.cell (j := 0) rfl
  have y1 := hb1.box.cell (j := 1) rfl
  have e0 := hE.cell (j := 0) e0'
  have e1 := hE.cell (j := 1) e1'
  have HrE : Hid (∀ W, Fx (fun q => q = mb) w1 W → W.rangeAt eb 0 L) := hid fun W k => (hE.keep (k.block eb hel (fun e => zm' e.symm))).range
  have HMd : Hid (∀ W, Kp w1 W → ∃ w', Sem.run Try.prog (Builtin.delete_ #[93, 66] 0 #[.map (some mb), .agg #[.int .i64 (k : Int), .int .i64 e.n]]) W = .ok (.tuple #[]) w' ∧ MapL dtV w' mb (entL (dropM e M)) ∧ Kg W w' mb) := hid fun W kW => by
    obtain ⟨w', r1, r2, r3, -⟩ := (hb1.map.kp kW).del keyDt Try.underlying93 (nameE e) 0
    rw [entL_del] at r2
    rw [HD.out] at r1
    exact ⟨w', r1, r2, r3⟩
  replace hb1 := hid hb1
  refine G2.wp_region_growT Kp [] 6 28 (G2.pvL [G2.eqv (.pointer (some ⟨b, 0, none⟩)), G2.eqv (.pointer (some ⟨b, 0, none⟩)), G2.eqv (.pointer (some ⟨b, 1, none⟩)), G2.eqv (.map (some mb)), G2.eqv (.agg L.toArray), G2.eqv (.agg #[.int .i64 (k : Int), .int .i64 e.n])]) (by kernel_rfl) (by kernel_rfl) rfl (fun x => Kp.refl x) (fun _ _ _ h k => h.trans k) (Kp.refl _).drew (by intro _ _ _ _ _ h; exact h) (G2.pvL_keep (G2.stabL_cons (G2.stab_eq _) (G2.stabL_cons (G2.stab_eq _) (G2.stabL_cons (G2.stab_eq _) (G2.stabL_cons (G2.stab_eq _) (G2.stabL_cons (G2.stab_eq _) (G2.stabL_cons (G2.stab_eq _) (G2.stabL_nil)))))))) (G2.stepsT_cons 0 ?_ (G2.stepsT_cons 1 ?_ (G2.stepsT_cons 2 ?_ (G2.stepsT_cons 3 ?_ (G2.stepsT_cons 4 ?_ (G2.stepsT_cons 5 ?_ (G2.stepsT_nil _ _ _))))))) ?_ ?_
  · intro a w' hk hF hD K hK
    have h0 : a.tmps[0]?.getD undef = .pointer (some ⟨b, 0, none⟩) := hF 0 (by kernel_rfl)
    clear hF hD
    go_simp
    exact hK.out _ _ (Kp.refl _) rfl
  · intro a w' hk hF hD K hK
    have h4 : a.tmps[4]?.getD undef = .pointer (some ⟨b, 0, none⟩) := hD 0 (by kernel_rfl)
    clear hF hD
    go_simp
    exact hK.out _ _ (Kp.refl _) rfl
  · intro a w' hk hF hD K hK
    have h5 : a.tmps[5]?.getD undef = .pointer (some ⟨b, 0, none⟩) := hD 1 (by kernel_rfl)
    clear hF hD
    go_simp
    exact hK.out _ _ (Kp.refl _) rfl
  · intro a w' hk hF hD K hK
    have h6 : a.tmps[6]?.getD undef = .pointer (some ⟨b, 1, none⟩) := hD 2 (by kernel_rfl)
    clear hF hD
    have z0 := hk.cellS y1
    go_simp
    exact hK.out _ _ (Kp.refl _) rfl
  · intro a w' hk hF hD K hK
    have h3 : a.tmps[3]?.getD undef = .pointer (some ⟨eb, 0, none⟩) := hF 3 (by kernel_rfl)
    clear hF hD
    rw [if_pos (by simp [Region.wanted])]
    refine wp_load_mid 33 (.tmp 3) rfl eb 0 ((eval_tmp _ _).trans h3) L _ (HrE.out _ (hk.fx _)) Try.underlying33 rfl (iEv lL) ?_
    exact hK.out _ _ (Kp.refl _) rfl
  · intro a w' hk hF hD K hK
    have h8 : a.tmps[8]?.getD undef = .agg L.toArray := hD 4 (by kernel_rfl)
    clear hF hD
    go_simp
    refine (HN.out _).mono ?_
    rintro e w9 ⟨rfl, k9⟩
    exact hK.out _ _ k9 rfl
  · exact fun i0 hi0 => by simp at hi0
  intro v w9 k9 hv
  have v3 : v 3 = .map (some mb) := hv 3 (by omega)
  have v5 : v 5 = .agg #[.int .i64 (k : Int), .int .i64 e.n] := hv 5 (by omega)
  clear hv
  simp only [G2.growPut, G2.gSlot, List.getElem?_toArray, List.getElem?_cons_zero, List.getElem?_cons_succ, Option.bind_some, List.setIfInBounds_toArray, List.set_cons_zero, List.set_cons_succ, List.drop_succ_cons, List.drop_zero, v3, v5]
  obtain ⟨w2, r1, v6, r3⟩ := HMd.out _ k9
  refine wpl_mapdel rfl (.tmp 7) (.tmp 9) 93 66 rfl rfl rfl r1 ?_
  replace k9 : Fx (fun q => q = mb) w1 w2 := (k9.fx _).trans (r3.fx (.inl rfl))
  clear r1 r3 w9
  obtain ⟨w9, rfl⟩ : ∃ w9, w9 = w2 := ⟨_, rfl⟩
  obtain ⟨wd, rfl⟩ : ∃ wd, wd = w9 := ⟨_, rfl⟩
  have kd := k9
  clear k9
  have y0' := kd.cellS y0 n2
  have e0 := kd.cellS e0 (fun e => zm' e.symm)
  have e1 := kd.cellS e1 (fun e => zm' e.symm)
  have hclk := hb1.out.clk.fx kd (fun q hq => by
    obtain rfl : cb = q := by simpa [Value.ownBlock] using hq
    exact n3)
  have hbox := hb1.out.box.fx kd zb n2
  have hlen := hb1.out.len
  have i0 := hclk.intCell (k := k) hlen.symm (by omega)
  have zc9 := Nat.lt_of_lt_of_le zc kd.size
  have fz := hclk.frozen hlen.symm k
  have hset := hclk.intSet (k := k) hlen.symm (by omega) e.n
  have hkI : (k : Int) < (n : Int) := by omega
  have hkI0 : (0 : Int) ≤ (k : Int) := by omega
  have zeb9 : eb < wd.heap.size := Nat.lt_of_lt_of_le hel kd.size
  generalize c[k] = ck at *
  have hmx : max ck e.n = e.n := by omega
  have hm1 : ¬ e.n < ck := by omega
  have hm2 : ¬ e.n ≤ ck := by omega
  have hm3 : ck ≤ e.n := by omega
  replace hlen := hid hlen
  clear y0 y1 HMd HrE HN
  generalize e.n = en at *
  go_upto_region 2 with (fail)
  refine G2.wp_region_growT Kp [] 17 28 (G2.pvL [G2.eqv (.pointer (some ⟨b, 0, none⟩)), G2.eqv (.pointer (some ⟨b, 0, none⟩)), G2.eqv (.pointer (some ⟨b, 0, none⟩)), G2.eqv (.slice (some ⟨cb, 0, none⟩) n cc), G2.eqv (.pointer (some ⟨eb, 0, none⟩)), G2.eqv (.int .i64 (k : Int)), G2.eqv (.pointer (some ⟨b, 0, none⟩)), G2.eqv (.pointer (some ⟨b, 0, none⟩)), G2.eqv (.pointer (some ⟨b, 0, none⟩)), G2.eqv (.slice (some ⟨cb, 0, none⟩) n cc), G2.eqv (.pointer (some ⟨eb, 0, none⟩)), G2.eqv (.int .i64 (k : Int)), G2.eqv (.pointer (some ⟨cb, k, none⟩)), G2.eqv (.int .i64 ck), G2.eqv (.pointer (some ⟨eb, 1, none⟩)), G2.eqv (.int .i64 en), G2.eqv (.int .i64 en)]) (by kernel_rfl) (by kernel_rfl) rfl (fun x => Kp.refl x) (fun _ _ _ h k => h.trans k) (Kp.refl _).drew (by intro _ _ _ _ _ h; exact h) (G2.pvL_keep (G2.stabL_cons (G2.stab_eq _) (G2.stabL_cons (G2.stab_eq _) (G2.stabL_cons (G2.stab_eq _) (G2.stabL_cons (G2.stab_eq _) (G2.stabL_cons (G2.stab_eq _) (G2.stabL_cons (G2.stab_eq _) (G2.stabL_cons (G2.stab_eq _) (G2.stabL_cons (G2.stab_eq _) (G2.stabL_cons (G2.stab_eq _) (G2.stabL_cons (G2.stab_eq _) (G2.stabL_cons (G2.stab_eq _) (G2.stabL_cons (G2.stab_eq _) (G2.stabL_cons (G2.stab_eq _) (G2.stabL_cons (G2.stab_eq _) (G2.stabL_cons (G2.stab_eq _) (G2.stabL_cons (G2.stab_eq _) (G2.stabL_cons (G2.stab_eq _) (G2.stabL_nil))))))))))))))))))) (G2.stepsT_cons 0 ?_ (G2.stepsT_cons 1 ?_ (G2.stepsT_cons 2 ?_ (G2.stepsT_cons 3 ?_ (G2.stepsT_cons 4 ?_ (G2.stepsT_cons 5 ?_ (G2.stepsT_cons 6 ?_ (G2.stepsT_cons 7 ?_ (G2.stepsT_cons 8 ?_ (G2.stepsT_cons 9 ?_ (G2.stepsT_cons 10 ?_ (G2.stepsT_cons 11 ?_ (G2.stepsT_cons 12 ?_ (G2.stepsT_cons 13 ?_ (G2.stepsT_cons 14 ?_ (G2.stepsT_cons 15 ?_ (G2.stepsT_cons 16 ?_ (G2.stepsT_nil _ _ _)))))))))))))))))) ?_ ?_
  · intro a w' hk hF hD K hK
    have h0 : a.tmps[0]?.getD undef = .pointer (some ⟨b, 0, none⟩) := hF 0 (by kernel_rfl)
    clear hF hD
    go_simp
    exact hK.out _ _ (Kp.refl _) rfl
  · intro a w' hk hF hD K hK
    have h10 : a.tmps[10]?.getD undef = .pointer (some ⟨b, 0, none⟩) := hD 0 (by kernel_rfl)
    clear hF hD
    go_simp
    exact hK.out _ _ (Kp.refl _) rfl
  · intro a w' hk hF hD K hK
    have h11 : a.tmps[11]?.getD undef = .pointer (some ⟨b, 0, none⟩) := hD 1 (by kernel_rfl)
    clear hF hD
    go_simp
    exact hK.out _ _ (Kp.refl _) rfl
  · intro a w' hk hF hD K hK
    have h12 : a.tmps[12]?.getD undef = .pointer (some ⟨b, 0, none⟩) := hD 2 (by kernel_rfl)
    clear hF hD
    have z0 := hk.cellS y0'
    go_simp
    exact hK.out _ _ (Kp.refl _) rfl
  · intro a w' hk hF hD K hK
    have h3 : a.tmps[3]?.getD undef = .pointer (some ⟨eb, 0, none⟩) := hF 3 (by kernel_rfl)
    clear hF hD
    go_simp
    exact hK.out _ _ (Kp.refl _) rfl
  · intro a w' hk hF hD K hK
    have h14 : a.tmps[14]?.getD undef = .pointer (some ⟨eb, 0, none⟩) := hD 4 (by kernel_rfl)
    clear hF hD
    have z0 := hk.cellS e0
    go_simp
    exact hK.out _ _ (Kp.refl _) rfl
  · intro a w' hk hF hD K hK
    have h0 : a.tmps[0]?.getD undef = .pointer (some ⟨b, 0, none⟩) := hF 0 (by kernel_rfl)
    clear hF hD
    go_simp
    exact hK.out _ _ (Kp.refl _) rfl
  · intro a w' hk hF hD K hK
    have h16 : a.tmps[16]?.getD undef = .pointer (some ⟨b, 0, none⟩) := hD 6 (by kernel_rfl)
    clear hF hD
    go_simp
    exact hK.out _ _ (Kp.refl _) rfl
  · intro a w' hk hF hD K hK
    have h17 : a.tmps[17]?.getD undef = .pointer (some ⟨b, 0, none⟩) := hD 7 (by kernel_rfl)
    clear hF hD
    go_simp
    exact hK.out _ _ (Kp.refl _) rfl
  · intro a w' hk hF hD K hK
    have h18 : a.tmps[18]?.getD undef = .pointer (some ⟨b, 0, none⟩) := hD 8 (by kernel_rfl)
    clear hF hD
    have z0 := hk.cellS y0'
    go_simp
    exact hK.out _ _ (Kp.refl _) rfl
  · intro a w' hk hF hD K hK
    have h3 : a.tmps[3]?.getD undef = .pointer (some ⟨eb, 0, none⟩) := hF 3 (by kernel_rfl)
    clear hF hD
    go_simp
    exact hK.out _ _ (Kp.refl _) rfl
  · intro a w' hk hF hD K hK
    have h20 : a.tmps[20]?.getD undef = .pointer (some ⟨eb, 0, none⟩) := hD 10 (by kernel_rfl)
    clear hF hD
    have z0 := hk.cellS e0
    go_simp
    exact hK.out _ _ (Kp.refl _) rfl
  · intro a w' hk hF hD K hK
    have h19 : a.tmps[19]?.getD undef = .slice (some ⟨cb, 0, none⟩) n cc := hD 9 (by kernel_rfl)
    have h21 : a.tmps[21]?.getD undef = .int .i64 (k : Int) := hD 11 (by kernel_rfl)
    clear hF hD
    go_simp
    exact hK.out _ _ (Kp.refl _) rfl
  · intro a w' hk hF hD K hK
    have h22 : a.tmps[22]?.getD undef = .pointer (some ⟨cb, k, none⟩) := hD 12 (by kernel_rfl)
    clear hF hD
    have z0 := hk.cellS i0
    go_simp
    exact hK.out _ _ (Kp.refl _) rfl
  · intro a w' hk hF hD K hK
    have h3 : a.tmps[3]?.getD undef = .pointer (some ⟨eb, 0, none⟩) := hF 3 (by kernel_rfl)
    clear hF hD
    go_simp
    exact hK.out _ _ (Kp.refl _) rfl
  · intro a w' hk hF hD K hK
    have h24 : a.tmps[24]?.getD undef = .pointer (some ⟨eb, 1, none⟩) := hD 14 (by kernel_rfl)
    clear hF hD
    have z0 := hk.cellS e1
    go_simp
    exact hK.out _ _ (Kp.refl _) rfl
  · intro a w' hk hF hD K hK
    have h23 : a.tmps[23]?.getD undef = .int .i64 ck := hD 13 (by kernel_rfl)
    have h25 : a.tmps[25]?.getD undef = .int .i64 en := hD 15 (by kernel_rfl)
    clear hF hD
    have z0 := hmx
    have z1 := hm1
    have z2 := hm2
    have z3 := hm3
    have z4 := hx
    go_simp
    exact hK.out _ _ (Kp.refl _) rfl
  · exact fun i0 hi0 => by simp at hi0
  intro v w9 k9 hv
  have v3 : v 3 = .slice (some ⟨cb, 0, none⟩) n cc := hv 3 (by omega)
  have v5 : v 5 = .int .i64 (k : Int) := hv 5 (by omega)
  have v16 : v 16 = .int .i64 en := hv 16 (by omega)
  clear hv
  simp only [G2.growPut, G2.gSlot, List.getElem?_toArray, List.getElem?_cons_zero, List.getElem?_cons_succ, Option.bind_some, List.setIfInBounds_toArray, List.set_cons_zero, List.set_cons_succ, List.drop_succ_cons, List.drop_zero, v3, v5, v16]
  have hbox2 := hbox.kp k9 (hbox.lt (by simp))
  have hmap2 := v6.kp k9
  have hset2 := (hclk.kp k9).intSet (k := k) hlen.out.symm (by have := hlen.out; omega) en
  have fz2 := (hclk.kp k9).frozen hlen.out.symm k
  have zc92 := Nat.lt_of_lt_of_le zc9 k9.size
  have i02 := k9.cellS i0
  clear y0' e0 e1 i0 fz hset
  go_wp2
  go_end0
  have kS : Fx (fun q => q = mb ∨ q = cb) w1 (w9.setCell ⟨cb, k, none⟩ (.int .i64 en)) := (((kd.mono fun q _ hq => .inl hq).trans (k9.fx _)).setX ⟨cb, k, none⟩ _ (.inl (.inr rfl)))
  refine ⟨rfl, ⟨?_, ?_, ?_, ?_, ?_, n1, n2, n3, hb1.out.lb, hb1.out.lm, hb1.out.sb, hb1.out.sc, hb1.out.sm⟩, ((k0.fx _).trans kS)⟩
  · exact hbox2.keep (set_block _ ⟨cb, k, none⟩ _ _ (fun e => n1 e))
  · rw [setD_len]; exact hlen.out
  · rw [hSD.out]; exact hset2
  · exact hmap2.keep (set_block _ ⟨cb, k, none⟩ _ _ (fun e => n3 e.symm))
  · intro x hx
    obtain ⟨g1, g2⟩ := hb1.out.past x (List.mem_filter.1 hx).1
    refine ⟨g1.fx kS fun q hq => ?_, g2⟩
    rintro (h | h)
    · exact (g2 q hq).2.2.2 h
    · exact (g2 q hq).2.2.1 h
end Go.Proofs.Ytcddllaljgfjbaa
