
/-
Search: the reference's equality of answers: an answer is the same as itself.
-/
import Derived.Test.YtlbhidiliogflaaGreatSeZ
import Derived.Test.YtlbhidiliogflaaGreatLaw1
import Derived.Deep.MidRow
namespace Go.Proofs.YtlbhidiliogflaaGreat
set_option linter.unusedSimpArgs false
set_option linter.unusedVariables false
open Go.RowKit

set_option maxHeartbeats 2000000 in
theorem rInts20_refl (va vb : Value) (l : List Int) (w : World) (ha : Ints w va l) (hb : Ints w vb l) :
    Calls Tryz.prog 24 #[va, vb] w fun e w' => e = .returned (.bool true) ∧ Kp w w' := by
  obtain ⟨A, c, rfl, hc, hm⟩ := ha.form
  obtain ⟨A', c', rfl, hc', hm'⟩ := hb.form
  go_enter Tryz.func24, Tryz.ntmps24
  go_wp2
  go_loopw [5] (fun i wr => ∃ k : Nat, k ≤ l.length ∧ i = .int .i64 k ∧ Kp w wr) (fun i _ => l.length - (intOf i).toNat)
  case atStart => exact ⟨0, Nat.zero_le _, rfl, Kp.refl _⟩
  case round =>
    obtain ⟨k, hk, rfl, hbel⟩ := hrel
    by_cases hlt : k < l.length
    · obtain ⟨q, o, rfl, hq, h1⟩ := (ha.keep (pl_stable _) hbel).ints hlt
      obtain ⟨q', o', rfl, hq', h2⟩ := (hb.keep (pl_stable _) hbel).ints hlt
      generalize l[k] = x at *
      have q1 : (0 : Int) ≤ k := by omega
      have q2 : (k : Int) < l.length := by omega
      go_wp2
      go_quiet (fail)
      go_wp2
      go_roundw
      case rel => exact ⟨k + 1, by omega, by go_num, hbel.drewN _⟩
      case measure => simp [intOf]; omega
    · go_wp2
      go_ret
      exact ⟨rfl, hbel⟩
set_option maxRecDepth 100000 in
theorem run_neq_step (w : World) (a b c : Int) : (binOp .neq 54 (.agg #[.int .i64 a, .int .i64 b, .int .i64 c]) (.agg #[.int .i64 a, .int .i64 b, .int .i64 c])).run Tryz.prog w = .ok (.bool false) w := by
  have hu : Tryz.prog.underlying 54 = some (.struct (Tryz.prog.fieldsOf 54)) := by kernel_rfl
  have hf := run_equalIn_struct (P := Tryz.prog) w 9999 54 #[.int .i64 a, .int .i64 b, .int .i64 c] #[.int .i64 a, .int .i64 b, .int .i64 c] hu (by kernel_rfl)
  simp only [binOp]
  have hfs : (Tryz.prog.fieldsOf 54).toList = (match Tryz.prog.underlying 54 with | some (.struct fs) => fs.toList | _ => []) := rfl
  rw [Tryz.underlying54] at hfs
  simp only [Op.equal, Op.maxDepth, Sem.run_bind, hf, hfs]
  go_simp
theorem Sl.stp {w : World} {A : Option Addr} {n c : Nat} {l : List Stp} (h : Stps w (.slice A n c) l) {k : Nat} (hk : k < l.length) :
    ∃ b o, A = some ⟨b, o, none⟩ ∧ b < w.heap.size ∧ w.cell? ⟨b, o + k * 3, none⟩ = some (.int .i64 l[k].kind) ∧ w.cell? ⟨b, o + k * 3 + 1, none⟩ = some (.int .i64 l[k].index) ∧ w.cell? ⟨b, o + k * 3 + 2, none⟩ = some (.int .i64 l[k].cell) := by
  obtain ⟨b, o, cs, hA, had, hcs, hc, hr⟩ := h.at_ hk
  unfold Pl encStp at hr
  subst hr
  exact ⟨b, o, hA, had, hc 0 _ rfl, hc 1 _ rfl, hc 2 _ rfl⟩
set_option maxRecDepth 8000 in
set_option maxHeartbeats 2000000 in
theorem rSteps_refl (va vb : Value) (l : List Stp) (w : World) (ha : Stps w va l) (hb : Stps w vb l) :
    Calls Tryz.prog 53 #[va, vb] w fun e w' => e = .returned (.bool true) ∧ Kp w w' := by
  obtain ⟨A, c, rfl, hc, hm⟩ := ha.form
  obtain ⟨A', c', rfl, hc', hm'⟩ := hb.form
  go_enter Tryz.func53, Tryz.ntmps53
  go_wp2
  go_loopw [5] (fun i wr => ∃ k : Nat, k ≤ l.length ∧ i = .int .i64 k ∧ Kp w wr) (fun i _ => l.length - (intOf i).toNat)
  case atStart => exact ⟨0, Nat.zero_le _, rfl, Kp.refl _⟩
  case round =>
    obtain ⟨k, hk, rfl, hbel⟩ := hrel
    by_cases hlt : k < l.length
    · obtain ⟨q, o, rfl, hq, h1, h2, h3⟩ := (ha.keep (pl_stable _) hbel).stp hlt
      obtain ⟨q', o', rfl, hq', h4, h5, h6⟩ := (hb.keep (pl_stable _) hbel).stp hlt
      generalize l[k] = x at *
      obtain ⟨x1, x2, x3⟩ := x
      dsimp only at h1 h2 h3 h4 h5 h6
      have q1 : (0 : Int) ≤ k := by omega
      have q2 : (k : Int) < l.length := by omega
      have hneq := fun W a b c => run_neq_step W a b c
      go_wp2
      go_quiet (fail)
      go_wp2
      go_roundw
      case rel => exact ⟨k + 1, by omega, by go_num, hbel.drewN _⟩
      case measure => simp [intOf]; omega
    · go_wp2
      go_ret
      exact ⟨rfl, hbel⟩
set_option maxRecDepth 8000 in
set_option maxHeartbeats 2000000 in
theorem EqualStp_refl (va vb : Value) (l : List Stp) (w : World) (ha : Stps w va l) (hb : Stps w vb l) :
    Calls Tryz.prog 12 #[va, vb] w fun e w' => e = .returned (.bool true) ∧ Kp w w' := by
  obtain ⟨A, c, rfl, hc, hm⟩ := ha.form
  obtain ⟨A', c', rfl, hc', hm'⟩ := hb.form
  go_enter Tryz.func12, Tryz.ntmps12
  go_wp2
  go_loopw [13] (fun i wr => ∃ k : Nat, k ≤ l.length ∧ i = .int .i64 k ∧ Kp w wr) (fun i _ => l.length - (intOf i).toNat)
  case atStart => exact ⟨0, Nat.zero_le _, rfl, Kp.refl _⟩
  case round =>
    obtain ⟨k, hk, rfl, hbel⟩ := hrel
    by_cases hlt : k < l.length
    · obtain ⟨q, o, rfl, hq, h1, h2, h3⟩ := (ha.keep (pl_stable _) hbel).stp hlt
      obtain ⟨q', o', rfl, hq', h4, h5, h6⟩ := (hb.keep (pl_stable _) hbel).stp hlt
      generalize l[k] = x at *
      obtain ⟨x1, x2, x3⟩ := x
      dsimp only at h1 h2 h3 h4 h5 h6
      have q1 : (0 : Int) ≤ k := by omega
      have q2 : (k : Int) < l.length := by omega
      have hneq := fun W a b c => run_neq_step W a b c
      go_wp2
      go_quiet (fail)
      go_wp2
      go_roundw
      case rel => exact ⟨k + 1, by omega, by go_num, hbel.drewN _⟩
      case measure => simp [intOf]; omega
    · go_wp2
      go_ret
      exact ⟨rfl, hbel⟩
theorem Sl.il {w : World} {A : Option Addr} {n c : Nat} {l : List (List Int)} (h : Sl rdIL 1 w (.slice A n c) l) {k : Nat} (hk : k < l.length) :
    ∃ b o A' c', A = some ⟨b, o, none⟩ ∧ b < w.heap.size ∧ w.cell? ⟨b, o + k, none⟩ = some (.slice A' l[k].length c') ∧ Ints w (.slice A' l[k].length c') l[k] := by
  obtain ⟨b, o, cs, hA, had, hcs, hc, v, rfl, ht⟩ := h.at_ hk
  obtain ⟨A', c', rfl, -, -⟩ := ht.form
  exact ⟨b, o, A', c', hA, had, by simpa using hc 0 _ rfl, ht⟩
theorem EqualInt_real : Real Tryz.prog 14 := ⟨_, Tryz.func14, by kernel_rfl, by kernel_rfl⟩
theorem Sl.trAt {n : Nat} {w : World} {A : Option Addr} {m c : Nat} {l : List Tr} (h : Sl (rdTr n) 5 w (.slice A m c) l) {k : Nat} (hk : k < l.length) :
    ∃ b o p0 A1 n1 c1 p2 p3 A4 n4 c4, A = some ⟨b, o, none⟩ ∧ b < w.heap.size ∧ w.cell? ⟨b, o + k * 5, none⟩ = some (.int .i64 p0) ∧ w.cell? ⟨b, o + k * 5 + 1, none⟩ = some (.slice A1 n1 c1) ∧ w.cell? ⟨b, o + k * 5 + 2, none⟩ = some (.int .i64 p2) ∧
      w.cell? ⟨b, o + k * 5 + 3, none⟩ = some (.int .i64 p3) ∧ w.cell? ⟨b, o + k * 5 + 4, none⟩ = some (.slice A4 n4 c4) ∧ rdTr n w [.int .i64 p0, .slice A1 n1 c1, .int .i64 p2, .int .i64 p3, .slice A4 n4 c4] l[k] := by
  obtain ⟨b, o, cs, hA, had, hcs, hc, hr⟩ := h.at_ hk
  obtain ⟨h5, -⟩ := rdTr_one _ _ _ _ hr
  obtain ⟨q0, q1, q2, q3, q4, rfl⟩ : ∃ q0 q1 q2 q3 q4, cs = [q0, q1, q2, q3, q4] := by
    match cs, h5 with
    | [q0, q1, q2, q3, q4], _ => exact ⟨q0, q1, q2, q3, q4, rfl⟩
  obtain ⟨p0, p2, p3, A1, A4, n1, c1, n4, c4, rfl, rfl, rfl, rfl, rfl⟩ := rdTr_form hr
  exact ⟨b, o, p0, A1, n1, c1, p2, p3, A4, n4, c4, hA, had, hc 0 _ rfl, hc 1 _ rfl, hc 2 _ rfl, hc 3 _ rfl, hc 4 _ rfl, hr⟩
set_option maxRecDepth 8000 in
set_option maxHeartbeats 4000000 in
theorem rTree_refl : ∀ (n : Nat) (t : Tr) (y0 y1 y2 y3 y4 z0 z1 z2 z3 z4 : Value) (w : World), rdTr n w [y0, y1, y2, y3, y4] t → rdTr n w [z0, z1, z2, z3, z4] t →
    Calls Tryz.prog 25 #[.agg #[y0, y1, y2, y3, y4], .agg #[z0, z1, z2, z3, z4]] w fun e w' => e = .returned (.bool true) ∧ Kp w w'
  | 0, _, _, _, _, _, _, _, _, _, _, _, _, h, _ => absurd h (fun h => h)
  | n + 1, .mk k ss c a ks, y0, y1, y2, y3, y4, z0, z1, z2, z3, z4, w, h, g => by
    obtain ⟨vs, vk, e1, h1, h2⟩ := h
    obtain ⟨us, uk, e2, g1, g2⟩ := g
    simp only [List.cons.injEq, and_true] at e1 e2
    obtain ⟨rfl, rfl, rfl, rfl, rfl⟩ := e1
    obtain ⟨rfl, rfl, rfl, rfl, rfl⟩ := e2
    obtain ⟨A1, c1, rfl, _, _⟩ := h1.form
    obtain ⟨A2, c2, rfl, _, _⟩ := h2.form
    obtain ⟨A3, c3, rfl, _, _⟩ := g1.form
    obtain ⟨A4, c4, rfl, _, _⟩ := g2.form
    have HI := hid (rTree_refl n)
    have k0 := ((Kp.refl w).alloc (.cells #[.int .i64 k, .slice A1 ss.length c1, .int .i64 c, .int .i64 a, .slice A2 ks.length c2] 34)).alloc (.cells #[.int .i64 k, .slice A3 ss.length c3, .int .i64 c, .int .i64 a, .slice A4 ks.length c4] 34)
    have BA := (Bx.new w #[.int .i64 k, .slice A1 ss.length c1, .int .i64 c, .int .i64 a, .slice A2 ks.length c2] 34).kp ((Kp.refl _).alloc (.cells #[.int .i64 k, .slice A3 ss.length c3, .int .i64 c, .int .i64 a, .slice A4 ks.length c4] 34)) (by simp)
    have BB := Bx.new (w.alloc (.cells #[.int .i64 k, .slice A1 ss.length c1, .int .i64 c, .int .i64 a, .slice A2 ks.length c2] 34)) #[.int .i64 k, .slice A3 ss.length c3, .int .i64 c, .int .i64 a, .slice A4 ks.length c4] 34
    rw [World.size_alloc] at BB
    go_enter Tryz.func25, Tryz.ntmps25
    go_wp2_with fail
    generalize (w.alloc (.cells #[.int .i64 k, .slice A1 ss.length c1, .int .i64 c, .int .i64 a, .slice A2 ks.length c2] 34)).alloc (.cells #[.int .i64 k, .slice A3 ss.length c3, .int .i64 c, .int .i64 a, .slice A4 ks.length c4] 34) = w0 at *
    obtain ⟨p1, hp1⟩ : ∃ p1, p1 = w.heap.size := ⟨_, rfl⟩
    obtain ⟨p2, hp2⟩ : ∃ p2, p2 = p1 + 1 := ⟨_, rfl⟩
    rw [← hp1] at BA BB ⊢
    rw [← hp2] at BB ⊢
    replace hp1 := hid hp1
    replace hp2 := hid hp2
    refine (rSteps_refl _ _ ss w0 (h1.keep (pl_stable _) k0) (g1.keep (pl_stable _) k0)).mono ?_
    rintro e w1 ⟨rfl, k1⟩
    have k01 := k0.trans k1
    have BA1 := BA.kp k1 (BA.lt (by simp))
    have BB1 := BB.kp k1 (BB.lt (by simp))
    have a4 := BA1.cell (j := 4) rfl
    have b4 := BB1.cell (j := 4) rfl
    have hl1 := BA1.lt (by simp)
    have hl2 := BB1.lt (by simp)
    clear BA BB k0 k1 h1 g1
    go_wp2_with fail
    go_loopw [5] (fun i wr => ∃ k : Nat, k ≤ ks.length ∧ i = .int .i64 k ∧ Kp w1 wr) (fun i _ => ks.length - (intOf i).toNat)
    case atStart => exact ⟨0, Nat.zero_le _, rfl, Kp.refl _⟩
    case round =>
      obtain ⟨j, hj, rfl, hbel⟩ := hrel
      have d1 := hbel.cellS a4
      have d2 := hbel.cellS b4
      have kk := k01.trans hbel
      by_cases hlt : j < ks.length
      · obtain ⟨g, o, p0, A5, n5, c5, q2, q3, A6, n6, c6, rfl, hg, i0, i1, i2, i3, i4, hr1⟩ := (h2.keep (rdTr_stable n) kk).trAt hlt
        obtain ⟨g', o', p0', A7, n7, c7, q2', q3', A8, n8, c8, rfl, hg', j0, j1, j2, j3, j4, hr2⟩ := (g2.keep (rdTr_stable n) kk).trAt hlt
        have HR1 := hid hr1
        have HR2 := hid hr2
        generalize ks[j] = t at *
        clear hr1 hr2
        have q1 : (0 : Int) ≤ j := by omega
        have q2x : (j : Int) < ks.length := by omega
        go_upto_region 6 with (fail)
        refine G2.wp_region_growT Kp [] 11 61 (G2.pvL [G2.eqv (.pointer (some ⟨p1, 4, none⟩)), G2.eqv (.slice (some ⟨g, o, none⟩) ks.length c2), G2.eqv (.int .i64 (j : Int)), G2.eqv (.pointer (some ⟨g, o + j * 5, none⟩)), G2.eqv (.agg #[.int .i64 p0, .slice A5 n5 c5, .int .i64 q2, .int .i64 q3, .slice A6 n6 c6]), G2.eqv (.pointer (some ⟨p2, 4, none⟩)), G2.eqv (.slice (some ⟨g', o', none⟩) ks.length c4), G2.eqv (.int .i64 (j : Int)), G2.eqv (.pointer (some ⟨g', o' + j * 5, none⟩)), G2.eqv (.agg #[.int .i64 p0', .slice A7 n7 c7, .int .i64 q2', .int .i64 q3', .slice A8 n8 c8]), G2.eqv (.bool true)]) (by kernel_rfl) (by kernel_rfl) rfl (fun x => Kp.refl x) (fun _ _ _ h k => h.trans k) (Kp.refl _).drew (fun _ _ _ _ _ h => h) (G2.pvL_keep (G2.stabL_cons (G2.stab_eq _) (G2.stabL_cons (G2.stab_eq _) (G2.stabL_cons (G2.stab_eq _) (G2.stabL_cons (G2.stab_eq _) (G2.stabL_cons (G2.stab_eq _) (G2.stabL_cons (G2.stab_eq _) (G2.stabL_cons (G2.stab_eq _) (G2.stabL_cons (G2.stab_eq _) (G2.stabL_cons (G2.stab_eq _) (G2.stabL_cons (G2.stab_eq _) (G2.stabL_cons (G2.stab_eq _) (G2.stabL_nil))))))))))))) (G2.stepsT_cons 0 ?_ (G2.stepsT_cons 1 ?_ (G2.stepsT_cons 2 ?_ (G2.stepsT_cons 3 ?_ (G2.stepsT_cons 4 ?_ (G2.stepsT_cons 5 ?_ (G2.stepsT_cons 6 ?_ (G2.stepsT_cons 7 ?_ (G2.stepsT_cons 8 ?_ (G2.stepsT_cons 9 ?_ (G2.stepsT_cons 10 ?_ (G2.stepsT_nil _ _ _)))))))))))) ?_ ?_
        · intro a w' hk hF hD K hK
          have h2 : a.tmps[2]?.getD undef = .pointer (some ⟨p1, 0, none⟩) := hF 2 (by kernel_rfl)
          clear hF hD
          go_simp
          exact hK.out _ _ (Kp.refl _) rfl
        · intro a w' hk hF hD K hK
          have h49 : a.tmps[49]?.getD undef = .pointer (some ⟨p1, 4, none⟩) := hD 0 (by kernel_rfl)
          clear hF hD
          have z := hk.cellS d1
          go_simp
          exact hK.out _ _ (Kp.refl _) rfl
        · intro a w' hk hF hD K hK
          have h5 : a.tmps[5]?.getD undef = .int .i64 (j : Int) := hF 5 (by kernel_rfl)
          clear hF hD
          go_simp
          exact hK.out _ _ (Kp.refl _) rfl
        · intro a w' hk hF hD K hK
          have h50 : a.tmps[50]?.getD undef = .slice (some ⟨g, o, none⟩) ks.length c2 := hD 1 (by kernel_rfl)
          have h51 : a.tmps[51]?.getD undef = .int .i64 (j : Int) := hD 2 (by kernel_rfl)
          clear hF hD
          go_simp
          exact hK.out _ _ (Kp.refl _) rfl
        · intro a w' hk hF hD K hK
          have h52 : a.tmps[52]?.getD undef = .pointer (some ⟨g, o + j * 5, none⟩) := hD 3 (by kernel_rfl)
          clear hF hD
          have x0 := hk.cellS i0
          have x1 := hk.cellS i1
          have x2 := hk.cellS i2
          have x3 := hk.cellS i3
          have x4 := hk.cellS i4
          go_simp
          exact hK.out _ _ (Kp.refl _) rfl
        · intro a w' hk hF hD K hK
          have h3 : a.tmps[3]?.getD undef = .pointer (some ⟨p2, 0, none⟩) := hF 3 (by kernel_rfl)
          clear hF hD
          go_simp
          exact hK.out _ _ (Kp.refl _) rfl
        · intro a w' hk hF hD K hK
          have h54 : a.tmps[54]?.getD undef = .pointer (some ⟨p2, 4, none⟩) := hD 5 (by kernel_rfl)
          clear hF hD
          have z := hk.cellS d2
          go_simp
          exact hK.out _ _ (Kp.refl _) rfl
        · intro a w' hk hF hD K hK
          have h5 : a.tmps[5]?.getD undef = .int .i64 (j : Int) := hF 5 (by kernel_rfl)
          clear hF hD
          go_simp
          exact hK.out _ _ (Kp.refl _) rfl
        · intro a w' hk hF hD K hK
          have h55 : a.tmps[55]?.getD undef = .slice (some ⟨g', o', none⟩) ks.length c4 := hD 6 (by kernel_rfl)
          have h56 : a.tmps[56]?.getD undef = .int .i64 (j : Int) := hD 7 (by kernel_rfl)
          clear hF hD
          go_simp
          exact hK.out _ _ (Kp.refl _) rfl
        · intro a w' hk hF hD K hK
          have h57 : a.tmps[57]?.getD undef = .pointer (some ⟨g', o' + j * 5, none⟩) := hD 8 (by kernel_rfl)
          clear hF hD
          have x0 := hk.cellS j0
          have x1 := hk.cellS j1
          have x2 := hk.cellS j2
          have x3 := hk.cellS j3
          have x4 := hk.cellS j4
          go_simp
          exact hK.out _ _ (Kp.refl _) rfl
        · intro a w' hk hF hD K hK
          have h53 : a.tmps[53]?.getD undef = .agg #[.int .i64 p0, .slice A5 n5 c5, .int .i64 q2, .int .i64 q3, .slice A6 n6 c6] := hD 4 (by kernel_rfl)
          have h58 : a.tmps[58]?.getD undef = .agg #[.int .i64 p0', .slice A7 n7 c7, .int .i64 q2', .int .i64 q3', .slice A8 n8 c8] := hD 9 (by kernel_rfl)
          clear hF hD
          go_simp
          refine (HI.out t _ _ _ _ _ _ _ _ _ _ _ (rdTr_stable n _ _ _ _ hk HR1.out) (rdTr_stable n _ _ _ _ hk HR2.out)).mono ?_
          rintro e w9 ⟨rfl, hk9⟩
          exact hK.out _ _ hk9 rfl
        · exact fun i0 hi0 => by simp at hi0
        intro v w9 k9 hv
        have v10 : v 10 = .bool true := hv 10 (by omega)
        clear hv
        simp only [G2.growPut, G2.gSlot, List.getElem?_toArray, List.getElem?_cons_zero, List.getElem?_cons_succ, Option.bind_some, List.setIfInBounds_toArray, List.set_cons_zero, List.set_cons_succ, List.drop_succ_cons, List.drop_zero, v10]
        clear d1 d2 i0 i1 i2 i3 i4 j0 j1 j2 j3 j4 HR1 HR2 HI h2 g2 hg hg'
        go_wp2_with fail
        go_roundw
        case rel => exact ⟨j + 1, by omega, by go_num, hbel.trans k9⟩
        case measure => simp [intOf]; omega
      · have hjl : ¬ (j : Int) < (ks.length : Int) := by omega
        go_wp2
        go_ret
        exact ⟨rfl, kk⟩
theorem rTree_reflL (n : Nat) (t : Tr) (ys zs : List Value) (w : World) (h : rdTr n w ys t) (g : rdTr n w zs t) : Calls Tryz.prog 25 #[.agg ys.toArray, .agg zs.toArray] w fun e w' => e = .returned (.bool true) ∧ Kp w w' := by
  obtain ⟨h5, -⟩ := rdTr_one _ _ _ _ h
  obtain ⟨g5, -⟩ := rdTr_one _ _ _ _ g
  match ys, h5, zs, g5, h, g with
  | [y0, y1, y2, y3, y4], _, [z0, z1, z2, z3, z4], _, h, g => exact rTree_refl n t y0 y1 y2 y3 y4 z0 z1 z2 z3 z4 w h g
section
variable {P : Program}
/-- a guarded load of a struct in a plain region -/
theorem wpl_load_mid_g {ops : Array Oper} {rest : List Oper} {op : Oper} {a : Act} {w : World} {Q : Exit → Act → World → Prop} (hw : Region.wanted op (yielded ops a.tmps) = true) (ty : TypeId) (x : Operand) (ho : op.op = .load ty x)
    (b o : Nat) (hx : a.eval x = .pointer (some ⟨b, o, none⟩)) (cs : List Value) (d : TypeDesc) (hc : w.rangeAt b o cs)
    (hu : P.underlying ty = some d) (hd : d.isRow = true) (hi : (P.info? ty).map (·.size) = some cs.length)
    (h : wpList P ops Q rest (a.put op.dst (.agg cs.toArray)) w) : wpList P ops Q (op :: rest) a w :=
  wpList_step fun K hK => by
    rw [if_pos hw]
    exact wp_load_mid ty x ho b o hx cs d hc hu hd hi (hK _ _ h)
end
set_option maxRecDepth 8000 in
set_option maxHeartbeats 4000000 in
theorem rSame20_refl (cs cs' : List Value) (A : Ans) (w : World) (h : rdAns w cs A) (h' : rdAns w cs' A) :
    Calls Tryz.prog 8 #[.agg cs.toArray, .agg cs'.toArray] w fun e w' => e = .returned (.bool true) ∧ Kp w w' := by
  obtain ⟨vv, y0, y1, y2, y3, y4, rfl, hv, ht⟩ := h
  obtain ⟨vv', z0, z1, z2, z3, z4, rfl, hv', ht'⟩ := h'
  obtain ⟨N, ht, ht'⟩ : ∃ N, rdTr N w [y0, y1, y2, y3, y4] A.tree ∧ rdTr N w [z0, z1, z2, z3, z4] A.tree := ⟨_, ht, ht'⟩
  obtain ⟨p0, p2, p3, A1, A4, n1, c1, n4, c4, rfl, rfl, rfl, rfl, rfl⟩ := rdTr_form ht
  obtain ⟨q0, q2, q3, A1', A4', n1', c1', n4', c4', rfl, rfl, rfl, rfl, rfl⟩ := rdTr_form ht'
  obtain ⟨A0, c0, rfl, -, -⟩ := hv.form
  obtain ⟨A0', c0', rfl, -, -⟩ := hv'.form
  have k0 := ((Kp.refl w).alloc (.cells #[.int .i64 A.kind, .int .i64 A.case, .slice A0 A.values.length c0, .int .i64 p0, .slice A1 n1 c1, .int .i64 p2, .int .i64 p3, .slice A4 n4 c4, .int .i64 A.steps] 36)).alloc (.cells #[.int .i64 A.kind, .int .i64 A.case, .slice A0' A.values.length c0', .int .i64 q0, .slice A1' n1' c1', .int .i64 q2, .int .i64 q3, .slice A4' n4' c4', .int .i64 A.steps] 36)
  have BA := (Bx.new w #[.int .i64 A.kind, .int .i64 A.case, .slice A0 A.values.length c0, .int .i64 p0, .slice A1 n1 c1, .int .i64 p2, .int .i64 p3, .slice A4 n4 c4, .int .i64 A.steps] 36).kp ((Kp.refl _).alloc (.cells #[.int .i64 A.kind, .int .i64 A.case, .slice A0' A.values.length c0', .int .i64 q0, .slice A1' n1' c1', .int .i64 q2, .int .i64 q3, .slice A4' n4' c4', .int .i64 A.steps] 36)) (by simp)
  have BB := Bx.new (w.alloc (.cells #[.int .i64 A.kind, .int .i64 A.case, .slice A0 A.values.length c0, .int .i64 p0, .slice A1 n1 c1, .int .i64 p2, .int .i64 p3, .slice A4 n4 c4, .int .i64 A.steps] 36)) #[.int .i64 A.kind, .int .i64 A.case, .slice A0' A.values.length c0', .int .i64 q0, .slice A1' n1' c1', .int .i64 q2, .int .i64 q3, .slice A4' n4' c4', .int .i64 A.steps] 36
  rw [World.size_alloc] at BB
  have HV := hid hv
  have HV' := hid hv'
  have HT := hid ht
  have HT' := hid ht'
  clear hv hv' ht ht'
  generalize A.values = vs at *
  generalize A.kind = kd at *
  generalize A.case = ce at *
  generalize A.steps = sp at *
  generalize A.tree = t at *
  obtain ⟨m, hm⟩ : ∃ m, Hid (vs.length = m) := ⟨_, hid rfl⟩
  rw [hm.out] at k0 BA BB HV HV'
  try rw [hm.out]
  go_enter Tryz.func8, Tryz.ntmps8
  go_wp2_with fail
  generalize (w.alloc (.cells #[.int .i64 kd, .int .i64 ce, .slice A0 m c0, .int .i64 p0, .slice A1 n1 c1, .int .i64 p2, .int .i64 p3, .slice A4 n4 c4, .int .i64 sp] 36)).alloc (.cells #[.int .i64 kd, .int .i64 ce, .slice A0' m c0', .int .i64 q0, .slice A1' n1' c1', .int .i64 q2, .int .i64 q3, .slice A4' n4' c4', .int .i64 sp] 36) = w0 at *
  obtain ⟨r1, hr1⟩ : ∃ r1, r1 = w.heap.size := ⟨_, rfl⟩
  obtain ⟨r2, hr2⟩ : ∃ r2, r2 = r1 + 1 := ⟨_, rfl⟩
  rw [← hr1] at BA BB ⊢
  rw [← hr2] at BB ⊢
  replace hr1 := hid hr1
  replace hr2 := hid hr2
  refine (rInts20_refl _ _ vs w0 (HV.out.keep (pl_stable _) k0) (HV'.out.keep (pl_stable _) k0)).mono ?_
  rintro e w1 ⟨rfl, k1⟩
  have k01 := k0.trans k1
  have BA1 := BA.kp k1 (BA.lt (by simp))
  have BB1 := BB.kp k1 (BB.lt (by simp))
  have hl1 := BA1.lt (by simp)
  have hl2 := BB1.lt (by simp)
  obtain ⟨ys, hys⟩ : ∃ ys : List Value, Hid (ys = [.int .i64 p0, .slice A1 n1 c1, .int .i64 p2, .int .i64 p3, .slice A4 n4 c4]) := ⟨_, hid rfl⟩
  obtain ⟨zs, hzs⟩ : ∃ zs : List Value, Hid (zs = [.int .i64 q0, .slice A1' n1' c1', .int .i64 q2, .int .i64 q3, .slice A4' n4' c4']) := ⟨_, hid rfl⟩
  have ry : w1.rangeAt r1 3 ys := by
    rw [hys.out]
    intro j v hv
    match j, hv with
    | 0, hv => exact hv ▸ BA1.cell (j := 3) rfl
    | 1, hv => exact hv ▸ BA1.cell (j := 4) rfl
    | 2, hv => exact hv ▸ BA1.cell (j := 5) rfl
    | 3, hv => exact hv ▸ BA1.cell (j := 6) rfl
    | 4, hv => exact hv ▸ BA1.cell (j := 7) rfl
  have rz : w1.rangeAt r2 3 zs := by
    rw [hzs.out]
    intro j v hv
    match j, hv with
    | 0, hv => exact hv ▸ BB1.cell (j := 3) rfl
    | 1, hv => exact hv ▸ BB1.cell (j := 4) rfl
    | 2, hv => exact hv ▸ BB1.cell (j := 5) rfl
    | 3, hv => exact hv ▸ BB1.cell (j := 6) rfl
    | 4, hv => exact hv ▸ BB1.cell (j := 7) rfl
  have hiy : (Tryz.prog.info? 34).map (·.size) = some ys.length := by rw [hys.out]; kernel_rfl
  have hiz : (Tryz.prog.info? 34).map (·.size) = some zs.length := by rw [hzs.out]; kernel_rfl
  have hty := hid (show rdTr N w1 ys t by rw [hys.out]; exact rdTr_stable N _ _ _ _ k01 HT.out)
  have htz := hid (show rdTr N w1 zs t by rw [hzs.out]; exact rdTr_stable N _ _ _ _ k01 HT'.out)
  clear HV HV' HT HT' BA BB
  go_wp2_with (first | (refine wpl_load_mid_g (by kernel_rfl) 34 (.tmp 25) rfl r1 3 rfl ys _ ry Tryz.underlying34 rfl hiy ?_) | (refine wpl_load_mid_g (by kernel_rfl) 34 (.tmp 27) rfl r2 3 rfl zs _ rz Tryz.underlying34 rfl hiz ?_) | fail)
  refine (rTree_reflL N t ys zs w1 hty.out htz.out).mono ?_
  rintro e w2 ⟨rfl, k2⟩
  have k02 := k01.trans k2
  have a8 := (BA1.kp k2 hl1).cell (j := 8) rfl
  have b8 := (BB1.kp k2 hl2).cell (j := 8) rfl
  have hm1 := block_lt_of_cell a8
  have hm2 := block_lt_of_cell b8
  clear BA1 BB1 ry rz hiy hiz
  go_wp2
  go_ret
  exact ⟨rfl, k02⟩
end Go.Proofs.YtlbhidiliogflaaGreat
