
/-
Search: the closure of the law that looks at a tree: the walk.
-/
import Derived.Test.YtlbhidiliogflaaSfW
import Derived.Test.YtlbhidiliogflaaSfS
namespace Go.Proofs.Ytlbhidiliogflaa
set_option linter.unusedSimpArgs false
set_option linter.unusedVariables false
open Go.RowKit

theorem right_real : Real Try.prog 29 := ⟨_, Try.func29, by kernel_rfl, by kernel_rfl⟩
set_option maxRecDepth 8000 in
set_option maxHeartbeats 8000000 in
theorem right_any (s : Sys) {Ab Ar Ag Ac : Option Addr} {cb cr cg cc : Nat} : ∀ (n m : Nat) (t : Tr) (y0 y1 y2 y3 y4 : Value) (root : Bool) (least : Int) (ps pr : Nat) (w : World), rdTr m w [y0, y1, y2, y3, y4] t → RT s n t root least →
    Bx w ps [.slice Ab s.box.length cb, .slice Ar s.rows.length cr, .slice Ag s.graphs.length cg, .slice Ac s.cases.length cc] → Bx w pr [.func (.func 29) #[] #[.pointer (some ⟨ps, 0, none⟩), .pointer (some ⟨pr, 0, none⟩)]] → Rngs w (.slice Ab s.box.length cb) s.box →
    Calls Try.prog 29 #[.agg #[y0, y1, y2, y3, y4], .bool root, .int .i64 least, .pointer (some ⟨ps, 0, none⟩), .pointer (some ⟨pr, 0, none⟩)] w fun e w' => e = .returned (.bool true) ∧ Kp w w'
  | 0, _, _, _, _, _, _, _, _, _, _, _, _, _, h, _, _, _ => absurd h (fun h => h)
  | n + 1, 0, _, _, _, _, _, _, _, _, _, _, _, h, _, _, _, _ => absurd h (fun h => h)
  | n + 1, m + 1, .mk kk ss c aa ks, y0, y1, y2, y3, y4, root, least, ps, pr, w, h, hT, hB, hR, hX => by
    obtain ⟨vs, vk, e1, h1, h2⟩ := h
    simp only [List.cons.injEq, and_true] at e1
    obtain ⟨rfl, rfl, rfl, rfl, rfl⟩ := e1
    obtain ⟨A1, c1, rfl, _, _⟩ := h1.form
    obtain ⟨A2, c2, rfl, _, _⟩ := h2.form
    have hcf := fun args w => right_real.run args w
    have HI := hid (right_any s (Ab := Ab) (Ar := Ar) (Ag := Ag) (Ac := Ac) (cb := cb) (cr := cr) (cg := cg) (cc := cc) n)
    have k0 := (Kp.refl w).alloc (.cells #[.int .i64 kk, .slice A1 ss.length c1, .int .i64 c, .int .i64 aa, .slice A2 ks.length c2] 46)
    have BA := Bx.new w #[.int .i64 kk, .slice A1 ss.length c1, .int .i64 c, .int .i64 aa, .slice A2 ks.length c2] 46
    have hbl := hB.lt (by simp)
    have hrl := hR.lt (by simp)
    have B0 := hB.kp k0 hbl
    have HK := hid h2
    have HB := hid hB
    have HR := hid hR
    have HX := hid hX
    rcases hT with ⟨rfl, rfl, hs, rfl, rfl⟩ | ⟨rfl, rfl, hl, hkid⟩ | ⟨rfl, hroot, hl, g1, g2, g3, g4, g5, hkid⟩
    · have e1 : decide (0 < ss.length) = true := decide_eq_true hs
      have e2 : decide ((0 : Int) < (ss.length : Int)) = true := decide_eq_true (by omega)
      clear h1 h2 hB hR hX
      go_enter Try.func29, Try.ntmps29
      go_wp2
      go_ret
      exact ⟨rfl, k0⟩
    · have hkid := hid hkid
      have e3 : ((ks.length : Int) != (s.cases.length : Int)) = false := by simp [hl]
      have s3 := B0.cell (j := 3) rfl
      have hpl := B0.lt (by simp)
      replace hl := hid hl
      clear h1 h2 hB hR hX B0
      go_enter Try.func29, Try.ntmps29
      go_wp2_with fail
      generalize w.alloc (.cells #[.int .i64 2, .slice A1 ss.length c1, .int .i64 c, .int .i64 aa, .slice A2 ks.length c2] 46) = w0 at *
      go_loopw [106] (fun i wr => ∃ k : Nat, k ≤ ks.length ∧ i = .int .i64 k ∧ Kp w0 wr) (fun i _ => ks.length - (intOf i).toNat)
      case atStart => exact ⟨0, Nat.zero_le _, rfl, Kp.refl _⟩
      case round =>
        obtain ⟨j, hj, rfl, hbel⟩ := hrel
        have kk0 := k0.trans hbel
        by_cases hlt : j < ks.length
        · obtain ⟨g, o, p0, A5, n5, c5, q2, q3, A6, n6, c6, rfl, hg, i0, i1, i2, i3, i4, hr1⟩ := (HK.out.keep (rdTr_stable m) kk0).trAt hlt
          have HT := hid (hkid.out ks[j] (List.getElem_mem hlt))
          generalize ks[j] = t at *
          have ka := (Kp.refl wr).alloc (.cells #[.int .i64 p0, .slice A5 n5 c5, .int .i64 q2, .int .i64 q3, .slice A6 n6 c6] 46)
          have BT := Bx.new wr #[.int .i64 p0, .slice A5 n5 c5, .int .i64 q2, .int .i64 q3, .slice A6 n6 c6] 46
          have hr2 := hid (rdTr_stable m _ _ _ _ ka hr1)
          clear hr1
          go_upto_region 16 with (fail)
          generalize wr.alloc (.cells #[.int .i64 p0, .slice A5 n5 c5, .int .i64 q2, .int .i64 q3, .slice A6 n6 c6] 46) = wa at *
          obtain ⟨pt, hpt⟩ : ∃ pt, pt = wr.heap.size := ⟨_, rfl⟩
          rw [← hpt] at BT ⊢
          replace hpt := hid hpt
          have y0 := BT.cell (j := 0) rfl
          have y1 := BT.cell (j := 1) rfl
          have y2 := BT.cell (j := 2) rfl
          have y3 := BT.cell (j := 3) rfl
          have y4 := BT.cell (j := 4) rfl
          have hyl := BT.lt (by simp)
          have kwa := kk0.trans ka
          have r0 := (HR.out.kp kwa hrl).cell (j := 0) rfl
          clear i0 i1 i2 i3 i4
          go_wp2_with fail
          refine (HI.out m t _ _ _ _ _ false 0 ps pr wa hr2.out HT.out (HB.out.kp kwa hbl) (HR.out.kp kwa hrl) (HX.out.keep (pl_stable _) kwa)).mono ?_
          rintro e w2 ⟨rfl, k2⟩
          have kk2 := (hbel.trans ka).trans k2
          go_wp2
          go_roundw
          case rel => exact ⟨j + 1, by omega, by go_num, kk2⟩
          case measure => simp [intOf]; omega
        · have hjl : ¬ (j : Int) < (ks.length : Int) := by omega
          go_wp2
          go_ret
          exact ⟨rfl, kk0⟩
    · have hkid := hid hkid
      obtain ⟨cn, rfl⟩ := Int.eq_ofNat_of_zero_le g2
      have hcn : cn < s.box.length := by omega
      have hp := pick_at s.box cn hcn
      rw [hp] at g4 g5
      obtain ⟨g, o, rfl, hg, i1, i2⟩ := (hX.keep (pl_stable _) k0).rng (k := cn) hcn
      have e3 : ((ks.length : Int) != 2) = false := by simp [hl]
      have e4 : decide ((cn : Int) < least) = false := decide_eq_false (by omega)
      have e5 : decide ((s.box.length : Int) ≤ (cn : Int)) = false := decide_eq_false (by omega)
      have e5' : decide (s.box.length ≤ cn) = false := decide_eq_false (by omega)
      have e6 : decide (aa < s.box[cn].lo) = false := decide_eq_false (by omega)
      have e7 : decide (s.box[cn].hi ≤ aa) = false := decide_eq_false (by omega)
      generalize s.box[cn].lo = lo at *
      generalize s.box[cn].hi = hi at *
      have a2 := BA.cell (j := 2) rfl
      have a3 := BA.cell (j := 3) rfl
      have a4 := BA.cell (j := 4) rfl
      have b0 := B0.cell (j := 0) rfl
      have b3 := B0.cell (j := 3) rfl
      have hal := BA.lt (by simp)
      have hpl := B0.lt (by simp)
      have q1 : (0 : Int) ≤ (cn : Int) := by omega
      have q2 : (cn : Int) < (s.box.length : Int) := by omega
      replace hl := hid hl
      clear h1 h2 hB hR hX B0 BA g1 g2 g4 g5 hp
      go_enter Try.func29, Try.ntmps29
      go_upto_region 10 with (fail)
      generalize w.alloc (.cells #[.int .i64 1, .slice A1 ss.length c1, .int .i64 (cn : Int), .int .i64 aa, .slice A2 ks.length c2] 46) = w0 at *
      obtain ⟨pt, hpt⟩ : ∃ pt, pt = w.heap.size := ⟨_, rfl⟩
      rw [← hpt] at a2 a3 a4 hal ⊢
      replace hpt := hid hpt
      cases root with
      | true =>
        have hcs : s.cases.length = 0 := by rw [hroot rfl]; rfl
        replace hroot := hid hroot
        rw [hcs] at b3
        replace hcs := hid hcs
        refine G2.wp_region_growT Kp [] 50 116 (G2.pvL [G2.eqv (.bool true), G2.eqv (.bool true), G2.eqv (.pointer (some ⟨ps, 3, none⟩)), G2.eqv (.slice Ac 0 cc), G2.eqv (.int .i64 0), G2.eqv (.bool false), G2.eqv (.bool false), G2.eqv (.bool false), G2.eqv (.pointer (some ⟨pt, 4, none⟩)), G2.eqv (.slice A2 ks.length c2), G2.eqv (.int .i64 (ks.length : Int)), G2.eqv (.bool false), G2.eqv (.bool false), G2.eqv (.bool false), G2.eqv (.pointer (some ⟨pt, 2, none⟩)), G2.eqv (.int .i64 (cn : Int)), G2.eqv (.int .i64 least), G2.eqv (.bool false), G2.eqv (.bool false), G2.eqv (.bool false), G2.eqv (.pointer (some ⟨pt, 2, none⟩)), G2.eqv (.int .i64 (cn : Int)), G2.eqv (.pointer (some ⟨ps, 0, none⟩)), G2.eqv (.slice (some ⟨g, o, none⟩) s.box.length cb), G2.eqv (.int .i64 (s.box.length : Int)), G2.eqv (.bool false), G2.eqv (.bool false), G2.eqv (.bool false), G2.eqv (.pointer (some ⟨pt, 3, none⟩)), G2.eqv (.int .i64 aa), G2.eqv (.pointer (some ⟨ps, 0, none⟩)), G2.eqv (.slice (some ⟨g, o, none⟩) s.box.length cb), G2.eqv (.pointer (some ⟨pt, 2, none⟩)), G2.eqv (.int .i64 (cn : Int)), G2.eqv (.pointer (some ⟨g, o + cn * 2, none⟩)), G2.eqv (.pointer (some ⟨g, o + cn * 2, none⟩)), G2.eqv (.int .i64 lo), G2.eqv (.bool false), G2.eqv (.bool false), G2.eqv (.bool false), G2.eqv (.pointer (some ⟨pt, 3, none⟩)), G2.eqv (.int .i64 aa), G2.eqv (.pointer (some ⟨ps, 0, none⟩)), G2.eqv (.slice (some ⟨g, o, none⟩) s.box.length cb), G2.eqv (.pointer (some ⟨pt, 2, none⟩)), G2.eqv (.int .i64 (cn : Int)), G2.eqv (.pointer (some ⟨g, o + cn * 2, none⟩)), G2.eqv (.pointer (some ⟨g, o + cn * 2 + 1, none⟩)), G2.eqv (.int .i64 hi), G2.eqv (.bool false)]) (by kernel_rfl) (by kernel_rfl) rfl (fun x => Kp.refl x) (fun _ _ _ h k => h.trans k) (Kp.refl _).drew (fun _ _ _ _ _ h => h) (G2.pvL_keep (G2.stabL_cons (G2.stab_eq _) (G2.stabL_cons (G2.stab_eq _) (G2.stabL_cons (G2.stab_eq _) (G2.stabL_cons (G2.stab_eq _) (G2.stabL_cons (G2.stab_eq _) (G2.stabL_cons (G2.stab_eq _) (G2.stabL_cons (G2.stab_eq _) (G2.stabL_cons (G2.stab_eq _) (G2.stabL_cons (G2.stab_eq _) (G2.stabL_cons (G2.stab_eq _) (G2.stabL_cons (G2.stab_eq _) (G2.stabL_cons (G2.stab_eq _) (G2.stabL_cons (G2.stab_eq _) (G2.stabL_cons (G2.stab_eq _) (G2.stabL_cons (G2.stab_eq _) (G2.stabL_cons (G2.stab_eq _) (G2.stabL_cons (G2.stab_eq _) (G2.stabL_cons (G2.stab_eq _) (G2.stabL_cons (G2.stab_eq _) (G2.stabL_cons (G2.stab_eq _) (G2.stabL_cons (G2.stab_eq _) (G2.stabL_cons (G2.stab_eq _) (G2.stabL_cons (G2.stab_eq _) (G2.stabL_cons (G2.stab_eq _) (G2.stabL_cons (G2.stab_eq _) (G2.stabL_cons (G2.stab_eq _) (G2.stabL_cons (G2.stab_eq _) (G2.stabL_cons (G2.stab_eq _) (G2.stabL_cons (G2.stab_eq _) (G2.stabL_cons (G2.stab_eq _) (G2.stabL_cons (G2.stab_eq _) (G2.stabL_cons (G2.stab_eq _) (G2.stabL_cons (G2.stab_eq _) (G2.stabL_cons (G2.stab_eq _) (G2.stabL_cons (G2.stab_eq _) (G2.stabL_cons (G2.stab_eq _) (G2.stabL_cons (G2.stab_eq _) (G2.stabL_cons (G2.stab_eq _) (G2.stabL_cons (G2.stab_eq _) (G2.stabL_cons (G2.stab_eq _) (G2.stabL_cons (G2.stab_eq _) (G2.stabL_cons (G2.stab_eq _) (G2.stabL_cons (G2.stab_eq _) (G2.stabL_cons (G2.stab_eq _) (G2.stabL_cons (G2.stab_eq _) (G2.stabL_cons (G2.stab_eq _) (G2.stabL_cons (G2.stab_eq _) (G2.stabL_cons (G2.stab_eq _) (G2.stabL_cons (G2.stab_eq _) (G2.stabL_cons (G2.stab_eq _) (G2.stabL_nil)))))))))))))))))))))))))))))))))))))))))))))))))))) (G2.stepsT_cons 0 ?_ (G2.stepsT_cons 1 ?_ (G2.stepsT_cons 2 ?_ (G2.stepsT_cons 3 ?_ (G2.stepsT_cons 4 ?_ (G2.stepsT_cons 5 ?_ (G2.stepsT_cons 6 ?_ (G2.stepsT_cons 7 ?_ (G2.stepsT_cons 8 ?_ (G2.stepsT_cons 9 ?_ (G2.stepsT_cons 10 ?_ (G2.stepsT_cons 11 ?_ (G2.stepsT_cons 12 ?_ (G2.stepsT_cons 13 ?_ (G2.stepsT_cons 14 ?_ (G2.stepsT_cons 15 ?_ (G2.stepsT_cons 16 ?_ (G2.stepsT_cons 17 ?_ (G2.stepsT_cons 18 ?_ (G2.stepsT_cons 19 ?_ (G2.stepsT_cons 20 ?_ (G2.stepsT_cons 21 ?_ (G2.stepsT_cons 22 ?_ (G2.stepsT_cons 23 ?_ (G2.stepsT_cons 24 ?_ (G2.stepsT_cons 25 ?_ (G2.stepsT_cons 26 ?_ (G2.stepsT_cons 27 ?_ (G2.stepsT_cons 28 ?_ (G2.stepsT_cons 29 ?_ (G2.stepsT_cons 30 ?_ (G2.stepsT_cons 31 ?_ (G2.stepsT_cons 32 ?_ (G2.stepsT_cons 33 ?_ (G2.stepsT_cons 34 ?_ (G2.stepsT_cons 35 ?_ (G2.stepsT_cons 36 ?_ (G2.stepsT_cons 37 ?_ (G2.stepsT_cons 38 ?_ (G2.stepsT_cons 39 ?_ (G2.stepsT_cons 40 ?_ (G2.stepsT_cons 41 ?_ (G2.stepsT_cons 42 ?_ (G2.stepsT_cons 43 ?_ (G2.stepsT_cons 44 ?_ (G2.stepsT_cons 45 ?_ (G2.stepsT_cons 46 ?_ (G2.stepsT_cons 47 ?_ (G2.stepsT_cons 48 ?_ (G2.stepsT_cons 49 ?_ (G2.stepsT_nil _ _ _))))))))))))))))))))))))))))))))))))))))))))))))))) ?_ ?_
        · intro a w' hk hF hD K hK
          have h1 : a.tmps[1]?.getD undef = .bool true := hF 1 (by kernel_rfl)
          clear hF hD
          go_simp
          exact hK.out _ _ (Kp.refl _) rfl
        · intro a w' hk hF hD K hK
          have h50 : a.tmps[50]?.getD undef = .bool true := hD 0 (by kernel_rfl)
          clear hF hD
          go_simp
          exact hK.out _ _ (Kp.refl _) rfl
        · intro a w' hk hF hD K hK
          have h3 : a.tmps[3]?.getD undef = .pointer (some ⟨ps, 0, none⟩) := hF 3 (by kernel_rfl)
          have h51 : a.tmps[51]?.getD undef = .bool true := hD 1 (by kernel_rfl)
          have g51 := guard_get h51
          clear hF hD
          go_simp
          exact hK.out _ _ (Kp.refl _) rfl
        · intro a w' hk hF hD K hK
          have h52 : a.tmps[52]?.getD undef = .pointer (some ⟨ps, 3, none⟩) := hD 2 (by kernel_rfl)
          have h51 : a.tmps[51]?.getD undef = .bool true := hD 1 (by kernel_rfl)
          have g51 := guard_get h51
          clear hF hD
          have z0 := hk.cellS b3
          go_simp
          exact hK.out _ _ (Kp.refl _) rfl
        · intro a w' hk hF hD K hK
          have h53 : a.tmps[53]?.getD undef = .slice Ac 0 cc := hD 3 (by kernel_rfl)
          have h51 : a.tmps[51]?.getD undef = .bool true := hD 1 (by kernel_rfl)
          have g51 := guard_get h51
          clear hF hD
          go_simp
          exact hK.out _ _ (Kp.refl _) rfl
        · intro a w' hk hF hD K hK
          have h54 : a.tmps[54]?.getD undef = .int .i64 0 := hD 4 (by kernel_rfl)
          have h51 : a.tmps[51]?.getD undef = .bool true := hD 1 (by kernel_rfl)
          have g51 := guard_get h51
          clear hF hD
          go_simp
          exact hK.out _ _ (Kp.refl _) rfl
        · intro a w' hk hF hD K hK
          have h51 : a.tmps[51]?.getD undef = .bool true := hD 1 (by kernel_rfl)
          have h55 : a.tmps[55]?.getD undef = .bool false := hD 5 (by kernel_rfl)
          clear hF hD
          go_simp
          exact hK.out _ _ (Kp.refl _) rfl
        · intro a w' hk hF hD K hK
          have h56 : a.tmps[56]?.getD undef = .bool false := hD 6 (by kernel_rfl)
          clear hF hD
          go_simp
          exact hK.out _ _ (Kp.refl _) rfl
        · intro a w' hk hF hD K hK
          have h5 : a.tmps[5]?.getD undef = .pointer (some ⟨pt, 0, none⟩) := hF 5 (by kernel_rfl)
          have h57 : a.tmps[57]?.getD undef = .bool false := hD 7 (by kernel_rfl)
          have g57 := guard_get h57
          clear hF hD
          go_simp
          exact hK.out _ _ (Kp.refl _) rfl
        · intro a w' hk hF hD K hK
          have h58 : a.tmps[58]?.getD undef = .pointer (some ⟨pt, 4, none⟩) := hD 8 (by kernel_rfl)
          have h57 : a.tmps[57]?.getD undef = .bool false := hD 7 (by kernel_rfl)
          have g57 := guard_get h57
          clear hF hD
          have z0 := hk.cellS a4
          go_simp
          exact hK.out _ _ (Kp.refl _) rfl
        · intro a w' hk hF hD K hK
          have h59 : a.tmps[59]?.getD undef = .slice A2 ks.length c2 := hD 9 (by kernel_rfl)
          have h57 : a.tmps[57]?.getD undef = .bool false := hD 7 (by kernel_rfl)
          have g57 := guard_get h57
          clear hF hD
          go_simp
          exact hK.out _ _ (Kp.refl _) rfl
        · intro a w' hk hF hD K hK
          have h60 : a.tmps[60]?.getD undef = .int .i64 (ks.length : Int) := hD 10 (by kernel_rfl)
          have h57 : a.tmps[57]?.getD undef = .bool false := hD 7 (by kernel_rfl)
          have g57 := guard_get h57
          clear hF hD
          go_simp
          exact hK.out _ _ (Kp.refl _) rfl
        · intro a w' hk hF hD K hK
          have h57 : a.tmps[57]?.getD undef = .bool false := hD 7 (by kernel_rfl)
          have h61 : a.tmps[61]?.getD undef = .bool false := hD 11 (by kernel_rfl)
          clear hF hD
          go_simp
          exact hK.out _ _ (Kp.refl _) rfl
        · intro a w' hk hF hD K hK
          have h62 : a.tmps[62]?.getD undef = .bool false := hD 12 (by kernel_rfl)
          clear hF hD
          go_simp
          exact hK.out _ _ (Kp.refl _) rfl
        · intro a w' hk hF hD K hK
          have h5 : a.tmps[5]?.getD undef = .pointer (some ⟨pt, 0, none⟩) := hF 5 (by kernel_rfl)
          have h63 : a.tmps[63]?.getD undef = .bool false := hD 13 (by kernel_rfl)
          have g63 := guard_get h63
          clear hF hD
          go_simp
          exact hK.out _ _ (Kp.refl _) rfl
        · intro a w' hk hF hD K hK
          have h64 : a.tmps[64]?.getD undef = .pointer (some ⟨pt, 2, none⟩) := hD 14 (by kernel_rfl)
          have h63 : a.tmps[63]?.getD undef = .bool false := hD 13 (by kernel_rfl)
          have g63 := guard_get h63
          clear hF hD
          have z0 := hk.cellS a2
          go_simp
          exact hK.out _ _ (Kp.refl _) rfl
        · intro a w' hk hF hD K hK
          have h2 : a.tmps[2]?.getD undef = .int .i64 least := hF 2 (by kernel_rfl)
          have h63 : a.tmps[63]?.getD undef = .bool false := hD 13 (by kernel_rfl)
          have g63 := guard_get h63
          clear hF hD
          go_simp
          exact hK.out _ _ (Kp.refl _) rfl
        · intro a w' hk hF hD K hK
          have h65 : a.tmps[65]?.getD undef = .int .i64 (cn : Int) := hD 15 (by kernel_rfl)
          have h66 : a.tmps[66]?.getD undef = .int .i64 least := hD 16 (by kernel_rfl)
          have h63 : a.tmps[63]?.getD undef = .bool false := hD 13 (by kernel_rfl)
          have g63 := guard_get h63
          clear hF hD
          go_simp
          exact hK.out _ _ (Kp.refl _) rfl
        · intro a w' hk hF hD K hK
          have h63 : a.tmps[63]?.getD undef = .bool false := hD 13 (by kernel_rfl)
          have h67 : a.tmps[67]?.getD undef = .bool false := hD 17 (by kernel_rfl)
          clear hF hD
          go_simp
          exact hK.out _ _ (Kp.refl _) rfl
        · intro a w' hk hF hD K hK
          have h68 : a.tmps[68]?.getD undef = .bool false := hD 18 (by kernel_rfl)
          clear hF hD
          go_simp
          exact hK.out _ _ (Kp.refl _) rfl
        · intro a w' hk hF hD K hK
          have h5 : a.tmps[5]?.getD undef = .pointer (some ⟨pt, 0, none⟩) := hF 5 (by kernel_rfl)
          have h69 : a.tmps[69]?.getD undef = .bool false := hD 19 (by kernel_rfl)
          have g69 := guard_get h69
          clear hF hD
          go_simp
          exact hK.out _ _ (Kp.refl _) rfl
        · intro a w' hk hF hD K hK
          have h70 : a.tmps[70]?.getD undef = .pointer (some ⟨pt, 2, none⟩) := hD 20 (by kernel_rfl)
          have h69 : a.tmps[69]?.getD undef = .bool false := hD 19 (by kernel_rfl)
          have g69 := guard_get h69
          clear hF hD
          have z0 := hk.cellS a2
          go_simp
          exact hK.out _ _ (Kp.refl _) rfl
        · intro a w' hk hF hD K hK
          have h3 : a.tmps[3]?.getD undef = .pointer (some ⟨ps, 0, none⟩) := hF 3 (by kernel_rfl)
          have h69 : a.tmps[69]?.getD undef = .bool false := hD 19 (by kernel_rfl)
          have g69 := guard_get h69
          clear hF hD
          go_simp
          exact hK.out _ _ (Kp.refl _) rfl
        · intro a w' hk hF hD K hK
          have h72 : a.tmps[72]?.getD undef = .pointer (some ⟨ps, 0, none⟩) := hD 22 (by kernel_rfl)
          have h69 : a.tmps[69]?.getD undef = .bool false := hD 19 (by kernel_rfl)
          have g69 := guard_get h69
          clear hF hD
          have z0 := hk.cellS b0
          go_simp
          exact hK.out _ _ (Kp.refl _) rfl
        · intro a w' hk hF hD K hK
          have h73 : a.tmps[73]?.getD undef = .slice (some ⟨g, o, none⟩) s.box.length cb := hD 23 (by kernel_rfl)
          have h69 : a.tmps[69]?.getD undef = .bool false := hD 19 (by kernel_rfl)
          have g69 := guard_get h69
          clear hF hD
          go_simp
          exact hK.out _ _ (Kp.refl _) rfl
        · intro a w' hk hF hD K hK
          have h71 : a.tmps[71]?.getD undef = .int .i64 (cn : Int) := hD 21 (by kernel_rfl)
          have h74 : a.tmps[74]?.getD undef = .int .i64 (s.box.length : Int) := hD 24 (by kernel_rfl)
          have h69 : a.tmps[69]?.getD undef = .bool false := hD 19 (by kernel_rfl)
          have g69 := guard_get h69
          clear hF hD
          go_simp
          exact hK.out _ _ (Kp.refl _) rfl
        · intro a w' hk hF hD K hK
          have h69 : a.tmps[69]?.getD undef = .bool false := hD 19 (by kernel_rfl)
          have h75 : a.tmps[75]?.getD undef = .bool false := hD 25 (by kernel_rfl)
          clear hF hD
          go_simp
          exact hK.out _ _ (Kp.refl _) rfl
        · intro a w' hk hF hD K hK
          have h76 : a.tmps[76]?.getD undef = .bool false := hD 26 (by kernel_rfl)
          clear hF hD
          go_simp
          exact hK.out _ _ (Kp.refl _) rfl
        · intro a w' hk hF hD K hK
          have h5 : a.tmps[5]?.getD undef = .pointer (some ⟨pt, 0, none⟩) := hF 5 (by kernel_rfl)
          have h77 : a.tmps[77]?.getD undef = .bool false := hD 27 (by kernel_rfl)
          have g77 := guard_get h77
          clear hF hD
          go_simp
          exact hK.out _ _ (Kp.refl _) rfl
        · intro a w' hk hF hD K hK
          have h78 : a.tmps[78]?.getD undef = .pointer (some ⟨pt, 3, none⟩) := hD 28 (by kernel_rfl)
          have h77 : a.tmps[77]?.getD undef = .bool false := hD 27 (by kernel_rfl)
          have g77 := guard_get h77
          clear hF hD
          have z0 := hk.cellS a3
          go_simp
          exact hK.out _ _ (Kp.refl _) rfl
        · intro a w' hk hF hD K hK
          have h3 : a.tmps[3]?.getD undef = .pointer (some ⟨ps, 0, none⟩) := hF 3 (by kernel_rfl)
          have h77 : a.tmps[77]?.getD undef = .bool false := hD 27 (by kernel_rfl)
          have g77 := guard_get h77
          clear hF hD
          go_simp
          exact hK.out _ _ (Kp.refl _) rfl
        · intro a w' hk hF hD K hK
          have h80 : a.tmps[80]?.getD undef = .pointer (some ⟨ps, 0, none⟩) := hD 30 (by kernel_rfl)
          have h77 : a.tmps[77]?.getD undef = .bool false := hD 27 (by kernel_rfl)
          have g77 := guard_get h77
          clear hF hD
          have z0 := hk.cellS b0
          go_simp
          exact hK.out _ _ (Kp.refl _) rfl
        · intro a w' hk hF hD K hK
          have h5 : a.tmps[5]?.getD undef = .pointer (some ⟨pt, 0, none⟩) := hF 5 (by kernel_rfl)
          have h77 : a.tmps[77]?.getD undef = .bool false := hD 27 (by kernel_rfl)
          have g77 := guard_get h77
          clear hF hD
          go_simp
          exact hK.out _ _ (Kp.refl _) rfl
        · intro a w' hk hF hD K hK
          have h82 : a.tmps[82]?.getD undef = .pointer (some ⟨pt, 2, none⟩) := hD 32 (by kernel_rfl)
          have h77 : a.tmps[77]?.getD undef = .bool false := hD 27 (by kernel_rfl)
          have g77 := guard_get h77
          clear hF hD
          have z0 := hk.cellS a2
          go_simp
          exact hK.out _ _ (Kp.refl _) rfl
        · intro a w' hk hF hD K hK
          have h81 : a.tmps[81]?.getD undef = .slice (some ⟨g, o, none⟩) s.box.length cb := hD 31 (by kernel_rfl)
          have h83 : a.tmps[83]?.getD undef = .int .i64 (cn : Int) := hD 33 (by kernel_rfl)
          have h77 : a.tmps[77]?.getD undef = .bool false := hD 27 (by kernel_rfl)
          have g77 := guard_get h77
          clear hF hD
          go_simp
          exact hK.out _ _ (Kp.refl _) rfl
        · intro a w' hk hF hD K hK
          have h84 : a.tmps[84]?.getD undef = .pointer (some ⟨g, o + cn * 2, none⟩) := hD 34 (by kernel_rfl)
          have h77 : a.tmps[77]?.getD undef = .bool false := hD 27 (by kernel_rfl)
          have g77 := guard_get h77
          clear hF hD
          go_simp
          exact hK.out _ _ (Kp.refl _) rfl
        · intro a w' hk hF hD K hK
          have h85 : a.tmps[85]?.getD undef = .pointer (some ⟨g, o + cn * 2, none⟩) := hD 35 (by kernel_rfl)
          have h77 : a.tmps[77]?.getD undef = .bool false := hD 27 (by kernel_rfl)
          have g77 := guard_get h77
          clear hF hD
          have z0 := hk.cellS i1
          go_simp
          exact hK.out _ _ (Kp.refl _) rfl
        · intro a w' hk hF hD K hK
          have h79 : a.tmps[79]?.getD undef = .int .i64 aa := hD 29 (by kernel_rfl)
          have h86 : a.tmps[86]?.getD undef = .int .i64 lo := hD 36 (by kernel_rfl)
          have h77 : a.tmps[77]?.getD undef = .bool false := hD 27 (by kernel_rfl)
          have g77 := guard_get h77
          clear hF hD
          go_simp
          exact hK.out _ _ (Kp.refl _) rfl
        · intro a w' hk hF hD K hK
          have h77 : a.tmps[77]?.getD undef = .bool false := hD 27 (by kernel_rfl)
          have h87 : a.tmps[87]?.getD undef = .bool false := hD 37 (by kernel_rfl)
          clear hF hD
          go_simp
          exact hK.out _ _ (Kp.refl _) rfl
        · intro a w' hk hF hD K hK
          have h88 : a.tmps[88]?.getD undef = .bool false := hD 38 (by kernel_rfl)
          clear hF hD
          go_simp
          exact hK.out _ _ (Kp.refl _) rfl
        · intro a w' hk hF hD K hK
          have h5 : a.tmps[5]?.getD undef = .pointer (some ⟨pt, 0, none⟩) := hF 5 (by kernel_rfl)
          have h89 : a.tmps[89]?.getD undef = .bool false := hD 39 (by kernel_rfl)
          have g89 := guard_get h89
          clear hF hD
          go_simp
          exact hK.out _ _ (Kp.refl _) rfl
        · intro a w' hk hF hD K hK
          have h90 : a.tmps[90]?.getD undef = .pointer (some ⟨pt, 3, none⟩) := hD 40 (by kernel_rfl)
          have h89 : a.tmps[89]?.getD undef = .bool false := hD 39 (by kernel_rfl)
          have g89 := guard_get h89
          clear hF hD
          have z0 := hk.cellS a3
          go_simp
          exact hK.out _ _ (Kp.refl _) rfl
        · intro a w' hk hF hD K hK
          have h3 : a.tmps[3]?.getD undef = .pointer (some ⟨ps, 0, none⟩) := hF 3 (by kernel_rfl)
          have h89 : a.tmps[89]?.getD undef = .bool false := hD 39 (by kernel_rfl)
          have g89 := guard_get h89
          clear hF hD
          go_simp
          exact hK.out _ _ (Kp.refl _) rfl
        · intro a w' hk hF hD K hK
          have h92 : a.tmps[92]?.getD undef = .pointer (some ⟨ps, 0, none⟩) := hD 42 (by kernel_rfl)
          have h89 : a.tmps[89]?.getD undef = .bool false := hD 39 (by kernel_rfl)
          have g89 := guard_get h89
          clear hF hD
          have z0 := hk.cellS b0
          go_simp
          exact hK.out _ _ (Kp.refl _) rfl
        · intro a w' hk hF hD K hK
          have h5 : a.tmps[5]?.getD undef = .pointer (some ⟨pt, 0, none⟩) := hF 5 (by kernel_rfl)
          have h89 : a.tmps[89]?.getD undef = .bool false := hD 39 (by kernel_rfl)
          have g89 := guard_get h89
          clear hF hD
          go_simp
          exact hK.out _ _ (Kp.refl _) rfl
        · intro a w' hk hF hD K hK
          have h94 : a.tmps[94]?.getD undef = .pointer (some ⟨pt, 2, none⟩) := hD 44 (by kernel_rfl)
          have h89 : a.tmps[89]?.getD undef = .bool false := hD 39 (by kernel_rfl)
          have g89 := guard_get h89
          clear hF hD
          have z0 := hk.cellS a2
          go_simp
          exact hK.out _ _ (Kp.refl _) rfl
        · intro a w' hk hF hD K hK
          have h93 : a.tmps[93]?.getD undef = .slice (some ⟨g, o, none⟩) s.box.length cb := hD 43 (by kernel_rfl)
          have h95 : a.tmps[95]?.getD undef = .int .i64 (cn : Int) := hD 45 (by kernel_rfl)
          have h89 : a.tmps[89]?.getD undef = .bool false := hD 39 (by kernel_rfl)
          have g89 := guard_get h89
          clear hF hD
          go_simp
          exact hK.out _ _ (Kp.refl _) rfl
        · intro a w' hk hF hD K hK
          have h96 : a.tmps[96]?.getD undef = .pointer (some ⟨g, o + cn * 2, none⟩) := hD 46 (by kernel_rfl)
          have h89 : a.tmps[89]?.getD undef = .bool false := hD 39 (by kernel_rfl)
          have g89 := guard_get h89
          clear hF hD
          go_simp
          exact hK.out _ _ (Kp.refl _) rfl
        · intro a w' hk hF hD K hK
          have h97 : a.tmps[97]?.getD undef = .pointer (some ⟨g, o + cn * 2 + 1, none⟩) := hD 47 (by kernel_rfl)
          have h89 : a.tmps[89]?.getD undef = .bool false := hD 39 (by kernel_rfl)
          have g89 := guard_get h89
          clear hF hD
          have z0 := hk.cellS i2
          go_simp
          exact hK.out _ _ (Kp.refl _) rfl
        · intro a w' hk hF hD K hK
          have h91 : a.tmps[91]?.getD undef = .int .i64 aa := hD 41 (by kernel_rfl)
          have h98 : a.tmps[98]?.getD undef = .int .i64 hi := hD 48 (by kernel_rfl)
          have h89 : a.tmps[89]?.getD undef = .bool false := hD 39 (by kernel_rfl)
          have g89 := guard_get h89
          clear hF hD
          go_simp
          exact hK.out _ _ (Kp.refl _) rfl
        · exact fun i0 hi0 => by simp at hi0
        intro v w9 k9 hv
        have v39 : v 39 = .bool false := hv 39 (by omega)
        have v49 : v 49 = .bool false := hv 49 (by omega)
        clear hv
        simp only [G2.growPut, G2.gSlot, List.getElem?_toArray, List.getElem?_cons_zero, List.getElem?_cons_succ, Option.bind_some, List.setIfInBounds_toArray, List.set_cons_zero, List.set_cons_succ, List.drop_succ_cons, List.drop_zero, v39, v49]
        replace a2 := k9.cellS a2
        replace a4 := k9.cellS a4
        have hal9 := block_lt_of_cell a2
        clear a3 b0 b3 i1 i2 hal
        go_wp2_with fail
        replace k0 := k0.trans k9
        go_loopw [106] (fun i wr => ∃ k : Nat, k ≤ ks.length ∧ i = .int .i64 k ∧ Kp w9 wr) (fun i _ => ks.length - (intOf i).toNat)
        case atStart => exact ⟨0, Nat.zero_le _, rfl, Kp.refl _⟩
        case round =>
          obtain ⟨j, hj, rfl, hbel⟩ := hrel
          have kk0 := k0.trans hbel
          by_cases hlt : j < ks.length
          · obtain ⟨g, o, p0, A5, n5, c5, q2, q3, A6, n6, c6, rfl, hg, i0, i1, i2, i3, i4, hr1⟩ := (HK.out.keep (rdTr_stable m) kk0).trAt hlt
            have HT := hid (hkid.out ks[j] (List.getElem_mem hlt))
            generalize ks[j] = t at *
            have ka := (Kp.refl wr).alloc (.cells #[.int .i64 p0, .slice A5 n5 c5, .int .i64 q2, .int .i64 q3, .slice A6 n6 c6] 46)
            have BT := Bx.new wr #[.int .i64 p0, .slice A5 n5 c5, .int .i64 q2, .int .i64 q3, .slice A6 n6 c6] 46
            have hr2 := hid (rdTr_stable m _ _ _ _ ka hr1)
            clear hr1
            go_upto_region 16 with (fail)
            generalize wr.alloc (.cells #[.int .i64 p0, .slice A5 n5 c5, .int .i64 q2, .int .i64 q3, .slice A6 n6 c6] 46) = wa at *
            obtain ⟨pt, hpt⟩ : ∃ pt, pt = wr.heap.size := ⟨_, rfl⟩
            rw [← hpt] at BT ⊢
            replace hpt := hid hpt
            have y0 := BT.cell (j := 0) rfl
            have y1 := BT.cell (j := 1) rfl
            have y2 := BT.cell (j := 2) rfl
            have y3 := BT.cell (j := 3) rfl
            have y4 := BT.cell (j := 4) rfl
            have hyl := BT.lt (by simp)
            have kwa := kk0.trans ka
            have r0 := (HR.out.kp kwa hrl).cell (j := 0) rfl
            clear i0 i1 i2 i3 i4
            go_wp2_with fail
            refine (HI.out m t _ _ _ _ _ false cn ps pr wa hr2.out HT.out (HB.out.kp kwa hbl) (HR.out.kp kwa hrl) (HX.out.keep (pl_stable _) kwa)).mono ?_
            rintro e w2 ⟨rfl, k2⟩
            have kk2 := (hbel.trans ka).trans k2
            go_wp2
            go_roundw
            case rel => exact ⟨j + 1, by omega, by go_num, kk2⟩
            case measure => simp [intOf]; omega
          · have hjl : ¬ (j : Int) < (ks.length : Int) := by omega
            go_wp2
            go_ret
            exact ⟨rfl, kk0⟩
      | false =>
        clear hroot
        refine G2.wp_region_growT Kp [] 50 116 (G2.pvL [G2.eqv (.bool false), G2.eqv (.bool false), G2.eqv (undef), G2.eqv (undef), G2.eqv (undef), G2.eqv (undef), G2.eqv (.bool false), G2.eqv (.bool false), G2.eqv (.pointer (some ⟨pt, 4, none⟩)), G2.eqv (.slice A2 ks.length c2), G2.eqv (.int .i64 (ks.length : Int)), G2.eqv (.bool false), G2.eqv (.bool false), G2.eqv (.bool false), G2.eqv (.pointer (some ⟨pt, 2, none⟩)), G2.eqv (.int .i64 (cn : Int)), G2.eqv (.int .i64 least), G2.eqv (.bool false), G2.eqv (.bool false), G2.eqv (.bool false), G2.eqv (.pointer (some ⟨pt, 2, none⟩)), G2.eqv (.int .i64 (cn : Int)), G2.eqv (.pointer (some ⟨ps, 0, none⟩)), G2.eqv (.slice (some ⟨g, o, none⟩) s.box.length cb), G2.eqv (.int .i64 (s.box.length : Int)), G2.eqv (.bool false), G2.eqv (.bool false), G2.eqv (.bool false), G2.eqv (.pointer (some ⟨pt, 3, none⟩)), G2.eqv (.int .i64 aa), G2.eqv (.pointer (some ⟨ps, 0, none⟩)), G2.eqv (.slice (some ⟨g, o, none⟩) s.box.length cb), G2.eqv (.pointer (some ⟨pt, 2, none⟩)), G2.eqv (.int .i64 (cn : Int)), G2.eqv (.pointer (some ⟨g, o + cn * 2, none⟩)), G2.eqv (.pointer (some ⟨g, o + cn * 2, none⟩)), G2.eqv (.int .i64 lo), G2.eqv (.bool false), G2.eqv (.bool false), G2.eqv (.bool false), G2.eqv (.pointer (some ⟨pt, 3, none⟩)), G2.eqv (.int .i64 aa), G2.eqv (.pointer (some ⟨ps, 0, none⟩)), G2.eqv (.slice (some ⟨g, o, none⟩) s.box.length cb), G2.eqv (.pointer (some ⟨pt, 2, none⟩)), G2.eqv (.int .i64 (cn : Int)), G2.eqv (.pointer (some ⟨g, o + cn * 2, none⟩)), G2.eqv (.pointer (some ⟨g, o + cn * 2 + 1, none⟩)), G2.eqv (.int .i64 hi), G2.eqv (.bool false)]) (by kernel_rfl) (by kernel_rfl) rfl (fun x => Kp.refl x) (fun _ _ _ h k => h.trans k) (Kp.refl _).drew (fun _ _ _ _ _ h => h) (G2.pvL_keep (G2.stabL_cons (G2.stab_eq _) (G2.stabL_cons (G2.stab_eq _) (G2.stabL_cons (G2.stab_eq _) (G2.stabL_cons (G2.stab_eq _) (G2.stabL_cons (G2.stab_eq _) (G2.stabL_cons (G2.stab_eq _) (G2.stabL_cons (G2.stab_eq _) (G2.stabL_cons (G2.stab_eq _) (G2.stabL_cons (G2.stab_eq _) (G2.stabL_cons (G2.stab_eq _) (G2.stabL_cons (G2.stab_eq _) (G2.stabL_cons (G2.stab_eq _) (G2.stabL_cons (G2.stab_eq _) (G2.stabL_cons (G2.stab_eq _) (G2.stabL_cons (G2.stab_eq _) (G2.stabL_cons (G2.stab_eq _) (G2.stabL_cons (G2.stab_eq _) (G2.stabL_cons (G2.stab_eq _) (G2.stabL_cons (G2.stab_eq _) (G2.stabL_cons (G2.stab_eq _) (G2.stabL_cons (G2.stab_eq _) (G2.stabL_cons (G2.stab_eq _) (G2.stabL_cons (G2.stab_eq _) (G2.stabL_cons (G2.stab_eq _) (G2.stabL_cons (G2.stab_eq _) (G2.stabL_cons (G2.stab_eq _) (G2.stabL_cons (G2.stab_eq _) (G2.stabL_cons (G2.stab_eq _) (G2.stabL_cons (G2.stab_eq _) (G2.stabL_cons (G2.stab_eq _) (G2.stabL_cons (G2.stab_eq _) (G2.stabL_cons (G2.stab_eq _) (G2.stabL_cons (G2.stab_eq _) (G2.stabL_cons (G2.stab_eq _) (G2.stabL_cons (G2.stab_eq _) (G2.stabL_cons (G2.stab_eq _) (G2.stabL_cons (G2.stab_eq _) (G2.stabL_cons (G2.stab_eq _) (G2.stabL_cons (G2.stab_eq _) (G2.stabL_cons (G2.stab_eq _) (G2.stabL_cons (G2.stab_eq _) (G2.stabL_cons (G2.stab_eq _) (G2.stabL_cons (G2.stab_eq _) (G2.stabL_cons (G2.stab_eq _) (G2.stabL_cons (G2.stab_eq _) (G2.stabL_cons (G2.stab_eq _) (G2.stabL_cons (G2.stab_eq _) (G2.stabL_cons (G2.stab_eq _) (G2.stabL_cons (G2.stab_eq _) (G2.stabL_cons (G2.stab_eq _) (G2.stabL_nil)))))))))))))))))))))))))))))))))))))))))))))))))))) (G2.stepsT_cons 0 ?_ (G2.stepsT_cons 1 ?_ (G2.stepsT_cons 2 ?_ (G2.stepsT_cons 3 ?_ (G2.stepsT_cons 4 ?_ (G2.stepsT_cons 5 ?_ (G2.stepsT_cons 6 ?_ (G2.stepsT_cons 7 ?_ (G2.stepsT_cons 8 ?_ (G2.stepsT_cons 9 ?_ (G2.stepsT_cons 10 ?_ (G2.stepsT_cons 11 ?_ (G2.stepsT_cons 12 ?_ (G2.stepsT_cons 13 ?_ (G2.stepsT_cons 14 ?_ (G2.stepsT_cons 15 ?_ (G2.stepsT_cons 16 ?_ (G2.stepsT_cons 17 ?_ (G2.stepsT_cons 18 ?_ (G2.stepsT_cons 19 ?_ (G2.stepsT_cons 20 ?_ (G2.stepsT_cons 21 ?_ (G2.stepsT_cons 22 ?_ (G2.stepsT_cons 23 ?_ (G2.stepsT_cons 24 ?_ (G2.stepsT_cons 25 ?_ (G2.stepsT_cons 26 ?_ (G2.stepsT_cons 27 ?_ (G2.stepsT_cons 28 ?_ (G2.stepsT_cons 29 ?_ (G2.stepsT_cons 30 ?_ (G2.stepsT_cons 31 ?_ (G2.stepsT_cons 32 ?_ (G2.stepsT_cons 33 ?_ (G2.stepsT_cons 34 ?_ (G2.stepsT_cons 35 ?_ (G2.stepsT_cons 36 ?_ (G2.stepsT_cons 37 ?_ (G2.stepsT_cons 38 ?_ (G2.stepsT_cons 39 ?_ (G2.stepsT_cons 40 ?_ (G2.stepsT_cons 41 ?_ (G2.stepsT_cons 42 ?_ (G2.stepsT_cons 43 ?_ (G2.stepsT_cons 44 ?_ (G2.stepsT_cons 45 ?_ (G2.stepsT_cons 46 ?_ (G2.stepsT_cons 47 ?_ (G2.stepsT_cons 48 ?_ (G2.stepsT_cons 49 ?_ (G2.stepsT_nil _ _ _))))))))))))))))))))))))))))))))))))))))))))))))))) ?_ ?_
        · intro a w' hk hF hD K hK
          have h1 : a.tmps[1]?.getD undef = .bool false := hF 1 (by kernel_rfl)
          clear hF hD
          go_simp
          exact hK.out _ _ (Kp.refl _) rfl
        · intro a w' hk hF hD K hK
          have h50 : a.tmps[50]?.getD undef = .bool false := hD 0 (by kernel_rfl)
          clear hF hD
          go_simp
          exact hK.out _ _ (Kp.refl _) rfl
        · intro a w' hk hF hD K hK
          have h3 : a.tmps[3]?.getD undef = .pointer (some ⟨ps, 0, none⟩) := hF 3 (by kernel_rfl)
          have h51 : a.tmps[51]?.getD undef = .bool false := hD 1 (by kernel_rfl)
          have g51 := guard_get h51
          clear hF hD
          go_simp
          exact hK.out _ _ (Kp.refl _) rfl
        · intro a w' hk hF hD K hK
          have h52 : a.tmps[52]?.getD undef = undef := hD 2 (by kernel_rfl)
          have h51 : a.tmps[51]?.getD undef = .bool false := hD 1 (by kernel_rfl)
          have g51 := guard_get h51
          clear hF hD
          go_simp
          exact hK.out _ _ (Kp.refl _) rfl
        · intro a w' hk hF hD K hK
          have h53 : a.tmps[53]?.getD undef = undef := hD 3 (by kernel_rfl)
          have h51 : a.tmps[51]?.getD undef = .bool false := hD 1 (by kernel_rfl)
          have g51 := guard_get h51
          clear hF hD
          go_simp
          exact hK.out _ _ (Kp.refl _) rfl
        · intro a w' hk hF hD K hK
          have h54 : a.tmps[54]?.getD undef = undef := hD 4 (by kernel_rfl)
          have h51 : a.tmps[51]?.getD undef = .bool false := hD 1 (by kernel_rfl)
          have g51 := guard_get h51
          clear hF hD
          go_simp
          exact hK.out _ _ (Kp.refl _) rfl
        · intro a w' hk hF hD K hK
          have h51 : a.tmps[51]?.getD undef = .bool false := hD 1 (by kernel_rfl)
          have h55 : a.tmps[55]?.getD undef = undef := hD 5 (by kernel_rfl)
          clear hF hD
          go_simp
          exact hK.out _ _ (Kp.refl _) rfl
        · intro a w' hk hF hD K hK
          have h56 : a.tmps[56]?.getD undef = .bool false := hD 6 (by kernel_rfl)
          clear hF hD
          go_simp
          exact hK.out _ _ (Kp.refl _) rfl
        · intro a w' hk hF hD K hK
          have h5 : a.tmps[5]?.getD undef = .pointer (some ⟨pt, 0, none⟩) := hF 5 (by kernel_rfl)
          have h57 : a.tmps[57]?.getD undef = .bool false := hD 7 (by kernel_rfl)
          have g57 := guard_get h57
          clear hF hD
          go_simp
          exact hK.out _ _ (Kp.refl _) rfl
        · intro a w' hk hF hD K hK
          have h58 : a.tmps[58]?.getD undef = .pointer (some ⟨pt, 4, none⟩) := hD 8 (by kernel_rfl)
          have h57 : a.tmps[57]?.getD undef = .bool false := hD 7 (by kernel_rfl)
          have g57 := guard_get h57
          clear hF hD
          have z0 := hk.cellS a4
          go_simp
          exact hK.out _ _ (Kp.refl _) rfl
        · intro a w' hk hF hD K hK
          have h59 : a.tmps[59]?.getD undef = .slice A2 ks.length c2 := hD 9 (by kernel_rfl)
          have h57 : a.tmps[57]?.getD undef = .bool false := hD 7 (by kernel_rfl)
          have g57 := guard_get h57
          clear hF hD
          go_simp
          exact hK.out _ _ (Kp.refl _) rfl
        · intro a w' hk hF hD K hK
          have h60 : a.tmps[60]?.getD undef = .int .i64 (ks.length : Int) := hD 10 (by kernel_rfl)
          have h57 : a.tmps[57]?.getD undef = .bool false := hD 7 (by kernel_rfl)
          have g57 := guard_get h57
          clear hF hD
          go_simp
          exact hK.out _ _ (Kp.refl _) rfl
        · intro a w' hk hF hD K hK
          have h57 : a.tmps[57]?.getD undef = .bool false := hD 7 (by kernel_rfl)
          have h61 : a.tmps[61]?.getD undef = .bool false := hD 11 (by kernel_rfl)
          clear hF hD
          go_simp
          exact hK.out _ _ (Kp.refl _) rfl
        · intro a w' hk hF hD K hK
          have h62 : a.tmps[62]?.getD undef = .bool false := hD 12 (by kernel_rfl)
          clear hF hD
          go_simp
          exact hK.out _ _ (Kp.refl _) rfl
        · intro a w' hk hF hD K hK
          have h5 : a.tmps[5]?.getD undef = .pointer (some ⟨pt, 0, none⟩) := hF 5 (by kernel_rfl)
          have h63 : a.tmps[63]?.getD undef = .bool false := hD 13 (by kernel_rfl)
          have g63 := guard_get h63
          clear hF hD
          go_simp
          exact hK.out _ _ (Kp.refl _) rfl
        · intro a w' hk hF hD K hK
          have h64 : a.tmps[64]?.getD undef = .pointer (some ⟨pt, 2, none⟩) := hD 14 (by kernel_rfl)
          have h63 : a.tmps[63]?.getD undef = .bool false := hD 13 (by kernel_rfl)
          have g63 := guard_get h63
          clear hF hD
          have z0 := hk.cellS a2
          go_simp
          exact hK.out _ _ (Kp.refl _) rfl
        · intro a w' hk hF hD K hK
          have h2 : a.tmps[2]?.getD undef = .int .i64 least := hF 2 (by kernel_rfl)
          have h63 : a.tmps[63]?.getD undef = .bool false := hD 13 (by kernel_rfl)
          have g63 := guard_get h63
          clear hF hD
          go_simp
          exact hK.out _ _ (Kp.refl _) rfl
        · intro a w' hk hF hD K hK
          have h65 : a.tmps[65]?.getD undef = .int .i64 (cn : Int) := hD 15 (by kernel_rfl)
          have h66 : a.tmps[66]?.getD undef = .int .i64 least := hD 16 (by kernel_rfl)
          have h63 : a.tmps[63]?.getD undef = .bool false := hD 13 (by kernel_rfl)
          have g63 := guard_get h63
          clear hF hD
          go_simp
          exact hK.out _ _ (Kp.refl _) rfl
        · intro a w' hk hF hD K hK
          have h63 : a.tmps[63]?.getD undef = .bool false := hD 13 (by kernel_rfl)
          have h67 : a.tmps[67]?.getD undef = .bool false := hD 17 (by kernel_rfl)
          clear hF hD
          go_simp
          exact hK.out _ _ (Kp.refl _) rfl
        · intro a w' hk hF hD K hK
          have h68 : a.tmps[68]?.getD undef = .bool false := hD 18 (by kernel_rfl)
          clear hF hD
          go_simp
          exact hK.out _ _ (Kp.refl _) rfl
        · intro a w' hk hF hD K hK
          have h5 : a.tmps[5]?.getD undef = .pointer (some ⟨pt, 0, none⟩) := hF 5 (by kernel_rfl)
          have h69 : a.tmps[69]?.getD undef = .bool false := hD 19 (by kernel_rfl)
          have g69 := guard_get h69
          clear hF hD
          go_simp
          exact hK.out _ _ (Kp.refl _) rfl
        · intro a w' hk hF hD K hK
          have h70 : a.tmps[70]?.getD undef = .pointer (some ⟨pt, 2, none⟩) := hD 20 (by kernel_rfl)
          have h69 : a.tmps[69]?.getD undef = .bool false := hD 19 (by kernel_rfl)
          have g69 := guard_get h69
          clear hF hD
          have z0 := hk.cellS a2
          go_simp
          exact hK.out _ _ (Kp.refl _) rfl
        · intro a w' hk hF hD K hK
          have h3 : a.tmps[3]?.getD undef = .pointer (some ⟨ps, 0, none⟩) := hF 3 (by kernel_rfl)
          have h69 : a.tmps[69]?.getD undef = .bool false := hD 19 (by kernel_rfl)
          have g69 := guard_get h69
          clear hF hD
          go_simp
          exact hK.out _ _ (Kp.refl _) rfl
        · intro a w' hk hF hD K hK
          have h72 : a.tmps[72]?.getD undef = .pointer (some ⟨ps, 0, none⟩) := hD 22 (by kernel_rfl)
          have h69 : a.tmps[69]?.getD undef = .bool false := hD 19 (by kernel_rfl)
          have g69 := guard_get h69
          clear hF hD
          have z0 := hk.cellS b0
          go_simp
          exact hK.out _ _ (Kp.refl _) rfl
        · intro a w' hk hF hD K hK
          have h73 : a.tmps[73]?.getD undef = .slice (some ⟨g, o, none⟩) s.box.length cb := hD 23 (by kernel_rfl)
          have h69 : a.tmps[69]?.getD undef = .bool false := hD 19 (by kernel_rfl)
          have g69 := guard_get h69
          clear hF hD
          go_simp
          exact hK.out _ _ (Kp.refl _) rfl
        · intro a w' hk hF hD K hK
          have h71 : a.tmps[71]?.getD undef = .int .i64 (cn : Int) := hD 21 (by kernel_rfl)
          have h74 : a.tmps[74]?.getD undef = .int .i64 (s.box.length : Int) := hD 24 (by kernel_rfl)
          have h69 : a.tmps[69]?.getD undef = .bool false := hD 19 (by kernel_rfl)
          have g69 := guard_get h69
          clear hF hD
          go_simp
          exact hK.out _ _ (Kp.refl _) rfl
        · intro a w' hk hF hD K hK
          have h69 : a.tmps[69]?.getD undef = .bool false := hD 19 (by kernel_rfl)
          have h75 : a.tmps[75]?.getD undef = .bool false := hD 25 (by kernel_rfl)
          clear hF hD
          go_simp
          exact hK.out _ _ (Kp.refl _) rfl
        · intro a w' hk hF hD K hK
          have h76 : a.tmps[76]?.getD undef = .bool false := hD 26 (by kernel_rfl)
          clear hF hD
          go_simp
          exact hK.out _ _ (Kp.refl _) rfl
        · intro a w' hk hF hD K hK
          have h5 : a.tmps[5]?.getD undef = .pointer (some ⟨pt, 0, none⟩) := hF 5 (by kernel_rfl)
          have h77 : a.tmps[77]?.getD undef = .bool false := hD 27 (by kernel_rfl)
          have g77 := guard_get h77
          clear hF hD
          go_simp
          exact hK.out _ _ (Kp.refl _) rfl
        · intro a w' hk hF hD K hK
          have h78 : a.tmps[78]?.getD undef = .pointer (some ⟨pt, 3, none⟩) := hD 28 (by kernel_rfl)
          have h77 : a.tmps[77]?.getD undef = .bool false := hD 27 (by kernel_rfl)
          have g77 := guard_get h77
          clear hF hD
          have z0 := hk.cellS a3
          go_simp
          exact hK.out _ _ (Kp.refl _) rfl
        · intro a w' hk hF hD K hK
          have h3 : a.tmps[3]?.getD undef = .pointer (some ⟨ps, 0, none⟩) := hF 3 (by kernel_rfl)
          have h77 : a.tmps[77]?.getD undef = .bool false := hD 27 (by kernel_rfl)
          have g77 := guard_get h77
          clear hF hD
          go_simp
          exact hK.out _ _ (Kp.refl _) rfl
        · intro a w' hk hF hD K hK
          have h80 : a.tmps[80]?.getD undef = .pointer (some ⟨ps, 0, none⟩) := hD 30 (by kernel_rfl)
          have h77 : a.tmps[77]?.getD undef = .bool false := hD 27 (by kernel_rfl)
          have g77 := guard_get h77
          clear hF hD
          have z0 := hk.cellS b0
          go_simp
          exact hK.out _ _ (Kp.refl _) rfl
        · intro a w' hk hF hD K hK
          have h5 : a.tmps[5]?.getD undef = .pointer (some ⟨pt, 0, none⟩) := hF 5 (by kernel_rfl)
          have h77 : a.tmps[77]?.getD undef = .bool false := hD 27 (by kernel_rfl)
          have g77 := guard_get h77
          clear hF hD
          go_simp
          exact hK.out _ _ (Kp.refl _) rfl
        · intro a w' hk hF hD K hK
          have h82 : a.tmps[82]?.getD undef = .pointer (some ⟨pt, 2, none⟩) := hD 32 (by kernel_rfl)
          have h77 : a.tmps[77]?.getD undef = .bool false := hD 27 (by kernel_rfl)
          have g77 := guard_get h77
          clear hF hD
          have z0 := hk.cellS a2
          go_simp
          exact hK.out _ _ (Kp.refl _) rfl
        · intro a w' hk hF hD K hK
          have h81 : a.tmps[81]?.getD undef = .slice (some ⟨g, o, none⟩) s.box.length cb := hD 31 (by kernel_rfl)
          have h83 : a.tmps[83]?.getD undef = .int .i64 (cn : Int) := hD 33 (by kernel_rfl)
          have h77 : a.tmps[77]?.getD undef = .bool false := hD 27 (by kernel_rfl)
          have g77 := guard_get h77
          clear hF hD
          go_simp
          exact hK.out _ _ (Kp.refl _) rfl
        · intro a w' hk hF hD K hK
          have h84 : a.tmps[84]?.getD undef = .pointer (some ⟨g, o + cn * 2, none⟩) := hD 34 (by kernel_rfl)
          have h77 : a.tmps[77]?.getD undef = .bool false := hD 27 (by kernel_rfl)
          have g77 := guard_get h77
          clear hF hD
          go_simp
          exact hK.out _ _ (Kp.refl _) rfl
        · intro a w' hk hF hD K hK
          have h85 : a.tmps[85]?.getD undef = .pointer (some ⟨g, o + cn * 2, none⟩) := hD 35 (by kernel_rfl)
          have h77 : a.tmps[77]?.getD undef = .bool false := hD 27 (by kernel_rfl)
          have g77 := guard_get h77
          clear hF hD
          have z0 := hk.cellS i1
          go_simp
          exact hK.out _ _ (Kp.refl _) rfl
        · intro a w' hk hF hD K hK
          have h79 : a.tmps[79]?.getD undef = .int .i64 aa := hD 29 (by kernel_rfl)
          have h86 : a.tmps[86]?.getD undef = .int .i64 lo := hD 36 (by kernel_rfl)
          have h77 : a.tmps[77]?.getD undef = .bool false := hD 27 (by kernel_rfl)
          have g77 := guard_get h77
          clear hF hD
          go_simp
          exact hK.out _ _ (Kp.refl _) rfl
        · intro a w' hk hF hD K hK
          have h77 : a.tmps[77]?.getD undef = .bool false := hD 27 (by kernel_rfl)
          have h87 : a.tmps[87]?.getD undef = .bool false := hD 37 (by kernel_rfl)
          clear hF hD
          go_simp
          exact hK.out _ _ (Kp.refl _) rfl
        · intro a w' hk hF hD K hK
          have h88 : a.tmps[88]?.getD undef = .bool false := hD 38 (by kernel_rfl)
          clear hF hD
          go_simp
          exact hK.out _ _ (Kp.refl _) rfl
        · intro a w' hk hF hD K hK
          have h5 : a.tmps[5]?.getD undef = .pointer (some ⟨pt, 0, none⟩) := hF 5 (by kernel_rfl)
          have h89 : a.tmps[89]?.getD undef = .bool false := hD 39 (by kernel_rfl)
          have g89 := guard_get h89
          clear hF hD
          go_simp
          exact hK.out _ _ (Kp.refl _) rfl
        · intro a w' hk hF hD K hK
          have h90 : a.tmps[90]?.getD undef = .pointer (some ⟨pt, 3, none⟩) := hD 40 (by kernel_rfl)
          have h89 : a.tmps[89]?.getD undef = .bool false := hD 39 (by kernel_rfl)
          have g89 := guard_get h89
          clear hF hD
          have z0 := hk.cellS a3
          go_simp
          exact hK.out _ _ (Kp.refl _) rfl
        · intro a w' hk hF hD K hK
          have h3 : a.tmps[3]?.getD undef = .pointer (some ⟨ps, 0, none⟩) := hF 3 (by kernel_rfl)
          have h89 : a.tmps[89]?.getD undef = .bool false := hD 39 (by kernel_rfl)
          have g89 := guard_get h89
          clear hF hD
          go_simp
          exact hK.out _ _ (Kp.refl _) rfl
        · intro a w' hk hF hD K hK
          have h92 : a.tmps[92]?.getD undef = .pointer (some ⟨ps, 0, none⟩) := hD 42 (by kernel_rfl)
          have h89 : a.tmps[89]?.getD undef = .bool false := hD 39 (by kernel_rfl)
          have g89 := guard_get h89
          clear hF hD
          have z0 := hk.cellS b0
          go_simp
          exact hK.out _ _ (Kp.refl _) rfl
        · intro a w' hk hF hD K hK
          have h5 : a.tmps[5]?.getD undef = .pointer (some ⟨pt, 0, none⟩) := hF 5 (by kernel_rfl)
          have h89 : a.tmps[89]?.getD undef = .bool false := hD 39 (by kernel_rfl)
          have g89 := guard_get h89
          clear hF hD
          go_simp
          exact hK.out _ _ (Kp.refl _) rfl
        · intro a w' hk hF hD K hK
          have h94 : a.tmps[94]?.getD undef = .pointer (some ⟨pt, 2, none⟩) := hD 44 (by kernel_rfl)
          have h89 : a.tmps[89]?.getD undef = .bool false := hD 39 (by kernel_rfl)
          have g89 := guard_get h89
          clear hF hD
          have z0 := hk.cellS a2
          go_simp
          exact hK.out _ _ (Kp.refl _) rfl
        · intro a w' hk hF hD K hK
          have h93 : a.tmps[93]?.getD undef = .slice (some ⟨g, o, none⟩) s.box.length cb := hD 43 (by kernel_rfl)
          have h95 : a.tmps[95]?.getD undef = .int .i64 (cn : Int) := hD 45 (by kernel_rfl)
          have h89 : a.tmps[89]?.getD undef = .bool false := hD 39 (by kernel_rfl)
          have g89 := guard_get h89
          clear hF hD
          go_simp
          exact hK.out _ _ (Kp.refl _) rfl
        · intro a w' hk hF hD K hK
          have h96 : a.tmps[96]?.getD undef = .pointer (some ⟨g, o + cn * 2, none⟩) := hD 46 (by kernel_rfl)
          have h89 : a.tmps[89]?.getD undef = .bool false := hD 39 (by kernel_rfl)
          have g89 := guard_get h89
          clear hF hD
          go_simp
          exact hK.out _ _ (Kp.refl _) rfl
        · intro a w' hk hF hD K hK
          have h97 : a.tmps[97]?.getD undef = .pointer (some ⟨g, o + cn * 2 + 1, none⟩) := hD 47 (by kernel_rfl)
          have h89 : a.tmps[89]?.getD undef = .bool false := hD 39 (by kernel_rfl)
          have g89 := guard_get h89
          clear hF hD
          have z0 := hk.cellS i2
          go_simp
          exact hK.out _ _ (Kp.refl _) rfl
        · intro a w' hk hF hD K hK
          have h91 : a.tmps[91]?.getD undef = .int .i64 aa := hD 41 (by kernel_rfl)
          have h98 : a.tmps[98]?.getD undef = .int .i64 hi := hD 48 (by kernel_rfl)
          have h89 : a.tmps[89]?.getD undef = .bool false := hD 39 (by kernel_rfl)
          have g89 := guard_get h89
          clear hF hD
          go_simp
          exact hK.out _ _ (Kp.refl _) rfl
        · exact fun i0 hi0 => by simp at hi0
        intro v w9 k9 hv
        have v39 : v 39 = .bool false := hv 39 (by omega)
        have v49 : v 49 = .bool false := hv 49 (by omega)
        clear hv
        simp only [G2.growPut, G2.gSlot, List.getElem?_toArray, List.getElem?_cons_zero, List.getElem?_cons_succ, Option.bind_some, List.setIfInBounds_toArray, List.set_cons_zero, List.set_cons_succ, List.drop_succ_cons, List.drop_zero, v39, v49]
        replace a2 := k9.cellS a2
        replace a4 := k9.cellS a4
        have hal9 := block_lt_of_cell a2
        clear a3 b0 b3 i1 i2 hal
        go_wp2_with fail
        replace k0 := k0.trans k9
        go_loopw [106] (fun i wr => ∃ k : Nat, k ≤ ks.length ∧ i = .int .i64 k ∧ Kp w9 wr) (fun i _ => ks.length - (intOf i).toNat)
        case atStart => exact ⟨0, Nat.zero_le _, rfl, Kp.refl _⟩
        case round =>
          obtain ⟨j, hj, rfl, hbel⟩ := hrel
          have kk0 := k0.trans hbel
          by_cases hlt : j < ks.length
          · obtain ⟨g, o, p0, A5, n5, c5, q2, q3, A6, n6, c6, rfl, hg, i0, i1, i2, i3, i4, hr1⟩ := (HK.out.keep (rdTr_stable m) kk0).trAt hlt
            have HT := hid (hkid.out ks[j] (List.getElem_mem hlt))
            generalize ks[j] = t at *
            have ka := (Kp.refl wr).alloc (.cells #[.int .i64 p0, .slice A5 n5 c5, .int .i64 q2, .int .i64 q3, .slice A6 n6 c6] 46)
            have BT := Bx.new wr #[.int .i64 p0, .slice A5 n5 c5, .int .i64 q2, .int .i64 q3, .slice A6 n6 c6] 46
            have hr2 := hid (rdTr_stable m _ _ _ _ ka hr1)
            clear hr1
            go_upto_region 16 with (fail)
            generalize wr.alloc (.cells #[.int .i64 p0, .slice A5 n5 c5, .int .i64 q2, .int .i64 q3, .slice A6 n6 c6] 46) = wa at *
            obtain ⟨pt, hpt⟩ : ∃ pt, pt = wr.heap.size := ⟨_, rfl⟩
            rw [← hpt] at BT ⊢
            replace hpt := hid hpt
            have y0 := BT.cell (j := 0) rfl
            have y1 := BT.cell (j := 1) rfl
            have y2 := BT.cell (j := 2) rfl
            have y3 := BT.cell (j := 3) rfl
            have y4 := BT.cell (j := 4) rfl
            have hyl := BT.lt (by simp)
            have kwa := kk0.trans ka
            have r0 := (HR.out.kp kwa hrl).cell (j := 0) rfl
            clear i0 i1 i2 i3 i4
            go_wp2_with fail
            refine (HI.out m t _ _ _ _ _ false cn ps pr wa hr2.out HT.out (HB.out.kp kwa hbl) (HR.out.kp kwa hrl) (HX.out.keep (pl_stable _) kwa)).mono ?_
            rintro e w2 ⟨rfl, k2⟩
            have kk2 := (hbel.trans ka).trans k2
            go_wp2
            go_roundw
            case rel => exact ⟨j + 1, by omega, by go_num, kk2⟩
            case measure => simp [intOf]; omega
          · have hjl : ¬ (j : Int) < (ks.length : Int) := by omega
            go_wp2
            go_ret
            exact ⟨rfl, kk0⟩
end Go.Proofs.Ytlbhidiliogflaa
