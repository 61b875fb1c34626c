
/-
What a broker hears: the walk.
-/
import Derived.Test.YtbcekihjcgnhkaaBkF
namespace Go.Proofs.Ytbcekihjcgnhkaa
set_option linter.unusedSimpArgs false
set_option linter.unusedVariables false
open Go.RowKit

theorem keyI : KeyT intV 3 where
  find := fun x w zs h => by
    rw [Instr.findKey, Sem.run_bind, run_underlying Try.underlying3, Result.andThen_ok]
    have key : ∀ (zs : List (MapEntry × Int × Value)) (i : Nat), (∀ z ∈ zs, z.1.key = intV z.2.1 ∧ z.1.val = z.2.2) → Instr.findNow (.int .i64) (intV x) (zs.map (·.1)) i = some (findL x (zs.map (·.2)) i) := by
      intro zs
      induction zs with
      | nil => intro i _; rfl
      | cons z zs ih =>
        intro i h
        obtain ⟨h1, h2⟩ := h z (by simp)
        rw [List.map_cons, List.map_cons, Instr.findNow, h1, findL]
        have e : Instr.sameNow (.int .i64) (intV x) (intV z.2.1) = some (x == z.2.1) := by simp [Instr.sameNow]
        rw [e]
        by_cases hx : x = z.2.1
        · rw [if_pos hx]
          have : (x == z.2.1) = true := by simpa using hx
          rw [this, h2]
        · rw [if_neg hx]
          have : (x == z.2.1) = false := by simpa using hx
          rw [this]
          exact ih (i + 1) fun y hy => h y (by simp [hy])
    rw [key zs 0 h]
    simp
  ck := fun e x w => by cases e <;> kernel_rfl
  bits := fun x => by
    show Instr.sameBits (9999 + 1) _ _ = true
    simp [Instr.sameBits]
theorem zeroA (w : World) : Sem.run Try.prog (zeroValue 29) w = .ok (.agg #[.int .i64 0, .int .i64 0, .int .i64 0, .int .i64 0, .int .i64 0, .slice none 0 0]) w := by kernel_rfl
theorem HeardR.put {S : Nat → Prop} {w : World} {L : List (Int × Value)} {H : Int → Option Ak} (h : HeardR S w L H) {k : Int} {a : Ak} {v : Value} (hv : Sx S w v a.needs) : HeardR S w (putL k (askV a v) L) (setH H k a) := fun x => by
  rw [getL_put]
  unfold setH
  by_cases hx : x = k
  · rw [if_pos hx, if_pos hx]
    exact .inr ⟨a, v, rfl, rfl, hv⟩
  · rw [if_neg hx, if_neg hx]
    exact h x
theorem BrW.map' {S : Nat → Prop} {w w' : World} {b mb : Nat} {s s' : Bk} {L : List (Int × Value)} (h : BrW S w b mb s) (k : Kg w w' mb) (hm : MapL intV w' mb L) (hh : HeardR S w' L s'.heard) (h1 : s'.n = s.n) (h2 : s'.i = s.i) (h3 : s'.num = s.num) (h4 : s'.own = s.own) (ok : OkB s') : BrW S w' b mb s' := by
  obtain ⟨ov, h5, h6⟩ := h.box
  have hne := h.ne
  have hb : w'.heap[b]? = w.heap[b]? := k.block b h.lt (by simp; exact hne)
  refine ⟨⟨ov, ?_, ?_⟩, ⟨L, hm, hh⟩, h.sb, h.sm, ok⟩
  · have := h5.keep hb
    rw [show brL s' ov mb = brL s ov mb by simp [brL, h1, h2, h3]]
    exact this
  · rw [h4]
    exact h6.step k.size fun i hi hlt => k.block i hlt (by simp; rintro rfl; exact h.sm hi)
theorem hear_valid (k : Int) (num p1 p2 p3 p4 : Int) (l : List Nd) : validA k ⟨num, (p1, p2, p3, p4), l⟩ = (btw num 1 1048576 && validL l && (ofB (p1, p2, p3, p4) k || (decide (l.length = 0) && decide ((p1, p2, p3, p4) = ((0, 0, 0, 0) : Pr))))) := by
  unfold validA
  congr 3
  cases l <;> simp
theorem okB_hear {s : Bk} {k : Int} {a : Ak} (h : OkB s) (h1 : btw k 0 (s.n - 1) = true) (h2 : ¬ k = s.i) (h3 : validA k a = true) : OkB { s with heard := setH s.heard k a } := by
  refine ⟨h.n1, h.i1, h.num, h.own, fun x c hx => ?_⟩
  dsimp only [setH] at hx ⊢
  by_cases e : x = k
  · rw [if_pos e] at hx
    injection hx with hx
    simp only [btw, Bool.and_eq_true, decide_eq_true_eq] at h1
    subst e hx
    exact ⟨h1.1, by omega, h2, h3⟩
  · rw [if_neg e] at hx
    exact h.key x c hx
/-- what Hear returns -/
def HearR (S : Nat → Prop) (w : World) (b mb : Nat) (r : Bk × Int) (e : Ending) (w' : World) : Prop := e = .returned (.int .i64 r.2) ∧ BrW S w' b mb r.1 ∧ Fx (B2 b mb) w w'
set_option maxRecDepth 8000 in
set_option maxHeartbeats 8000000 in
theorem bHear_any {S : Nat → Prop} {b mb : Nat} {s : Bk} {w : World} (k : Int) (a : Ak) (v : Value) (h : BrW S w b mb s) (hnew : ∀ k, w.heap.size ≤ k → S k) (hv : Sx S w v a.needs) :
    Calls Try.prog 13 #[.pointer (some ⟨b, 0, none⟩), .int .i64 k, askV a v] w (HearR S w b mb (hear s k a)) := by
  obtain ⟨num, ⟨p1, p2, p3, p4⟩, l⟩ := a
  dsimp only at hv ⊢
  obtain ⟨A, c, rfl, hmc, hmm⟩ := hv.here.form
  obtain ⟨ov, hb, ho⟩ := h.box
  have hlt := h.lt
  have k1 := (Kp.refl w).alloc (.cells #[.int .i64 num, .int .i64 p1, .int .i64 p2, .int .i64 p3, .int .i64 p4, .slice A l.length c] 29)
  have hP := Bx.new w #[.int .i64 num, .int .i64 p1, .int .i64 p2, .int .i64 p3, .int .i64 p4, .slice A l.length c] 29
  have hb1 := hb.kp k1 hlt
  have hn1 := h.ok.n1
  have HH := hid h
  have HV := hid hv
  clear h hb ho hv
  generalize hr : hear s k ⟨num, (p1, p2, p3, p4), l⟩ = r
  have HRq := hid hr
  clear hr
  go_enter Try.func13, Try.ntmps13
  go_upto_region 1 with (fail)
  generalize w.alloc (.cells #[.int .i64 num, .int .i64 p1, .int .i64 p2, .int .i64 p3, .int .i64 p4, .slice A l.length c] 29) = w1 at *
  have hpb := hP.lt (by simp)
  generalize hpbe : w.heap.size = pb at *
  have HPB := hid hpbe
  clear hpbe
  have p0 := hP.cell (j := 0) rfl
  have q1 := hP.cell (j := 1) rfl
  have q2 := hP.cell (j := 2) rfl
  have q3 := hP.cell (j := 3) rfl
  have q4 := hP.cell (j := 4) rfl
  have q5 := hP.cell (j := 5) rfl
  have c0 := hb1.cell (j := 0) rfl
  have c1 := hb1.cell (j := 1) rfl
  have z1 : IntKind.i64.wrap (s.n - 1) = s.n - 1 := IntWalk.i64_in _ (by omega)
  have z2 : wrap64 (s.n - 1) = s.n - 1 := IntWalk.wrap64_in _ (by omega)
  by_cases h1 : btw k 0 (s.n - 1) = true
  · by_cases h2 : k = s.i
    · have e2 : (k == s.i) = true := by simpa using h2
      obtain rfl : r = (s, 2) := by rw [← HRq.out, hear, if_pos (by simp [h2])]
      replace h2 := hid h2
      go_wp2_with (refine (bBetween_at _ _ _ _).mono ?_; rintro e w9 ⟨rfl, rfl⟩; simp only [h1])
      go_ret
      exact ⟨rfl, HH.out.kp k1, k1.fx _⟩
    · have e2 : (k == s.i) = false := by simpa using h2
      have HR2 : Hid (r = if !validA k ⟨num, (p1, p2, p3, p4), l⟩ then (s, 1) else if (s.heard k).any (fun x => x.num == num) then (s, 6) else ({ s with heard := setH s.heard k ⟨num, (p1, p2, p3, p4), l⟩ }, 0)) := hid (by rw [← HRq.out, hear, if_neg (by simp [h1, h2])])
      have H2 := hid h2
      have H1 := hid h1
      clear HRq
      go_upto_region 1 with (fail)
      go_cut [25] from 10 to 25 (fun s25 wx => s25 = .bool false ∧ wx = w1)
      case first =>
        go_wp2_with (refine (bBetween_at _ _ _ _).mono ?_; rintro e w9 ⟨rfl, rfl⟩; simp only [h1])
        go_meet
        case rel => exact ⟨by simp [e2], rfl⟩
      case rest =>
        obtain ⟨rfl, rfl⟩ := hcut
        clear z1 z2 h1 h2 e2
        have HX := hid (hear_valid k num p1 p2 p3 p4 l)
        generalize hva : validA k ⟨num, (p1, p2, p3, p4), l⟩ = va at *
        have HVA := hid hva
        clear hva
        obtain ⟨q, hq⟩ : ∃ q, ((l.length : Int) == 0) = q := ⟨_, rfl⟩
        have hq2 : decide (l.length = 0) = q := by rw [← hq, Bool.eq_iff_iff]; simp only [decide_eq_true_eq, beq_iff_eq]; omega
        obtain ⟨z, hz⟩ : ∃ z, decide ((p1, p2, p3, p4) = ((0, 0, 0, 0) : Pr)) = z := ⟨_, rfl⟩
        have heq := fun W => run_eql_pr W (p1, p2, p3, p4) (0, 0, 0, 0)
        rw [hz] at heq
        rw [hq2, hz] at HX
        clear hq2 hz
        go_upto_region 3 with (fail)
        go_cut [7] from 7 to 35 (fun s7 wx => s7 = .bool (q && z) ∧ wx = wc)
        case first =>
          cases q with
          | false =>
            go_wp2
            go_meet
            case rel => exact ⟨rfl, rfl⟩
          | true =>
            cases z with
            | true =>
              go_wp2
              go_meet
              case rel => exact ⟨rfl, rfl⟩
            | false =>
              go_wp2
              go_meet
              case rel => exact ⟨rfl, rfl⟩
        case rest =>
          obtain ⟨rfl, rfl⟩ := hcut
          clear hq heq
          generalize (q && z) = idle at *
          have hvl := fun W (kW : Kp w W) => bValid_any _ l W (HV.out.here.keep (pl_stable _) kW)
          have hof := fun W => bOf_any (p1, p2, p3, p4) k W
          go_upto_region 4 with (fail)
          obtain ⟨w2, hw2⟩ : ∃ w2, w2 = wc := ⟨_, rfl⟩
          subst hw2
          go_cut [56] from 36 to 56 (fun s56 wx => s56 = .bool (!va) ∧ Kp w2 wx)
          case first =>
            by_cases h1 : btw num 1 1048576 = true
            · have HX2 := HX.out
              rw [h1] at HX2
              replace HX2 := hid HX2
              go_wp2_with (refine (bBetween_at _ _ _ _).mono ?_; rintro e w9 ⟨rfl, rfl⟩; simp only [h1])
              refine (hvl _ k1).mono ?_
              rintro e w3 ⟨rfl, k3⟩
              by_cases h2 : validL l = true
              · rw [h2]
                cases idle with
                | true =>
                  have HY : Hid (va = true) := hid (by rw [HX2.out, h2]; simp)
                  go_wp2
                  go_meet
                  case rel => exact ⟨by rw [HY.out]; rfl, k3⟩
                | false =>
                  have r0 := k3.cellS q1
                  have r1 := k3.cellS q2
                  have r2 := k3.cellS q3
                  have r3 := k3.cellS q4
                  go_wp2_with fail
                  refine (hof _).mono ?_
                  rintro e w4 ⟨rfl, k4⟩
                  by_cases h3 : ofB (p1, p2, p3, p4) k = true
                  · have HY : Hid (va = true) := hid (by rw [HX2.out, h2, h3]; simp)
                    rw [h3]
                    go_wp2
                    go_meet
                    case rel => exact ⟨by rw [HY.out]; rfl, k3.trans k4⟩
                  · replace h3 := eq_false_of_ne_true h3
                    have HY : Hid (va = false) := hid (by rw [HX2.out, h2, h3]; rfl)
                    rw [h3]
                    go_wp2
                    go_meet
                    case rel => exact ⟨by rw [HY.out]; rfl, k3.trans k4⟩
              · replace h2 := eq_false_of_ne_true h2
                have HY : Hid (va = false) := hid (by rw [HX2.out, h2]; rfl)
                rw [h2]
                go_wp2
                go_meet
                case rel => exact ⟨by rw [HY.out]; rfl, k3⟩
            · replace h1 := eq_false_of_ne_true h1
              have HY : Hid (va = false) := hid (by rw [HX.out, h1]; rfl)
              go_wp2_with (refine (bBetween_at _ _ _ _).mono ?_; rintro e w9 ⟨rfl, rfl⟩; simp only [h1])
              go_meet
              case rel => exact ⟨by rw [HY.out]; rfl, Kp.refl _⟩
          case rest =>
            obtain ⟨rfl, k2⟩ := hcut
            have kW := k1.trans k2
            clear hvl hof
            cases va with
            | false =>
              obtain rfl : r = (s, 1) := by rw [HR2.out]; rfl
              go_wp2
              go_ret
              exact ⟨rfl, HH.out.kp kW, kW.fx _⟩
            | true =>
              have hlen : l.length ≤ 1024 := by
                have h := HX.out
                cases hv : validL l with
                | false => rw [hv] at h; simp at h
                | true => exact ((validL_iff l).1 hv).2.2
              have HR3 : Hid (r = if (s.heard k).any (fun x => x.num == num) then (s, 6) else ({ s with heard := setH s.heard k ⟨num, (p1, p2, p3, p4), l⟩ }, 0)) := hid HR2.out
              clear HR2
              have hP2 := hP.keep (k2.block hpb)
              have hb2 := hb1.keep (k2.block (by omega))
              have hpb2 := Nat.lt_of_lt_of_le hpb k2.size
              clear hP hb1 p0 q1 q2 q3 q4 q5 c0 c1
              have HW := hid (HH.out.kp kW)
              obtain ⟨L, hm, hh⟩ := HW.out.mp
              have hhk := hh k
              have hlk := hm.look keyI Try.underlying91 (zeroA wc) k true
              simp only [if_true] at hlk
              have p0 := hP2.cell (j := 0) rfl
              have c4 := hb2.cell (j := 4) rfl
              have HMM := hid hm
              have HHH := hid hh
              clear hm hh
              rcases hhk with ⟨g1, g2⟩ | ⟨a', v', g1, g2, g3⟩
              · rw [g1] at hlk
                rw [g2] at HR3
                dsimp only [Option.getD, Option.isSome] at hlk
                obtain rfl : r = ({ s with heard := setH s.heard k ⟨num, (p1, p2, p3, p4), l⟩ }, 0) := by rw [HR3.out]; rfl
                have kA := (Kp.refl wc).alloc (.cells #[.int .i64 0, .int .i64 0, .int .i64 0, .int .i64 0, .int .i64 0, .slice none 0 0] 29)
                go_upto_region 9 with (fail)
                have kT := kW.trans kA
                have hP4 := hP2.keep (kA.block hpb2)
                have hb4 := hb2.keep (kA.block (by omega))
                have hz4 := kA.size
                generalize wc.alloc (.cells #[.int .i64 0, .int .i64 0, .int .i64 0, .int .i64 0, .int .i64 0, .slice none 0 0] 29) = w4 at *
                clear p0 c4
                have q5 := hP4.cell (j := 5) rfl
                go_wp2_with fail
                refine (CloneNd_any _ l _ (HV.out.here.keep (pl_stable _) kT) (by omega)).mono ?_
                rintro e w5 ⟨v5, rfl, own5, k5⟩
                obtain ⟨A5, c5, rfl, -, -⟩ := own5.form
                have hP5 := hP4.keep (k5.block (by omega))
                have hb5 := hb4.keep (k5.block (by omega))
                have hz5 := k5.size
                have d5 := hP5.cell (j := 5) rfl
                have f5 := hP5.free (j := 5) (by simp)
                have hP6 := hP5.set (j := 5) (by simp) (.slice A5 l.length c5)
                simp only [List.set_cons_zero, List.set_cons_succ] at hP6
                have hb6 := hb5.keep (set_block w5 ⟨pb, 5, none⟩ (.slice A5 l.length c5) b (by show b ≠ pb; omega))
                have own6 := own5.kg ((Kg.refl w5 pb).set (p := ⟨pb, 5, none⟩) (.inl rfl) (.slice A5 l.length c5)) (by omega)
                have kT6 := (kT.trans k5).set (p := ⟨pb, 5, none⟩) (Nat.le_of_eq HPB.out) (.slice A5 l.length c5)
                have hz6 := set_size w5 ⟨pb, 5, none⟩ (.slice A5 l.length c5)
                go_upto_region 10 with (fail)
                generalize w5.setCell ⟨pb, 5, none⟩ (.slice A5 l.length c5) = w6 at *
                have p0 := hP6.cell (j := 0) rfl
                have p1' := hP6.cell (j := 1) rfl
                have p2' := hP6.cell (j := 2) rfl
                have p3' := hP6.cell (j := 3) rfl
                have p4' := hP6.cell (j := 4) rfl
                have p5' := hP6.cell (j := 5) rfl
                have c4 := hb6.cell (j := 4) rfl
                refine G2.wp_region_growT Kp [] 6 84 (G2.pvL [G2.eqv (.pointer (some ⟨b, 0, none⟩)), G2.eqv (.pointer (some ⟨b, 0, none⟩)), G2.eqv (.pointer (some ⟨b, 4, none⟩)), G2.eqv (.map (some mb)), G2.eqv (.int .i64 k), G2.eqv (.agg #[.int .i64 num, .int .i64 p1, .int .i64 p2, .int .i64 p3, .int .i64 p4, .slice A5 l.length c5])]) (by kernel_rfl) (by kernel_rfl) rfl (fun x => Kp.refl x) (fun _ _ _ h k => h.trans k) (Kp.refl _).drew (fun _ _ _ _ _ h => h) (G2.pvL_keep (G2.stabL_cons (G2.stab_eq _) (G2.stabL_cons (G2.stab_eq _) (G2.stabL_cons (G2.stab_eq _) (G2.stabL_cons (G2.stab_eq _) (G2.stabL_cons (G2.stab_eq _) (G2.stabL_cons (G2.stab_eq _) (G2.stabL_nil)))))))) (G2.stepsT_cons 0 ?_ (G2.stepsT_cons 1 ?_ (G2.stepsT_cons 2 ?_ (G2.stepsT_cons 3 ?_ (G2.stepsT_cons 4 ?_ (G2.stepsT_cons 5 ?_ (G2.stepsT_nil _ _ _))))))) ?_ ?_
                · intro a w' hk hF hD K hK
                  have h0 : a.tmps[0]?.getD undef = .pointer (some ⟨b, 0, none⟩) := hF 0 (by kernel_rfl)
                  clear hF hD
                  go_simp
                  exact hK.out _ _ (Kp.refl _) rfl
                · intro a w' hk hF hD K hK
                  have h78 : a.tmps[78]?.getD undef = .pointer (some ⟨b, 0, none⟩) := hD 0 (by kernel_rfl)
                  clear hF hD
                  go_simp
                  exact hK.out _ _ (Kp.refl _) rfl
                · intro a w' hk hF hD K hK
                  have h79 : a.tmps[79]?.getD undef = .pointer (some ⟨b, 0, none⟩) := hD 1 (by kernel_rfl)
                  clear hF hD
                  go_simp
                  exact hK.out _ _ (Kp.refl _) rfl
                · intro a w' hk hF hD K hK
                  have h80 : a.tmps[80]?.getD undef = .pointer (some ⟨b, 4, none⟩) := hD 2 (by kernel_rfl)
                  clear hF hD
                  have z0 := hk.cellS c4
                  go_simp
                  exact hK.out _ _ (Kp.refl _) rfl
                · intro a w' hk hF hD K hK
                  have h1 : a.tmps[1]?.getD undef = .int .i64 k := hF 1 (by kernel_rfl)
                  clear hF hD
                  go_simp
                  exact hK.out _ _ (Kp.refl _) rfl
                · intro a w' hk hF hD K hK
                  have h5 : a.tmps[5]?.getD undef = .pointer (some ⟨pb, 0, none⟩) := hF 5 (by kernel_rfl)
                  clear hF hD
                  have z0 := hk.cellS p0
                  have z1 := hk.cellS p1'
                  have z2 := hk.cellS p2'
                  have z3 := hk.cellS p3'
                  have z4 := hk.cellS p4'
                  have z5 := hk.cellS p5'
                  go_simp
                  exact hK.out _ _ (Kp.refl _) rfl
                · exact fun i0 hi0 => by simp at hi0
                intro v w9 k9 hv
                have v3 : v 3 = .map (some mb) := hv 3 (by omega)
                have v4 : v 4 = .int .i64 k := hv 4 (by omega)
                have v5 : v 5 = .agg #[.int .i64 num, .int .i64 p1, .int .i64 p2, .int .i64 p3, .int .i64 p4, .slice A5 l.length c5] := hv 5 (by omega)
                clear hv
                simp only [G2.growPut, G2.gSlot, List.getElem?_toArray, List.getElem?_cons_zero, List.getElem?_cons_succ, Option.bind_some, List.setIfInBounds_toArray, List.set_cons_zero, List.set_cons_succ, List.drop_succ_cons, List.drop_zero, v3, v4, v5]
                obtain ⟨L9, hm9, hh9⟩ := (HH.out.kp (kT6.trans k9)).mp
                obtain ⟨w10, hrun, hM10, hg10, hz10⟩ := hm9.put keyI Try.underlying91 k (.agg #[.int .i64 num, .int .i64 p1, .int .i64 p2, .int .i64 p3, .int .i64 p4, .slice A5 l.length c5])
                have hmlt := HH.out.mlt
                have hpz := HPB.out
                go_wp2_with (refine wpl_mapset rfl 91 (.tmp 81) (.tmp 82) (.tmp 83) rfl rfl rfl rfl hrun ?_)
                go_ret
                have hv10 : Sx S w10 (.slice A5 l.length c5) l := ((own6.kp k9).kg hg10 (by omega)).sx fun i hi => hnew i (by omega)
                have hh10 := hh9.step hg10.size fun i hi hlt => hg10.block i hlt (by simp; rintro rfl; exact HH.out.sm hi)
                exact ⟨rfl, (HH.out.kp (kT6.trans k9)).map' hg10 hM10 (hh10.put (a := ⟨num, (p1, p2, p3, p4), l⟩) hv10) rfl rfl rfl rfl (okB_hear HH.out.ok H1.out H2.out HVA.out), ((kT6.trans k9).fx _).trans (hg10.fx (.inl (.inr rfl)))⟩
              · rw [g1] at hlk
                rw [g2] at HR3
                dsimp only [Option.getD, Option.isSome] at hlk
                have HR4 : Hid (r = if a'.num == num then (s, 6) else ({ s with heard := setH s.heard k ⟨num, (p1, p2, p3, p4), l⟩ }, 0)) := hid HR3.out
                obtain ⟨A3, c3, rfl, -, -⟩ := g3.here.form
                have kA := (Kp.refl wc).alloc (.cells #[.int .i64 a'.num, .int .i64 a'.pri.1, .int .i64 a'.pri.2.1, .int .i64 a'.pri.2.2.1, .int .i64 a'.pri.2.2.2, .slice A3 a'.needs.length c3] 29)
                by_cases h7 : a'.num = num
                · have e7 : (a'.num == num) = true := by simpa using h7
                  obtain rfl : r = (s, 6) := by rw [HR4.out, if_pos e7]
                  have H7 := hid h7
                  clear h7
                  go_wp2
                  go_ret
                  exact ⟨rfl, HW.out.kp kA, (kW.trans kA).fx _⟩
                · have e7 : (a'.num == num) = false := by simpa using h7
                  obtain rfl : r = ({ s with heard := setH s.heard k ⟨num, (p1, p2, p3, p4), l⟩ }, 0) := by rw [HR4.out, if_neg (by simp [h7])]
                  have H7 := hid h7
                  clear h7
                  go_upto_region 9 with (fail)
                  have kT := kW.trans kA
                  have hP4 := hP2.keep (kA.block hpb2)
                  have hb4 := hb2.keep (kA.block (by omega))
                  have hz4 := kA.size
                  generalize wc.alloc (.cells #[.int .i64 a'.num, .int .i64 a'.pri.1, .int .i64 a'.pri.2.1, .int .i64 a'.pri.2.2.1, .int .i64 a'.pri.2.2.2, .slice A3 a'.needs.length c3] 29) = w4 at *
                  clear p0 c4
                  have q5 := hP4.cell (j := 5) rfl
                  go_wp2_with fail
                  refine (CloneNd_any _ l _ (HV.out.here.keep (pl_stable _) kT) (by omega)).mono ?_
                  rintro e w5 ⟨v5, rfl, own5, k5⟩
                  obtain ⟨A5, c5, rfl, -, -⟩ := own5.form
                  have hP5 := hP4.keep (k5.block (by omega))
                  have hb5 := hb4.keep (k5.block (by omega))
                  have hz5 := k5.size
                  have d5 := hP5.cell (j := 5) rfl
                  have f5 := hP5.free (j := 5) (by simp)
                  have hP6 := hP5.set (j := 5) (by simp) (.slice A5 l.length c5)
                  simp only [List.set_cons_zero, List.set_cons_succ] at hP6
                  have hb6 := hb5.keep (set_block w5 ⟨pb, 5, none⟩ (.slice A5 l.length c5) b (by show b ≠ pb; omega))
                  have own6 := own5.kg ((Kg.refl w5 pb).set (p := ⟨pb, 5, none⟩) (.inl rfl) (.slice A5 l.length c5)) (by omega)
                  have kT6 := (kT.trans k5).set (p := ⟨pb, 5, none⟩) (Nat.le_of_eq HPB.out) (.slice A5 l.length c5)
                  have hz6 := set_size w5 ⟨pb, 5, none⟩ (.slice A5 l.length c5)
                  go_upto_region 10 with (fail)
                  generalize w5.setCell ⟨pb, 5, none⟩ (.slice A5 l.length c5) = w6 at *
                  have p0 := hP6.cell (j := 0) rfl
                  have p1' := hP6.cell (j := 1) rfl
                  have p2' := hP6.cell (j := 2) rfl
                  have p3' := hP6.cell (j := 3) rfl
                  have p4' := hP6.cell (j := 4) rfl
                  have p5' := hP6.cell (j := 5) rfl
                  have c4 := hb6.cell (j := 4) rfl
                  refine G2.wp_region_growT Kp [] 6 84 (G2.pvL [G2.eqv (.pointer (some ⟨b, 0, none⟩)), G2.eqv (.pointer (some ⟨b, 0, none⟩)), G2.eqv (.pointer (some ⟨b, 4, none⟩)), G2.eqv (.map (some mb)), G2.eqv (.int .i64 k), G2.eqv (.agg #[.int .i64 num, .int .i64 p1, .int .i64 p2, .int .i64 p3, .int .i64 p4, .slice A5 l.length c5])]) (by kernel_rfl) (by kernel_rfl) rfl (fun x => Kp.refl x) (fun _ _ _ h k => h.trans k) (Kp.refl _).drew (fun _ _ _ _ _ h => h) (G2.pvL_keep (G2.stabL_cons (G2.stab_eq _) (G2.stabL_cons (G2.stab_eq _) (G2.stabL_cons (G2.stab_eq _) (G2.stabL_cons (G2.stab_eq _) (G2.stabL_cons (G2.stab_eq _) (G2.stabL_cons (G2.stab_eq _) (G2.stabL_nil)))))))) (G2.stepsT_cons 0 ?_ (G2.stepsT_cons 1 ?_ (G2.stepsT_cons 2 ?_ (G2.stepsT_cons 3 ?_ (G2.stepsT_cons 4 ?_ (G2.stepsT_cons 5 ?_ (G2.stepsT_nil _ _ _))))))) ?_ ?_
                  · intro a w' hk hF hD K hK
                    have h0 : a.tmps[0]?.getD undef = .pointer (some ⟨b, 0, none⟩) := hF 0 (by kernel_rfl)
                    clear hF hD
                    go_simp
                    exact hK.out _ _ (Kp.refl _) rfl
                  · intro a w' hk hF hD K hK
                    have h78 : a.tmps[78]?.getD undef = .pointer (some ⟨b, 0, none⟩) := hD 0 (by kernel_rfl)
                    clear hF hD
                    go_simp
                    exact hK.out _ _ (Kp.refl _) rfl
                  · intro a w' hk hF hD K hK
                    have h79 : a.tmps[79]?.getD undef = .pointer (some ⟨b, 0, none⟩) := hD 1 (by kernel_rfl)
                    clear hF hD
                    go_simp
                    exact hK.out _ _ (Kp.refl _) rfl
                  · intro a w' hk hF hD K hK
                    have h80 : a.tmps[80]?.getD undef = .pointer (some ⟨b, 4, none⟩) := hD 2 (by kernel_rfl)
                    clear hF hD
                    have z0 := hk.cellS c4
                    go_simp
                    exact hK.out _ _ (Kp.refl _) rfl
                  · intro a w' hk hF hD K hK
                    have h1 : a.tmps[1]?.getD undef = .int .i64 k := hF 1 (by kernel_rfl)
                    clear hF hD
                    go_simp
                    exact hK.out _ _ (Kp.refl _) rfl
                  · intro a w' hk hF hD K hK
                    have h5 : a.tmps[5]?.getD undef = .pointer (some ⟨pb, 0, none⟩) := hF 5 (by kernel_rfl)
                    clear hF hD
                    have z0 := hk.cellS p0
                    have z1 := hk.cellS p1'
                    have z2 := hk.cellS p2'
                    have z3 := hk.cellS p3'
                    have z4 := hk.cellS p4'
                    have z5 := hk.cellS p5'
                    go_simp
                    exact hK.out _ _ (Kp.refl _) rfl
                  · exact fun i0 hi0 => by simp at hi0
                  intro v w9 k9 hv
                  have v3 : v 3 = .map (some mb) := hv 3 (by omega)
                  have v4 : v 4 = .int .i64 k := hv 4 (by omega)
                  have v5 : v 5 = .agg #[.int .i64 num, .int .i64 p1, .int .i64 p2, .int .i64 p3, .int .i64 p4, .slice A5 l.length c5] := hv 5 (by omega)
                  clear hv
                  simp only [G2.growPut, G2.gSlot, List.getElem?_toArray, List.getElem?_cons_zero, List.getElem?_cons_succ, Option.bind_some, List.setIfInBounds_toArray, List.set_cons_zero, List.set_cons_succ, List.drop_succ_cons, List.drop_zero, v3, v4, v5]
                  obtain ⟨L9, hm9, hh9⟩ := (HH.out.kp (kT6.trans k9)).mp
                  obtain ⟨w10, hrun, hM10, hg10, hz10⟩ := hm9.put keyI Try.underlying91 k (.agg #[.int .i64 num, .int .i64 p1, .int .i64 p2, .int .i64 p3, .int .i64 p4, .slice A5 l.length c5])
                  have hmlt := HH.out.mlt
                  have hpz := HPB.out
                  go_wp2_with (refine wpl_mapset rfl 91 (.tmp 81) (.tmp 82) (.tmp 83) rfl rfl rfl rfl hrun ?_)
                  go_ret
                  have hv10 : Sx S w10 (.slice A5 l.length c5) l := ((own6.kp k9).kg hg10 (by omega)).sx fun i hi => hnew i (by omega)
                  have hh10 := hh9.step hg10.size fun i hi hlt => hg10.block i hlt (by simp; rintro rfl; exact HH.out.sm hi)
                  exact ⟨rfl, (HH.out.kp (kT6.trans k9)).map' hg10 hM10 (hh10.put (a := ⟨num, (p1, p2, p3, p4), l⟩) hv10) rfl rfl rfl rfl (okB_hear HH.out.ok H1.out H2.out HVA.out), ((kT6.trans k9).fx _).trans (hg10.fx (.inl (.inr rfl)))⟩
  · replace h1 := eq_false_of_ne_true h1
    obtain rfl : r = (s, 2) := by rw [← HRq.out, hear, if_pos (by simp [h1])]
    go_wp2_with (refine (bBetween_at _ _ _ _).mono ?_; rintro e w9 ⟨rfl, rfl⟩; simp only [h1])
    go_ret
    exact ⟨rfl, HH.out.kp k1, k1.fx _⟩
end Go.Proofs.Ytbcekihjcgnhkaa
