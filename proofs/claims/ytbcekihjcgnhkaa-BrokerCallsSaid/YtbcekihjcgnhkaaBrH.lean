
/-
The reference of the broker: the own request: the walk.
-/
import Derived.Test.YtbcekihjcgnhkaaBrG
import Derived.Test.YtbcekihjcgnhkaaGrowD
import Derived.Test.YtbcekihjcgnhkaaHand
import Derived.Test.YtbcekihjcgnhkaaApz
namespace Go.Proofs.Ytbcekihjcgnhkaa
set_option linter.unusedSimpArgs false
set_option linter.unusedVariables false
open Go.RowKit

def emptyP (base : Nat) (v : Value) (w : World) : Prop := ∃ g : Nat, v = .slice (some ⟨g, 0, none⟩) 0 0 ∧ Own encNd 41 4 base w (.slice (some ⟨g, 0, none⟩) 0 0) []
set_option maxRecDepth 8000 in
set_option maxHeartbeats 8000000 in
theorem rRequest41_any (X : Nat → Prop) (b : Bk) (p : Pr) (m l : List Nd) (vm vl va vh : Value) (w : World) (hR : RefX X w b va vh) (hX : ∀ q, X q → q < w.heap.size) (hm : Nds w vm m) (hl : Nds w vl l) :
    Calls Try.prog 21 #[.agg (refL b va vh).toArray, prV p, vm, vl] w fun e w' => Kp w w' ∧ ∃ va' vq, e = .returned (.tuple #[.agg (refL (request b p m l).1 va' vh).toArray, askV (request b p m l).2.1 vq, .int .i64 (request b p m l).2.2]) ∧ (OwF X w' fun w2 => Nds w2 vq (request b p m l).2.1.needs) ∧ RefX X w' (request b p m l).1 va' vh := by
  obtain ⟨p1, p2, p3, p4⟩ := p
  have hnum := hR.ok.num
  obtain ⟨A, c, A', c', e1, e2⟩ := hR.form
  subst e1 e2
  obtain ⟨Am, cm, rfl, hmc, hmm⟩ := hm.form
  obtain ⟨Al, cl, rfl, hlc, hll⟩ := hl.form
  have HRE : Hid (request b (p1, p2, p3, p4) m l = if !ofB (p1, p2, p3, p4) b.i || decide (m.length = 0) || !validL m || !validL l then (b, zAk, 1) else if 1048576 ≤ b.num then (b, zAk, 8) else ({ b with num := b.num + 1, own := some ((p1, p2, p3, p4), l) }, ⟨b.num + 1, (p1, p2, p3, p4), m⟩, 0)) := hid rfl
  generalize request b (p1, p2, p3, p4) m l = R at *
  have k1 := (Kp.refl w).alloc (.cells ((refL b (.slice A (lstO b.own).length c) (.slice A' b.n.toNat c'))).toArray 58)
  have B1 := Bx.new w ((refL b (.slice A (lstO b.own).length c) (.slice A' b.n.toNat c'))).toArray 58
  have z1 := World.size_alloc w (.cells ((refL b (.slice A (lstO b.own).length c) (.slice A' b.n.toNat c'))).toArray 58)
  go_enter Try.func21, Try.ntmps21
  go_upto_region 1 with (fail)
  generalize w.alloc (.cells ((refL b (.slice A (lstO b.own).length c) (.slice A' b.n.toNat c'))).toArray 58) = wa at *
  have k2 := (Kp.refl wa).alloc (.cells ([.int .i64 p1, .int .i64 p2, .int .i64 p3, .int .i64 p4]).toArray 23)
  have B2 := Bx.new wa ([.int .i64 p1, .int .i64 p2, .int .i64 p3, .int .i64 p4]).toArray 23
  have z2 := World.size_alloc wa (.cells ([.int .i64 p1, .int .i64 p2, .int .i64 p3, .int .i64 p4]).toArray 23)
  generalize wa.alloc (.cells ([.int .i64 p1, .int .i64 p2, .int .i64 p3, .int .i64 p4]).toArray 23) = wp at *
  have k3 := (Kp.refl wp).alloc (.cells ([.int .i64 0, .int .i64 0, .int .i64 0, .bool false, .int .i64 0, .int .i64 0, .int .i64 0, .int .i64 0, .slice none 0 0, .slice none 0 0]).toArray 58)
  have B3 := Bx.new wp ([.int .i64 0, .int .i64 0, .int .i64 0, .bool false, .int .i64 0, .int .i64 0, .int .i64 0, .int .i64 0, .slice none 0 0, .slice none 0 0]).toArray 58
  have z3 := World.size_alloc wp (.cells ([.int .i64 0, .int .i64 0, .int .i64 0, .bool false, .int .i64 0, .int .i64 0, .int .i64 0, .int .i64 0, .slice none 0 0, .slice none 0 0]).toArray 58)
  generalize wp.alloc (.cells ([.int .i64 0, .int .i64 0, .int .i64 0, .bool false, .int .i64 0, .int .i64 0, .int .i64 0, .int .i64 0, .slice none 0 0, .slice none 0 0]).toArray 58) = wb at *
  have k4 := (Kp.refl wb).alloc (.cells ([.int .i64 0, .int .i64 0, .int .i64 0, .int .i64 0, .int .i64 0, .slice none 0 0]).toArray 29)
  have B4 := Bx.new wb ([.int .i64 0, .int .i64 0, .int .i64 0, .int .i64 0, .int .i64 0, .slice none 0 0]).toArray 29
  generalize wb.alloc (.cells ([.int .i64 0, .int .i64 0, .int .i64 0, .int .i64 0, .int .i64 0, .slice none 0 0]).toArray 29) = wc at *
  obtain ⟨x0, hx0⟩ : ∃ x0, x0 = w.heap.size := ⟨_, rfl⟩
  obtain ⟨pb, hpb⟩ : ∃ pb, pb = x0 + 1 := ⟨_, rfl⟩
  obtain ⟨tB, htB⟩ : ∃ tB, tB = pb + 1 := ⟨_, rfl⟩
  obtain ⟨tC, htC⟩ : ∃ tC, tC = tB + 1 := ⟨_, rfl⟩
  rw [← hx0, ← hpb] at z1
  rw [z1, ← htB] at z2
  rw [z2, ← htC] at z3
  rw [← hx0] at B1 ⊢
  rw [z1] at B2
  rw [z2] at B3
  rw [z3] at B4
  rw [← hpb, ← htB, ← htC]
  try simp only [List.toList_toArray] at B1 B2 B3 B4
  have hl1 := B1.lt (by simp)
  have hl2 := B2.lt (by simp)
  have hl3 := B3.lt (by simp)
  have hl4 := B4.lt (by simp)
  have k34 := k3.trans k4
  have k24 := k2.trans k34
  have B1c := B1.kp k24 hl1
  have BPc := B2.kp k34 hl2
  have B2c := B3.kp k4 hl3
  have B3 := B4
  have k03 := k1.trans k24
  have hne : x0 < pb ∧ pb < tB ∧ tB < tC ∧ w.heap.size ≤ x0 := by omega
  replace hx0 := hid hx0
  replace hpb := hid hpb
  replace htB := hid htB
  replace htC := hid htC
  replace z1 := hid z1
  replace z2 := hid z2
  replace z3 := hid z3
  clear B1 B2 B4 k1 k2 k3 k4 k34 k24 hl1 hl2 hl3 hl4
  have hl1 := B1c.lt (by simp)
  have hlp := BPc.lt (by simp)
  have hl2 := B2c.lt (by simp)
  have hl3 := B3.lt (by simp)
  have y1 := B1c.cell (j := 1) rfl
  have q0 := BPc.cell (j := 0) rfl
  have q1 := BPc.cell (j := 1) rfl
  have q2 := BPc.cell (j := 2) rfl
  have q3 := BPc.cell (j := 3) rfl
  have HM := hid hm
  have HL := hid hl
  clear hm hl
  go_wp2_with fail
  refine (rPriority_any (p1, p2, p3, p4) b.i wc).mono ?_
  rintro e w2 ⟨rfl, k2⟩
  by_cases h1 : ofB (p1, p2, p3, p4) b.i = true
  · rw [h1]
    by_cases h2 : m.length = 0
    · have e2 : ((m.length : Int) == 0) = true := by rw [h2]; rfl
      have HF : Hid (R = (b, zAk, 1)) := hid (by rw [HRE.out, if_pos (by simp [h1, h2])])
      clear HRE
      have B1w := B1c.kp k2 hl1
      have B2w := B2c.kp k2 hl2
      have B3w := B3.kp k2 hl3
      have k0w := k03.trans k2
      obtain ⟨L, hL⟩ : ∃ L : List Value, Hid (L = (refL b (.slice A (lstO b.own).length c) (.slice A' b.n.toNat c'))) := ⟨_, hid rfl⟩
      rw [← hL.out] at B1w
      have rL := B1w.range
      have lL : L.length = 10 := by rw [hL.out]; rfl
      have iL : (Try.prog.info? 58).map (·.size) = some L.length := by rw [lL]; kernel_rfl
      have oL : ∀ u ∈ L, u.oneCell' = true := by rw [hL.out]; simp [Value.oneCell']
      have tL : (w2).there tB 0 L.toArray.size := by simpa [lL] using B2w.thereAt 0 10 (by simp)
      have iL2 : (Try.prog.info? 58).map (·.size) = some L.toArray.size := by simpa using iL
      have E1 := B2w.all (cs := L) (by rw [lL]; rfl)
      have kS1 : Fx (fun q => q = tB) w2 ((w2).setCells tB 0 L) := (Kg.setCells (.inl rfl) _ 0 (Kg.refl w2 tB)).fx (.inl rfl)
      have C1 := B3w.fx kS1 (B3w.lt (by simp)) (fun e => by omega)
      have k1w : Kp w ((w2).setCells tB 0 L) := Kp.setCells (by omega) _ 0 _ k0w
      go_wp2_with (first | (refine wpList_load_mid rfl 58 (.tmp 4) rfl x0 0 rfl L _ rL Try.underlying58 rfl iL ?_) | (refine wpList_store_mid rfl 58 (.tmp 8) (.tmp 31) rfl tB 0 L.toArray rfl rfl tL iL2 (all_oneCell_toArray oL) ?_; rw [List.toList_toArray]; generalize (w2).setCells tB 0 L = w1 at *; have z0 := C1.cell (j := 0) rfl; have z1' := C1.cell (j := 1) rfl; have z2' := C1.cell (j := 2) rfl; have z3 := C1.cell (j := 3) rfl; have z4 := C1.cell (j := 4) rfl; have z5 := C1.cell (j := 5) rfl; have r0 := C1.free (j := 0) (by simp); have r1 := C1.free (j := 1) (by simp); have r2 := C1.free (j := 2) (by simp); have r3 := C1.free (j := 3) (by simp); have r4 := C1.free (j := 4) (by simp); have r5 := C1.free (j := 5) (by simp); have hc1 := C1.lt (by simp)) | fail)
      try simp only [Exit.inBlock, Exit.then]
      have E2 := C1.all (cs := [.int .i64 0, .int .i64 0, .int .i64 0, .int .i64 0, .int .i64 0, .slice none 0 0]) rfl
      have kS2 : Fx (fun q => q = tC) w1 (w1.setCells tC 0 [.int .i64 0, .int .i64 0, .int .i64 0, .int .i64 0, .int .i64 0, .slice none 0 0]) := (Kg.setCells (.inl rfl) _ 0 (Kg.refl w1 tC)).fx (.inl rfl)
      have E3 := E1.fx kS2 (E1.lt (by omega)) (fun e => by omega)
      have kE : Kp w (w1.setCells tC 0 [.int .i64 0, .int .i64 0, .int .i64 0, .int .i64 0, .int .i64 0, .slice none 0 0]) := Kp.setCells (by omega) _ 0 _ k1w
      change bodyPost _ _ _ _ _ (w1.setCells tC 0 [.int .i64 0, .int .i64 0, .int .i64 0, .int .i64 0, .int .i64 0, .slice none 0 0])
      refine bodyPost_ret (results_cell2_tmp rfl _ _ tB tC L [.int .i64 0, .int .i64 0, .int .i64 0, .int .i64 0, .int .i64 0, .slice none 0 0] _ _ rfl rfl E3.range E2.range Try.underlying58 rfl iL Try.underlying29 rfl (by kernel_rfl)) rfl ?_
      rw [HF.out]
      exact ⟨kE, .slice A (lstO b.own).length c, .slice none 0 0, by rw [hL.out]; rfl, fun w2 _ => Sl.nil _ _ _, hR.kp kE⟩
    · have e2 : ((m.length : Int) == 0) = false := beq_false_of_ne (by omega)
      replace h2 := hid h2
      go_wp2_with fail
      refine (rValid_any _ m w2 (HM.out.keep (pl_stable _) (k03.trans k2))).mono ?_
      rintro e w3 ⟨rfl, k3⟩
      have k23 := k2.trans k3
      by_cases h3 : validL m = true
      · rw [h3]
        go_wp2_with fail
        refine (rValid_any _ l w3 (HL.out.keep (pl_stable _) (k03.trans k23))).mono ?_
        rintro e w4 ⟨rfl, k4⟩
        have k24 := k23.trans k4
        by_cases h4 : validL l = true
        · rw [h4]
          have HG : Hid (R = if 1048576 ≤ b.num then (b, zAk, 8) else ({ b with num := b.num + 1, own := some ((p1, p2, p3, p4), l) }, ⟨b.num + 1, (p1, p2, p3, p4), m⟩, 0)) := hid (by rw [HRE.out, if_neg (by simp [h1, h2.out, h3, h4])])
          have HV := hid (And.intro h1 h4)
          clear HRE
          have B1w := B1c.kp k24 hl1
          have y2 := B1w.cell (j := 2) rfl
          by_cases hb : b.num = 1048576
          · have eb : (b.num == 1048576) = true := by rw [hb]; rfl
            have HF : Hid (R = (b, zAk, 8)) := hid (by rw [HG.out, if_pos (by omega)])
            clear HG B1w
            have hnb := hid hnum
            clear hnum
            go_upto_region 4 with (fail)
            have B1w := B1c.kp k24 hl1
            have B2w := B2c.kp k24 hl2
            have B3w := B3.kp k24 hl3
            have k0w := k03.trans k24
            obtain ⟨L, hL⟩ : ∃ L : List Value, Hid (L = (refL b (.slice A (lstO b.own).length c) (.slice A' b.n.toNat c'))) := ⟨_, hid rfl⟩
            rw [← hL.out] at B1w
            have rL := B1w.range
            have lL : L.length = 10 := by rw [hL.out]; rfl
            have iL : (Try.prog.info? 58).map (·.size) = some L.length := by rw [lL]; kernel_rfl
            have oL : ∀ u ∈ L, u.oneCell' = true := by rw [hL.out]; simp [Value.oneCell']
            have tL : (w4).there tB 0 L.toArray.size := by simpa [lL] using B2w.thereAt 0 10 (by simp)
            have iL2 : (Try.prog.info? 58).map (·.size) = some L.toArray.size := by simpa using iL
            have E1 := B2w.all (cs := L) (by rw [lL]; rfl)
            have kS1 : Fx (fun q => q = tB) w4 ((w4).setCells tB 0 L) := (Kg.setCells (.inl rfl) _ 0 (Kg.refl w4 tB)).fx (.inl rfl)
            have C1 := B3w.fx kS1 (B3w.lt (by simp)) (fun e => by omega)
            have k1w : Kp w ((w4).setCells tB 0 L) := Kp.setCells (by omega) _ 0 _ k0w
            go_wp2_with (first | (refine wpList_load_mid rfl 58 (.tmp 4) rfl x0 0 rfl L _ rL Try.underlying58 rfl iL ?_) | (refine wpList_store_mid rfl 58 (.tmp 8) (.tmp 36) rfl tB 0 L.toArray rfl rfl tL iL2 (all_oneCell_toArray oL) ?_; rw [List.toList_toArray]; generalize (w4).setCells tB 0 L = w1 at *; have z0 := C1.cell (j := 0) rfl; have z1' := C1.cell (j := 1) rfl; have z2' := C1.cell (j := 2) rfl; have z3 := C1.cell (j := 3) rfl; have z4 := C1.cell (j := 4) rfl; have z5 := C1.cell (j := 5) rfl; have r0 := C1.free (j := 0) (by simp); have r1 := C1.free (j := 1) (by simp); have r2 := C1.free (j := 2) (by simp); have r3 := C1.free (j := 3) (by simp); have r4 := C1.free (j := 4) (by simp); have r5 := C1.free (j := 5) (by simp); have hc1 := C1.lt (by simp)) | fail)
            try simp only [Exit.inBlock, Exit.then]
            have E2 := C1.all (cs := [.int .i64 0, .int .i64 0, .int .i64 0, .int .i64 0, .int .i64 0, .slice none 0 0]) rfl
            have kS2 : Fx (fun q => q = tC) w1 (w1.setCells tC 0 [.int .i64 0, .int .i64 0, .int .i64 0, .int .i64 0, .int .i64 0, .slice none 0 0]) := (Kg.setCells (.inl rfl) _ 0 (Kg.refl w1 tC)).fx (.inl rfl)
            have E3 := E1.fx kS2 (E1.lt (by omega)) (fun e => by omega)
            have kE : Kp w (w1.setCells tC 0 [.int .i64 0, .int .i64 0, .int .i64 0, .int .i64 0, .int .i64 0, .slice none 0 0]) := Kp.setCells (by omega) _ 0 _ k1w
            change bodyPost _ _ _ _ _ (w1.setCells tC 0 [.int .i64 0, .int .i64 0, .int .i64 0, .int .i64 0, .int .i64 0, .slice none 0 0])
            refine bodyPost_ret (results_cell2_tmp rfl _ _ tB tC L [.int .i64 0, .int .i64 0, .int .i64 0, .int .i64 0, .int .i64 0, .slice none 0 0] _ _ rfl rfl E3.range E2.range Try.underlying58 rfl iL Try.underlying29 rfl (by kernel_rfl)) rfl ?_
            rw [HF.out]
            exact ⟨kE, .slice A (lstO b.own).length c, .slice none 0 0, by rw [hL.out]; rfl, fun w2 _ => Sl.nil _ _ _, hR.kp kE⟩
          · have eb : (b.num == 1048576) = false := by simpa using hb
            have HF : Hid (R = ({ b with num := b.num + 1, own := some ((p1, p2, p3, p4), l) }, ⟨b.num + 1, (p1, p2, p3, p4), m⟩, 0)) := hid (by rw [HG.out, if_neg (by omega)])
            have hnb : 0 ≤ b.num ∧ b.num + 1 ≤ 1048576 := by omega
            have hlenl := ((validL_iff l).1 h4).2.2
            have hlenm := ((validL_iff m).1 h3).2.2
            have B2w := B2c.kp k24 hl2
            have BPw := BPc.kp k24 hlp
            have B3w := B3.kp k24 hl3
            have k0w := k03.trans k24
            have hlz : wc.heap.size ≤ w4.heap.size := k24.size
            have hr1 := hid (show ([] : List Nd).length + l.length ≤ 4611686018427387904 by simp only [List.length_nil]; omega)
            have hr2 := hid (show (([] : List Nd).length + l.length) * 32 ≤ 140737488355328 by simp only [List.length_nil]; omega)
            have k0W := hid (Kp.refl w4)
            replace h1 := hid h1
            replace h3 := hid h3
            replace h4 := hid h4
            clear HG hnum hb k2 k3 k4 k23 q0 q1 q2 q3 y1
            go_upto_region 5 with (fail)
            go_cut [38] from 38 to 48 (fun s38 wx => ∃ (W : World) (A6 : Option Addr) (n6 c6 : Nat), W = wx ∧ s38 = .pointer (some ⟨x0, 2, none⟩) ∧ Bx W x0 [.int .i64 b.n, .int .i64 b.i, .int .i64 (b.num + 1), .bool true, .int .i64 p1, .int .i64 p2, .int .i64 p3, .int .i64 p4, .slice A6 n6 c6, .slice A' b.n.toNat c'] ∧ Own encNd 41 4 w4.heap.size W (.slice A6 n6 c6) l ∧ Fx (fun q => q = x0) w4 W)
            case first =>
              have kd : Kp w4 w4.drew := (Kp.refl w4).drew
              have hS : ∀ W, Fx (fun q => q = x0) w4 W → W.cell? ⟨pb, 0, none⟩ = some (.int .i64 p1) ∧ W.cell? ⟨pb, 1, none⟩ = some (.int .i64 p2) ∧ W.cell? ⟨pb, 2, none⟩ = some (.int .i64 p3) ∧ W.cell? ⟨pb, 3, none⟩ = some (.int .i64 p4) := fun W h => by
                have B := BPw.fx h (BPw.lt (by simp)) (fun e => by omega)
                exact ⟨B.cell (j := 0) rfl, B.cell (j := 1) rfl, B.cell (j := 2) rfl, B.cell (j := 3) rfl⟩
              replace hS := hid hS
              refine wp_region_held_drew (S := fun W => W.cell? ⟨pb, 0, none⟩ = some (.int .i64 p1) ∧ W.cell? ⟨pb, 1, none⟩ = some (.int .i64 p2) ∧ W.cell? ⟨pb, 2, none⟩ = some (.int .i64 p3) ∧ W.cell? ⟨pb, 3, none⟩ = some (.int .i64 p4)) (by kernel_rfl) (hS.out _ (kd.fx _)) (fun hHeld => ?_)
              refine take_at 0 38 (v := ?_) rfl rfl (by kernel_rfl) (by kernel_rfl) (by kernel_rfl) (fun _ _ _ h => h) hHeld (Or.inl ⟨by kernel_rfl, ?_⟩) ?_
              rotate_left
              · intro w hSw; (try dsimp only at hSw); go_simp; try with_reducible rfl
              simp only [Act.put, List.setIfInBounds_toArray, List.set_cons_zero, List.set_cons_succ]
              refine take_at 3 41 (v := ?_) rfl rfl (by kernel_rfl) (by kernel_rfl) (by kernel_rfl) (fun _ _ _ h => h) hHeld (Or.inl ⟨by kernel_rfl, ?_⟩) ?_
              rotate_left
              · intro w hSw; (try dsimp only at hSw); go_simp; try with_reducible rfl
              simp only [Act.put, List.setIfInBounds_toArray, List.set_cons_zero, List.set_cons_succ]
              refine take_at 5 43 (v := ?_) rfl rfl (by kernel_rfl) (by kernel_rfl) (by kernel_rfl) (fun _ _ _ h => h) hHeld (Or.inl ⟨by kernel_rfl, ?_⟩) ?_
              rotate_left
              · intro w hSw; (try dsimp only at hSw); go_simp; try with_reducible rfl
              simp only [Act.put, List.setIfInBounds_toArray, List.set_cons_zero, List.set_cons_succ]
              have B1d := B1w.kp kd (B1w.lt (by simp))
              generalize w4.drew = wd at *
              have y2 := B1d.cell (j := 2) rfl
              refine wpAnyH_ready (rs := [1, 4]) (by kernel_rfl) (by simp) ?_
              refine AllReadyH.cons (o := _) rfl (fun K hK => ?_) (AllReadyH.cons (o := _) rfl (fun K hK => ?_) AllReadyH.nil)
              · go_simp
                refine hK.out _ _ ((hS.out _ (kd.fx _))) (fun hHeld2 => ?_)
                clear hK K hHeld
                have hHeld := hHeld2
                clear hHeld2
                try simp only [Act.put, List.setIfInBounds_toArray, List.set_cons_zero, List.set_cons_succ]
                refine take_at 2 40 (v := .int .i64 (b.num + 1)) rfl rfl (by kernel_rfl) (by kernel_rfl) (by kernel_rfl) (fun _ _ _ h => h) hHeld (Or.inl ⟨by kernel_rfl, ?_⟩) ?_
                · intro w hSw; (try dsimp only at hSw); go_simp; rw [IntWalk.i64_in _ (by omega)]
                simp only [Act.put, List.setIfInBounds_toArray, List.set_cons_zero, List.set_cons_succ]
                refine take_at 7 45 (v := ?_) rfl rfl (by kernel_rfl) (by kernel_rfl) (by kernel_rfl) (fun _ _ _ h => h) hHeld (Or.inl ⟨by kernel_rfl, ?_⟩) ?_
                rotate_left
                · intro w hSw; (try dsimp only at hSw); go_simp; try with_reducible rfl
                simp only [Act.put, List.setIfInBounds_toArray, List.set_cons_zero, List.set_cons_succ]
                have kA := kd.alloc (.cells #[] 41)
                have ownE := Own.lit (base := w4.heap.size) (e := 41) (size := 4) encNd wd #[] [] kd.size (by simp) rfl rfl
                have B1e := B1d.kp ((Kp.refl wd).alloc (.cells #[] 41)) (B1d.lt (by simp))
                refine wpAnyH_ready (rs := [4]) (by kernel_rfl) (by simp) ?_
                refine AllReadyH.cons (o := _) rfl (fun K hK => ?_) AllReadyH.nil
                go_simp
                refine hK.out _ _ ((hS.out _ (kA.fx _))) (fun hHeld2 => ?_)
                clear hK K hHeld
                have hHeld := hHeld2
                clear hHeld2
                try simp only [Act.put, List.setIfInBounds_toArray, List.set_cons_zero, List.set_cons_succ]
                refine wpAnyH_ready (rs := [6]) (by kernel_rfl) (by simp) ?_
                refine AllReadyH.cons (o := _) rfl (fun K hK => ?_) AllReadyH.nil
                refine wp_append_flat (.tmp 42) (.tmp 43) rfl slnd encNd_len encNd_one rfl ownE rfl (HL.out.keep (pl_stable _) (k0w.trans kA)) hr1.out hr2.out (kA).size ?_
                intro v6 w6 own6 hg6 hat6
                have k6 : Kp w4 w6 := (kA).grown hg6 (fun q hq => (ownE).ge q hq)
                obtain ⟨A6, n6, c6, rfl⟩ := own6.isSl
                rw [List.nil_append] at own6
                refine hK.out _ _ ((hS.out _ (k6.fx _))) (fun hHeld2 => ?_)
                clear hK K hHeld
                have hHeld := hHeld2
                clear hHeld2
                try simp only [Act.put, List.setIfInBounds_toArray, List.set_cons_zero, List.set_cons_succ]
                have B1f := B1w.kp k6 (B1w.lt (by simp))
                have fx0 := (k6).fx (fun q => q = x0)
                have fx := Fx.refl (fun q => q = x0) w6
                have ownF := own6.owF (X := fun q => q = x0) (fun q hq => by have h1 := B1w.lt (by simp); have hq : q = x0 := hq; omega)
                have T2 := (B1f).cell (j := 2) rfl
                have F2 := (B1f).free (j := 2) (by simp)
                refine wpAnyH_ready (rs := [8]) (by kernel_rfl) (by simp) ?_
                refine AllReadyH.cons (o := _) rfl (fun K hK => ?_) AllReadyH.nil
                go_simp
                have S2 := (B1f).set (j := 2) (by simp) ((.int .i64 (b.num + 1)))
                have fx2 := (fx).set1 ⟨x0, 2, none⟩ ((.int .i64 (b.num + 1))) (.inl rfl)
                refine hK.out _ _ ((hS.out _ (fx0.trans fx2))) (fun hHeld2 => ?_)
                clear hK K hHeld
                have hHeld := hHeld2
                clear hHeld2
                try simp only [Act.put, List.setIfInBounds_toArray, List.set_cons_zero, List.set_cons_succ]
                simp only [List.set_cons_zero, List.set_cons_succ] at S2
                generalize (w6).setCell ⟨x0, 2, none⟩ ((.int .i64 (b.num + 1))) = wu at *
                refine take_at 9 46 (v := ?_) rfl rfl (by kernel_rfl) (by kernel_rfl) (by kernel_rfl) (fun _ _ _ h => h) hHeld (Or.inl ⟨by kernel_rfl, ?_⟩) ?_
                rotate_left
                · intro w hSw; (try dsimp only at hSw); go_simp; try with_reducible rfl
                simp only [Act.put, List.setIfInBounds_toArray, List.set_cons_zero, List.set_cons_succ]
                have T2 := (S2).cell (j := 3) rfl
                have F2 := (S2).free (j := 3) (by simp)
                refine wpAnyH_ready (rs := [10]) (by kernel_rfl) (by simp) ?_
                refine AllReadyH.cons (o := _) rfl (fun K hK => ?_) AllReadyH.nil
                go_simp
                have S2 := (S2).set (j := 3) (by simp) ((.bool true))
                have fx2 := (fx2).set1 ⟨x0, 3, none⟩ ((.bool true)) (.inl rfl)
                refine hK.out _ _ ((hS.out _ (fx0.trans fx2))) (fun hHeld2 => ?_)
                clear hK K hHeld
                have hHeld := hHeld2
                clear hHeld2
                try simp only [Act.put, List.setIfInBounds_toArray, List.set_cons_zero, List.set_cons_succ]
                simp only [List.set_cons_zero, List.set_cons_succ] at S2
                generalize (wu).setCell ⟨x0, 3, none⟩ ((.bool true)) = wv at *
                refine take_at 11 47 (v := ?_) rfl rfl (by kernel_rfl) (by kernel_rfl) (by kernel_rfl) (fun _ _ _ h => h) hHeld (Or.inl ⟨by kernel_rfl, ?_⟩) ?_
                rotate_left
                · intro w hSw; (try dsimp only at hSw); go_simp; try with_reducible rfl
                simp only [Act.put, List.setIfInBounds_toArray, List.set_cons_zero, List.set_cons_succ]
                have T4 := S2.cell (j := 4) rfl
                have T5 := S2.cell (j := 5) rfl
                have T6 := S2.cell (j := 6) rfl
                have T7 := S2.cell (j := 7) rfl
                have F4 := S2.free (j := 4) (by simp)
                have F5 := S2.free (j := 5) (by simp)
                have F6 := S2.free (j := 6) (by simp)
                have F7 := S2.free (j := 7) (by simp)
                refine wpAnyH_ready (rs := [12]) (by kernel_rfl) (by simp) ?_
                refine AllReadyH.cons (o := _) rfl (fun K hK => ?_) AllReadyH.nil
                go_simp
                have S4 := S2.set (j := 4) (by simp) (.int .i64 p1)
                have S5 := S4.set (j := 5) (by simp) (.int .i64 p2)
                have S6 := S5.set (j := 6) (by simp) (.int .i64 p3)
                have S7 := S6.set (j := 7) (by simp) (.int .i64 p4)
                have fx7 := (((fx2.set1 ⟨x0, 4, none⟩ (.int .i64 p1) (.inl rfl)).set1 ⟨x0, 5, none⟩ (.int .i64 p2) (.inl rfl)).set1 ⟨x0, 6, none⟩ (.int .i64 p3) (.inl rfl)).set1 ⟨x0, 7, none⟩ (.int .i64 p4) (.inl rfl)
                refine hK.out _ _ ((hS.out _ (fx0.trans fx7))) (fun hHeld2 => ?_)
                clear hK K hHeld
                have hHeld := hHeld2
                clear hHeld2
                try simp only [Act.put, List.setIfInBounds_toArray, List.set_cons_zero, List.set_cons_succ]
                simp only [List.set_cons_zero, List.set_cons_succ] at S7
                generalize (((wv.setCell ⟨x0, 4, none⟩ (.int .i64 p1)).setCell ⟨x0, 5, none⟩ (.int .i64 p2)).setCell ⟨x0, 6, none⟩ (.int .i64 p3)).setCell ⟨x0, 7, none⟩ (.int .i64 p4) = wx at *
                refine take_at 13 48 (v := ?_) rfl rfl (by kernel_rfl) (by kernel_rfl) (by kernel_rfl) (fun _ _ _ h => h) hHeld (Or.inl ⟨by kernel_rfl, ?_⟩) ?_
                rotate_left
                · intro w hSw; (try dsimp only at hSw); go_simp; try with_reducible rfl
                simp only [Act.put, List.setIfInBounds_toArray, List.set_cons_zero, List.set_cons_succ]
                have T2 := (S7).cell (j := 8) rfl
                have F2 := (S7).free (j := 8) (by simp)
                refine wpAnyH_ready (rs := [14]) (by kernel_rfl) (by simp) ?_
                refine AllReadyH.cons (o := _) rfl (fun K hK => ?_) AllReadyH.nil
                go_simp
                have S2 := (S7).set (j := 8) (by simp) ((.slice A6 n6 c6))
                have fx2 := (fx7).set1 ⟨x0, 8, none⟩ ((.slice A6 n6 c6)) (.inl rfl)
                refine hK.out _ _ ((hS.out _ (fx0.trans fx2))) (fun hHeld2 => ?_)
                clear hK K hHeld
                have hHeld := hHeld2
                clear hHeld2
                try simp only [Act.put, List.setIfInBounds_toArray, List.set_cons_zero, List.set_cons_succ]
                simp only [List.set_cons_zero, List.set_cons_succ] at S2
                generalize (wx).setCell ⟨x0, 8, none⟩ ((.slice A6 n6 c6)) = wy at *
                refine wpAnyH_done (by kernel_rfl) ?_ _
                go_wp2
                go_meet
                case rel => exact ⟨wy, A6, n6, c6, rfl, rfl, S2, ownF wy fx2, fx0.trans fx2⟩
              · go_simp
                have kA := kd.alloc (.cells #[] 41)
                have ownE := Own.lit (base := w4.heap.size) (e := 41) (size := 4) encNd wd #[] [] kd.size (by simp) rfl rfl
                have B1e := B1d.kp ((Kp.refl wd).alloc (.cells #[] 41)) (B1d.lt (by simp))
                refine hK.out _ _ ((hS.out _ (kA.fx _))) (fun hHeld2 => ?_)
                clear hK K hHeld
                have hHeld := hHeld2
                clear hHeld2
                try simp only [Act.put, List.setIfInBounds_toArray, List.set_cons_zero, List.set_cons_succ]
                have y2 := B1e.cell (j := 2) rfl
                generalize wd.heap.size = eb at *
                generalize wd.alloc (.cells #[] 41) = we at *
                refine wpAnyH_ready (rs := [1, 6]) (by kernel_rfl) (by simp) ?_
                refine AllReadyH.cons (o := _) rfl (fun K hK => ?_) (AllReadyH.cons (o := _) rfl (fun K hK => ?_) AllReadyH.nil)
                · go_simp
                  refine hK.out _ _ ((hS.out _ (kA.fx _))) (fun hHeld2 => ?_)
                  clear hK K hHeld
                  have hHeld := hHeld2
                  clear hHeld2
                  try simp only [Act.put, List.setIfInBounds_toArray, List.set_cons_zero, List.set_cons_succ]
                  refine take_at 2 40 (v := .int .i64 (b.num + 1)) rfl rfl (by kernel_rfl) (by kernel_rfl) (by kernel_rfl) (fun _ _ _ h => h) hHeld (Or.inl ⟨by kernel_rfl, ?_⟩) ?_
                  · intro w hSw; (try dsimp only at hSw); go_simp; rw [IntWalk.i64_in _ (by omega)]
                  simp only [Act.put, List.setIfInBounds_toArray, List.set_cons_zero, List.set_cons_succ]
                  refine take_at 7 45 (v := ?_) rfl rfl (by kernel_rfl) (by kernel_rfl) (by kernel_rfl) (fun _ _ _ h => h) hHeld (Or.inl ⟨by kernel_rfl, ?_⟩) ?_
                  rotate_left
                  · intro w hSw; (try dsimp only at hSw); go_simp; try with_reducible rfl
                  simp only [Act.put, List.setIfInBounds_toArray, List.set_cons_zero, List.set_cons_succ]
                  refine wpAnyH_ready (rs := [6]) (by kernel_rfl) (by simp) ?_
                  refine AllReadyH.cons (o := _) rfl (fun K hK => ?_) AllReadyH.nil
                  refine wp_append_flat (.tmp 42) (.tmp 43) rfl slnd encNd_len encNd_one rfl ownE rfl (HL.out.keep (pl_stable _) (k0w.trans kA)) hr1.out hr2.out (kA).size ?_
                  intro v6 w6 own6 hg6 hat6
                  have k6 : Kp w4 w6 := (kA).grown hg6 (fun q hq => (ownE).ge q hq)
                  obtain ⟨A6, n6, c6, rfl⟩ := own6.isSl
                  rw [List.nil_append] at own6
                  refine hK.out _ _ ((hS.out _ (k6.fx _))) (fun hHeld2 => ?_)
                  clear hK K hHeld
                  have hHeld := hHeld2
                  clear hHeld2
                  try simp only [Act.put, List.setIfInBounds_toArray, List.set_cons_zero, List.set_cons_succ]
                  have B1f := B1w.kp k6 (B1w.lt (by simp))
                  have fx0 := (k6).fx (fun q => q = x0)
                  have fx := Fx.refl (fun q => q = x0) w6
                  have ownF := own6.owF (X := fun q => q = x0) (fun q hq => by have h1 := B1w.lt (by simp); have hq : q = x0 := hq; omega)
                  have T2 := (B1f).cell (j := 2) rfl
                  have F2 := (B1f).free (j := 2) (by simp)
                  refine wpAnyH_ready (rs := [8]) (by kernel_rfl) (by simp) ?_
                  refine AllReadyH.cons (o := _) rfl (fun K hK => ?_) AllReadyH.nil
                  go_simp
                  have S2 := (B1f).set (j := 2) (by simp) ((.int .i64 (b.num + 1)))
                  have fx2 := (fx).set1 ⟨x0, 2, none⟩ ((.int .i64 (b.num + 1))) (.inl rfl)
                  refine hK.out _ _ ((hS.out _ (fx0.trans fx2))) (fun hHeld2 => ?_)
                  clear hK K hHeld
                  have hHeld := hHeld2
                  clear hHeld2
                  try simp only [Act.put, List.setIfInBounds_toArray, List.set_cons_zero, List.set_cons_succ]
                  simp only [List.set_cons_zero, List.set_cons_succ] at S2
                  generalize (w6).setCell ⟨x0, 2, none⟩ ((.int .i64 (b.num + 1))) = wu at *
                  refine take_at 9 46 (v := ?_) rfl rfl (by kernel_rfl) (by kernel_rfl) (by kernel_rfl) (fun _ _ _ h => h) hHeld (Or.inl ⟨by kernel_rfl, ?_⟩) ?_
                  rotate_left
                  · intro w hSw; (try dsimp only at hSw); go_simp; try with_reducible rfl
                  simp only [Act.put, List.setIfInBounds_toArray, List.set_cons_zero, List.set_cons_succ]
                  have T2 := (S2).cell (j := 3) rfl
                  have F2 := (S2).free (j := 3) (by simp)
                  refine wpAnyH_ready (rs := [10]) (by kernel_rfl) (by simp) ?_
                  refine AllReadyH.cons (o := _) rfl (fun K hK => ?_) AllReadyH.nil
                  go_simp
                  have S2 := (S2).set (j := 3) (by simp) ((.bool true))
                  have fx2 := (fx2).set1 ⟨x0, 3, none⟩ ((.bool true)) (.inl rfl)
                  refine hK.out _ _ ((hS.out _ (fx0.trans fx2))) (fun hHeld2 => ?_)
                  clear hK K hHeld
                  have hHeld := hHeld2
                  clear hHeld2
                  try simp only [Act.put, List.setIfInBounds_toArray, List.set_cons_zero, List.set_cons_succ]
                  simp only [List.set_cons_zero, List.set_cons_succ] at S2
                  generalize (wu).setCell ⟨x0, 3, none⟩ ((.bool true)) = wv at *
                  refine take_at 11 47 (v := ?_) rfl rfl (by kernel_rfl) (by kernel_rfl) (by kernel_rfl) (fun _ _ _ h => h) hHeld (Or.inl ⟨by kernel_rfl, ?_⟩) ?_
                  rotate_left
                  · intro w hSw; (try dsimp only at hSw); go_simp; try with_reducible rfl
                  simp only [Act.put, List.setIfInBounds_toArray, List.set_cons_zero, List.set_cons_succ]
                  have T4 := S2.cell (j := 4) rfl
                  have T5 := S2.cell (j := 5) rfl
                  have T6 := S2.cell (j := 6) rfl
                  have T7 := S2.cell (j := 7) rfl
                  have F4 := S2.free (j := 4) (by simp)
                  have F5 := S2.free (j := 5) (by simp)
                  have F6 := S2.free (j := 6) (by simp)
                  have F7 := S2.free (j := 7) (by simp)
                  refine wpAnyH_ready (rs := [12]) (by kernel_rfl) (by simp) ?_
                  refine AllReadyH.cons (o := _) rfl (fun K hK => ?_) AllReadyH.nil
                  go_simp
                  have S4 := S2.set (j := 4) (by simp) (.int .i64 p1)
                  have S5 := S4.set (j := 5) (by simp) (.int .i64 p2)
                  have S6 := S5.set (j := 6) (by simp) (.int .i64 p3)
                  have S7 := S6.set (j := 7) (by simp) (.int .i64 p4)
                  have fx7 := (((fx2.set1 ⟨x0, 4, none⟩ (.int .i64 p1) (.inl rfl)).set1 ⟨x0, 5, none⟩ (.int .i64 p2) (.inl rfl)).set1 ⟨x0, 6, none⟩ (.int .i64 p3) (.inl rfl)).set1 ⟨x0, 7, none⟩ (.int .i64 p4) (.inl rfl)
                  refine hK.out _ _ ((hS.out _ (fx0.trans fx7))) (fun hHeld2 => ?_)
                  clear hK K hHeld
                  have hHeld := hHeld2
                  clear hHeld2
                  try simp only [Act.put, List.setIfInBounds_toArray, List.set_cons_zero, List.set_cons_succ]
                  simp only [List.set_cons_zero, List.set_cons_succ] at S7
                  generalize (((wv.setCell ⟨x0, 4, none⟩ (.int .i64 p1)).setCell ⟨x0, 5, none⟩ (.int .i64 p2)).setCell ⟨x0, 6, none⟩ (.int .i64 p3)).setCell ⟨x0, 7, none⟩ (.int .i64 p4) = wx at *
                  refine take_at 13 48 (v := ?_) rfl rfl (by kernel_rfl) (by kernel_rfl) (by kernel_rfl) (fun _ _ _ h => h) hHeld (Or.inl ⟨by kernel_rfl, ?_⟩) ?_
                  rotate_left
                  · intro w hSw; (try dsimp only at hSw); go_simp; try with_reducible rfl
                  simp only [Act.put, List.setIfInBounds_toArray, List.set_cons_zero, List.set_cons_succ]
                  have T2 := (S7).cell (j := 8) rfl
                  have F2 := (S7).free (j := 8) (by simp)
                  refine wpAnyH_ready (rs := [14]) (by kernel_rfl) (by simp) ?_
                  refine AllReadyH.cons (o := _) rfl (fun K hK => ?_) AllReadyH.nil
                  go_simp
                  have S2 := (S7).set (j := 8) (by simp) ((.slice A6 n6 c6))
                  have fx2 := (fx7).set1 ⟨x0, 8, none⟩ ((.slice A6 n6 c6)) (.inl rfl)
                  refine hK.out _ _ ((hS.out _ (fx0.trans fx2))) (fun hHeld2 => ?_)
                  clear hK K hHeld
                  have hHeld := hHeld2
                  clear hHeld2
                  try simp only [Act.put, List.setIfInBounds_toArray, List.set_cons_zero, List.set_cons_succ]
                  simp only [List.set_cons_zero, List.set_cons_succ] at S2
                  generalize (wx).setCell ⟨x0, 8, none⟩ ((.slice A6 n6 c6)) = wy at *
                  refine wpAnyH_done (by kernel_rfl) ?_ _
                  go_wp2
                  go_meet
                  case rel => exact ⟨wy, A6, n6, c6, rfl, rfl, S2, ownF wy fx2, fx0.trans fx2⟩
                · refine wp_append_flat (.tmp 42) (.tmp 43) rfl slnd encNd_len encNd_one rfl ownE rfl (HL.out.keep (pl_stable _) (k0w.trans kA)) hr1.out hr2.out (kA).size ?_
                  intro v6 w6 own6 hg6 hat6
                  have k6 : Kp w4 w6 := (kA).grown hg6 (fun q hq => (ownE).ge q hq)
                  obtain ⟨A6, n6, c6, rfl⟩ := own6.isSl
                  rw [List.nil_append] at own6
                  refine hK.out _ _ ((hS.out _ (k6.fx _))) (fun hHeld2 => ?_)
                  clear hK K hHeld
                  have hHeld := hHeld2
                  clear hHeld2
                  try simp only [Act.put, List.setIfInBounds_toArray, List.set_cons_zero, List.set_cons_succ]
                  have B1f := B1w.kp k6 (B1w.lt (by simp))
                  have y2 := B1f.cell (j := 2) rfl
                  refine wpAnyH_ready (rs := [1]) (by kernel_rfl) (by simp) ?_
                  refine AllReadyH.cons (o := _) rfl (fun K hK => ?_) AllReadyH.nil
                  go_simp
                  refine hK.out _ _ ((hS.out _ (k6.fx _))) (fun hHeld2 => ?_)
                  clear hK K hHeld
                  have hHeld := hHeld2
                  clear hHeld2
                  try simp only [Act.put, List.setIfInBounds_toArray, List.set_cons_zero, List.set_cons_succ]
                  refine take_at 2 40 (v := .int .i64 (b.num + 1)) rfl rfl (by kernel_rfl) (by kernel_rfl) (by kernel_rfl) (fun _ _ _ h => h) hHeld (Or.inl ⟨by kernel_rfl, ?_⟩) ?_
                  · intro w hSw; (try dsimp only at hSw); go_simp; rw [IntWalk.i64_in _ (by omega)]
                  simp only [Act.put, List.setIfInBounds_toArray, List.set_cons_zero, List.set_cons_succ]
                  refine take_at 7 45 (v := ?_) rfl rfl (by kernel_rfl) (by kernel_rfl) (by kernel_rfl) (fun _ _ _ h => h) hHeld (Or.inl ⟨by kernel_rfl, ?_⟩) ?_
                  rotate_left
                  · intro w hSw; (try dsimp only at hSw); go_simp; try with_reducible rfl
                  simp only [Act.put, List.setIfInBounds_toArray, List.set_cons_zero, List.set_cons_succ]
                  have fx0 := (k6).fx (fun q => q = x0)
                  have fx := Fx.refl (fun q => q = x0) w6
                  have ownF := own6.owF (X := fun q => q = x0) (fun q hq => by have h1 := B1w.lt (by simp); have hq : q = x0 := hq; omega)
                  have T2 := (B1f).cell (j := 2) rfl
                  have F2 := (B1f).free (j := 2) (by simp)
                  refine wpAnyH_ready (rs := [8]) (by kernel_rfl) (by simp) ?_
                  refine AllReadyH.cons (o := _) rfl (fun K hK => ?_) AllReadyH.nil
                  go_simp
                  have S2 := (B1f).set (j := 2) (by simp) ((.int .i64 (b.num + 1)))
                  have fx2 := (fx).set1 ⟨x0, 2, none⟩ ((.int .i64 (b.num + 1))) (.inl rfl)
                  refine hK.out _ _ ((hS.out _ (fx0.trans fx2))) (fun hHeld2 => ?_)
                  clear hK K hHeld
                  have hHeld := hHeld2
                  clear hHeld2
                  try simp only [Act.put, List.setIfInBounds_toArray, List.set_cons_zero, List.set_cons_succ]
                  simp only [List.set_cons_zero, List.set_cons_succ] at S2
                  generalize (w6).setCell ⟨x0, 2, none⟩ ((.int .i64 (b.num + 1))) = wu at *
                  refine take_at 9 46 (v := ?_) rfl rfl (by kernel_rfl) (by kernel_rfl) (by kernel_rfl) (fun _ _ _ h => h) hHeld (Or.inl ⟨by kernel_rfl, ?_⟩) ?_
                  rotate_left
                  · intro w hSw; (try dsimp only at hSw); go_simp; try with_reducible rfl
                  simp only [Act.put, List.setIfInBounds_toArray, List.set_cons_zero, List.set_cons_succ]
                  have T2 := (S2).cell (j := 3) rfl
                  have F2 := (S2).free (j := 3) (by simp)
                  refine wpAnyH_ready (rs := [10]) (by kernel_rfl) (by simp) ?_
                  refine AllReadyH.cons (o := _) rfl (fun K hK => ?_) AllReadyH.nil
                  go_simp
                  have S2 := (S2).set (j := 3) (by simp) ((.bool true))
                  have fx2 := (fx2).set1 ⟨x0, 3, none⟩ ((.bool true)) (.inl rfl)
                  refine hK.out _ _ ((hS.out _ (fx0.trans fx2))) (fun hHeld2 => ?_)
                  clear hK K hHeld
                  have hHeld := hHeld2
                  clear hHeld2
                  try simp only [Act.put, List.setIfInBounds_toArray, List.set_cons_zero, List.set_cons_succ]
                  simp only [List.set_cons_zero, List.set_cons_succ] at S2
                  generalize (wu).setCell ⟨x0, 3, none⟩ ((.bool true)) = wv at *
                  refine take_at 11 47 (v := ?_) rfl rfl (by kernel_rfl) (by kernel_rfl) (by kernel_rfl) (fun _ _ _ h => h) hHeld (Or.inl ⟨by kernel_rfl, ?_⟩) ?_
                  rotate_left
                  · intro w hSw; (try dsimp only at hSw); go_simp; try with_reducible rfl
                  simp only [Act.put, List.setIfInBounds_toArray, List.set_cons_zero, List.set_cons_succ]
                  have T4 := S2.cell (j := 4) rfl
                  have T5 := S2.cell (j := 5) rfl
                  have T6 := S2.cell (j := 6) rfl
                  have T7 := S2.cell (j := 7) rfl
                  have F4 := S2.free (j := 4) (by simp)
                  have F5 := S2.free (j := 5) (by simp)
                  have F6 := S2.free (j := 6) (by simp)
                  have F7 := S2.free (j := 7) (by simp)
                  refine wpAnyH_ready (rs := [12]) (by kernel_rfl) (by simp) ?_
                  refine AllReadyH.cons (o := _) rfl (fun K hK => ?_) AllReadyH.nil
                  go_simp
                  have S4 := S2.set (j := 4) (by simp) (.int .i64 p1)
                  have S5 := S4.set (j := 5) (by simp) (.int .i64 p2)
                  have S6 := S5.set (j := 6) (by simp) (.int .i64 p3)
                  have S7 := S6.set (j := 7) (by simp) (.int .i64 p4)
                  have fx7 := (((fx2.set1 ⟨x0, 4, none⟩ (.int .i64 p1) (.inl rfl)).set1 ⟨x0, 5, none⟩ (.int .i64 p2) (.inl rfl)).set1 ⟨x0, 6, none⟩ (.int .i64 p3) (.inl rfl)).set1 ⟨x0, 7, none⟩ (.int .i64 p4) (.inl rfl)
                  refine hK.out _ _ ((hS.out _ (fx0.trans fx7))) (fun hHeld2 => ?_)
                  clear hK K hHeld
                  have hHeld := hHeld2
                  clear hHeld2
                  try simp only [Act.put, List.setIfInBounds_toArray, List.set_cons_zero, List.set_cons_succ]
                  simp only [List.set_cons_zero, List.set_cons_succ] at S7
                  generalize (((wv.setCell ⟨x0, 4, none⟩ (.int .i64 p1)).setCell ⟨x0, 5, none⟩ (.int .i64 p2)).setCell ⟨x0, 6, none⟩ (.int .i64 p3)).setCell ⟨x0, 7, none⟩ (.int .i64 p4) = wx at *
                  refine take_at 13 48 (v := ?_) rfl rfl (by kernel_rfl) (by kernel_rfl) (by kernel_rfl) (fun _ _ _ h => h) hHeld (Or.inl ⟨by kernel_rfl, ?_⟩) ?_
                  rotate_left
                  · intro w hSw; (try dsimp only at hSw); go_simp; try with_reducible rfl
                  simp only [Act.put, List.setIfInBounds_toArray, List.set_cons_zero, List.set_cons_succ]
                  have T2 := (S7).cell (j := 8) rfl
                  have F2 := (S7).free (j := 8) (by simp)
                  refine wpAnyH_ready (rs := [14]) (by kernel_rfl) (by simp) ?_
                  refine AllReadyH.cons (o := _) rfl (fun K hK => ?_) AllReadyH.nil
                  go_simp
                  have S2 := (S7).set (j := 8) (by simp) ((.slice A6 n6 c6))
                  have fx2 := (fx7).set1 ⟨x0, 8, none⟩ ((.slice A6 n6 c6)) (.inl rfl)
                  refine hK.out _ _ ((hS.out _ (fx0.trans fx2))) (fun hHeld2 => ?_)
                  clear hK K hHeld
                  have hHeld := hHeld2
                  clear hHeld2
                  try simp only [Act.put, List.setIfInBounds_toArray, List.set_cons_zero, List.set_cons_succ]
                  simp only [List.set_cons_zero, List.set_cons_succ] at S2
                  generalize (wx).setCell ⟨x0, 8, none⟩ ((.slice A6 n6 c6)) = wy at *
                  refine wpAnyH_done (by kernel_rfl) ?_ _
                  go_wp2
                  go_meet
                  case rel => exact ⟨wy, A6, n6, c6, rfl, rfl, S2, ownF wy fx2, fx0.trans fx2⟩
            case rest =>
              obtain ⟨w5, A6, n6, c6, rfl, rfl, S9, own6, fx5⟩ := hcut
              have B2d := B2w.fx fx5 (B2w.lt (by simp)) (fun e => by omega)
              have BPd := BPw.fx fx5 (BPw.lt (by simp)) (fun e => by omega)
              have B3d := B3w.fx fx5 (B3w.lt (by simp)) (fun e => by omega)
              have k0d : Kp w w5 := ((k0w.fx _).trans fx5).kp (fun q hq e => by have e : q = x0 := e; omega)
              clear B2w BPw B3w B1w
              obtain ⟨L, hL⟩ : ∃ L : List Value, Hid (L = refL R.1 (.slice A6 n6 c6) (.slice A' b.n.toNat c')) := ⟨_, hid rfl⟩
              have hLS : L = [.int .i64 b.n, .int .i64 b.i, .int .i64 (b.num + 1), .bool true, .int .i64 p1, .int .i64 p2, .int .i64 p3, .int .i64 p4, .slice A6 n6 c6, .slice A' b.n.toNat c'] := by rw [hL.out, HF.out]; rfl
              have y2 := S9.cell (j := 2) rfl
              rw [← hLS] at S9
              have lL : L.length = 10 := by rw [hLS]; rfl
              have iL : (Try.prog.info? 58).map (·.size) = some L.length := by rw [lL]; kernel_rfl
              have oL : ∀ u ∈ L, u.oneCell' = true := by rw [hLS]; simp [Value.oneCell']
              have iL2 : (Try.prog.info? 58).map (·.size) = some L.toArray.size := by simpa using iL
              have hlx := S9.lt (by omega)
              have hlB := B2d.lt (by simp)
              replace hLS := hid hLS
              have hrk := hid (fun W (h : Fx (fun q => q = tB) w5 W) => (S9.fx h hlx (fun e => by omega)).range)
              have hkm := hid (fun W (h : Fx (fun q => q = tB) w5 W) => HM.out.keep (pl_stable _) (((k0d.fx _).trans h).kp (fun q hq e => by have e : q = tB := e; omega)))
              have hx02 : ¬ x0 = tB := by omega
              have hpb2 : ¬ pb = tB := by omega
              have hr3 := hid (show m.length ≤ 1000000000 by omega)
              have hr4 := hid (show m.length * 32 ≤ 140737488355328 by omega)
              have q0 := BPd.cell (j := 0) rfl
              have q1 := BPd.cell (j := 1) rfl
              have q2 := BPd.cell (j := 2) rfl
              have q3 := BPd.cell (j := 3) rfl
              have hoB : ∀ q : Nat, w5.heap.size ≤ q → ¬ q = tB := fun q hq e => by omega
              go_upto_region 6 with (fail)
              refine wp_region_growC 8 (fun q => q = tB) [] 9 57 [G2.eqv (.agg L.toArray), G2.eqv (.pointer (some ⟨x0, 2, none⟩)), G2.eqv (.int .i64 (b.num + 1)), G2.eqv (.agg #[.int .i64 p1, .int .i64 p2, .int .i64 p3, .int .i64 p4]), (emptyP w5.heap.size), G2.eqv (.slice Am m.length cm), (G2.retOwn encNd 41 4 w5.heap.size m), (askP (b.num + 1) p1 p2 p3 p4 w5.heap.size m), (fun _ W => Bx W tB L)] (by kernel_rfl) (by kernel_rfl) rfl (by omega) (by intro _ _ _ _ _ h; exact h) (stabC_cons (stabG_eq _) (stabC_cons (stabG_eq _) (stabC_cons (stabG_eq _) (stabC_cons (stabG_eq _) (stabC_cons (fun v W1 W2 ⟨g, e, h⟩ k => ⟨g, e, Own.fx h k (fun q hq e => hoB q (h.ge q hq) e)⟩) (stabC_cons (stabG_eq _) (stabC_cons (fun v W1 W2 h k => Own.fx h k (fun q hq e => hoB q (h.ge q hq) e)) (stabC_cons (fun v W1 W2 ⟨u, e, h⟩ k => ⟨u, e, Own.fx h k (fun q hq e => hoB q (h.ge q hq) e)⟩) (stabC_here (stabG_nil)))))))))) (fun v W1 W2 h k => h.keep (k.block (h.lt (by omega)))) ?_ ?_ ?_
              · intro i0 hi0
                have hi' : i0 = 0 ∨ i0 = 1 ∨ i0 = 2 ∨ i0 = 3 ∨ i0 = 4 ∨ i0 = 5 ∨ i0 = 6 ∨ i0 = 7 ∨ i0 = 8 := by omega
                rcases hi' with rfl | rfl | rfl | rfl | rfl | rfl | rfl | rfl | rfl
                · intro a w' hk hF hD K hK
                  have hk : Fx (fun q => q = tB) _ w' := hk
                  simp only [List.getElem?_toArray, List.getElem?_cons_zero, List.getElem?_cons_succ, Option.map_some, Option.getD_some]
                  have h4 : a.tmps[4]?.getD undef = .pointer (some ⟨x0, 0, none⟩) := hF 4 (by kernel_rfl)
                  clear hF hD
                  rw [if_pos (by simp [Region.wanted])]
                  refine wp_load_mid 58 (.tmp 4) rfl x0 0 ((eval_tmp _ _).trans h4) L _ (hrk.out _ hk) Try.underlying58 rfl iL ?_
                  exact hK.out _ _ (Kp.refl _) rfl
                · intro a w' hk hF hD K hK
                  have hk : Fx (fun q => q = tB) _ w' := hk
                  simp only [List.getElem?_toArray, List.getElem?_cons_zero, List.getElem?_cons_succ, Option.map_some, Option.getD_some]
                  have h4 : a.tmps[4]?.getD undef = .pointer (some ⟨x0, 0, none⟩) := hF 4 (by kernel_rfl)
                  clear hF hD
                  go_simp
                  exact hK.out _ _ (Kp.refl _) rfl
                · intro a w' hk hF hD K hK
                  have hk : Fx (fun q => q = tB) _ w' := hk
                  simp only [List.getElem?_toArray, List.getElem?_cons_zero, List.getElem?_cons_succ, Option.map_some, Option.getD_some]
                  have h50 : a.tmps[50]?.getD undef = .pointer (some ⟨x0, 2, none⟩) := hD 1 (by kernel_rfl)
                  clear hF hD
                  have z0 := hk.cellS y2 hx02
                  go_simp
                  exact hK.out _ _ (Kp.refl _) rfl
                · intro a w' hk hF hD K hK
                  have hk : Fx (fun q => q = tB) _ w' := hk
                  simp only [List.getElem?_toArray, List.getElem?_cons_zero, List.getElem?_cons_succ, Option.map_some, Option.getD_some]
                  have h5 : a.tmps[5]?.getD undef = .pointer (some ⟨pb, 0, none⟩) := hF 5 (by kernel_rfl)
                  clear hF hD
                  have z0 := hk.cellS q0 hpb2
                  have z1 := hk.cellS q1 hpb2
                  have z2 := hk.cellS q2 hpb2
                  have z3 := hk.cellS q3 hpb2
                  go_simp
                  exact hK.out _ _ (Kp.refl _) rfl
                · intro a w' hk hF hD K hK
                  have hk : Fx (fun q => q = tB) _ w' := hk
                  simp only [List.getElem?_toArray, List.getElem?_cons_zero, List.getElem?_cons_succ, Option.map_some, Option.getD_some]
                  clear hF hD
                  go_simp
                  exact hK.out _ _ ((Kp.refl _).alloc _) ⟨_, rfl, Own.lit (base := w5.heap.size) (e := 41) (size := 4) encNd w' #[] [] hk.size (by simp) rfl rfl⟩
                · intro a w' hk hF hD K hK
                  have hk : Fx (fun q => q = tB) _ w' := hk
                  simp only [List.getElem?_toArray, List.getElem?_cons_zero, List.getElem?_cons_succ, Option.map_some, Option.getD_some]
                  have h2 : a.tmps[2]?.getD undef = .slice Am m.length cm := hF 2 (by kernel_rfl)
                  clear hF hD
                  go_simp
                  exact hK.out _ _ (Kp.refl _) rfl
                · intro a w' hk hF hD K hK
                  have hk : Fx (fun q => q = tB) _ w' := hk
                  simp only [List.getElem?_toArray, List.getElem?_cons_zero, List.getElem?_cons_succ, Option.map_some, Option.getD_some]
                  have h53 : (emptyP w5.heap.size) (a.tmps[53]?.getD undef) w' := hD 4 (by kernel_rfl)
                  have h54 : a.tmps[54]?.getD undef = .slice Am m.length cm := hD 5 (by kernel_rfl)
                  clear hF hD
                  rw [if_pos (by simp [Region.wanted])]
                  obtain ⟨g53, e53, own53⟩ := h53
                  refine wp_append_zero (.tmp 53) (.tmp 54) rfl slnd encNd_len encNd_one ((eval_tmp _ _).trans e53) own53 ((eval_tmp _ _).trans h54) (hkm.out _ hk) hr3.out hr4.out hk.size ?_
                  intro v6 w6 own6' k6'
                  exact hK.out v6 w6 k6' own6'
                · intro a w' hk hF hD K hK
                  have hk : Fx (fun q => q = tB) _ w' := hk
                  simp only [List.getElem?_toArray, List.getElem?_cons_zero, List.getElem?_cons_succ, Option.map_some, Option.getD_some]
                  have h51 : a.tmps[51]?.getD undef = .int .i64 (b.num + 1) := hD 2 (by kernel_rfl)
                  have h52 : a.tmps[52]?.getD undef = .agg #[.int .i64 p1, .int .i64 p2, .int .i64 p3, .int .i64 p4] := hD 3 (by kernel_rfl)
                  have h55 : (G2.retOwn encNd 41 4 w5.heap.size m) (a.tmps[55]?.getD undef) w' := hD 6 (by kernel_rfl)
                  clear hF hD
                  obtain ⟨u, hu⟩ : ∃ u, a.tmps[55]?.getD undef = u := ⟨_, rfl⟩
                  rw [hu] at h55
                  obtain ⟨A5, c5, rfl, -, -⟩ := Own.form h55
                  go_simp
                  exact hK.out _ _ (Kp.refl _) ⟨_, rfl, h55⟩
                · intro a w' hk hF hD K hK
                  have hk : Kp _ w' := hk
                  simp only [List.getElem?_toArray, List.getElem?_cons_zero, List.getElem?_cons_succ, Option.map_some, Option.getD_some]
                  have h8 : a.tmps[8]?.getD undef = .pointer (some ⟨tB, 0, none⟩) := hF 8 (by kernel_rfl)
                  have h49 : a.tmps[49]?.getD undef = .agg L.toArray := hD 0 (by kernel_rfl)
                  clear hF hD
                  rw [if_pos (by simp [Region.wanted])]
                  have hBw := B2d.kp hk hlB
                  refine wp_store_mid 58 (.tmp 8) (.tmp 49) rfl tB 0 L.toArray ((eval_tmp _ _).trans h8) ((eval_tmp _ _).trans h49) (by simpa [lL] using hBw.thereAt 0 10 (by simp)) iL2 (all_oneCell_toArray oL) ?_
                  exact hK.out undef _ ((Kg.setCells (g := tB) (.inl rfl) L 0 (Kg.refl w' tB)).fx (.inl rfl)) (hBw.all (cs := L) (by rw [lL]; rfl))
              · exact fun i0 hi0 => by simp at hi0
              intro v w9 k9 hv
              have v7 : (askP (b.num + 1) p1 p2 p3 p4 w5.heap.size m) (v 7) w9 := hv 7 (by omega)
              have v8 : (fun _ W => Bx W tB L) (v 8) w9 := hv 8 (by omega)
              clear hv
              obtain ⟨u7, e7', own7⟩ := v7
              simp only [G2.growPut, G2.gSlot, List.getElem?_toArray, List.getElem?_cons_zero, List.getElem?_cons_succ, Option.bind_some, List.setIfInBounds_toArray, List.set_cons_zero, List.set_cons_succ, List.drop_succ_cons, List.drop_zero, e7']
              obtain ⟨A7, c7, rfl, -, -⟩ := own7.form
              have C9 := B3d.fx k9 (B3d.lt (by simp)) (fun e => by omega)
              have z0 := (C9).cell (j := 0) rfl
              have z1 := (C9).cell (j := 1) rfl
              have z2 := (C9).cell (j := 2) rfl
              have z3 := (C9).cell (j := 3) rfl
              have z4 := (C9).cell (j := 4) rfl
              have z5 := (C9).cell (j := 5) rfl
              have r0 := (C9).free (j := 0) (by simp)
              have r1 := (C9).free (j := 1) (by simp)
              have r2 := (C9).free (j := 2) (by simp)
              have r3 := (C9).free (j := 3) (by simp)
              have r4 := (C9).free (j := 4) (by simp)
              have r5 := (C9).free (j := 5) (by simp)
              have hc9 := C9.lt (by simp)
              have k0w9 : Kp w w9 := ((k0d.fx (fun q => q = tB)).trans k9).kp (fun q hq e => by have e : q = tB := e; omega)
              have hL4 : 0 < L.length := by omega
              clear hrk y2 q0 q1 q2 q3
              go_wp2
              try simp only [Exit.inBlock, Exit.then]
              have E2 := C9.all (cs := [.int .i64 (b.num + 1), .int .i64 p1, .int .i64 p2, .int .i64 p3, .int .i64 p4, .slice A7 m.length c7]) rfl
              have kS2 : Fx (fun q => q = tC) w9 (w9.setCells tC 0 [.int .i64 (b.num + 1), .int .i64 p1, .int .i64 p2, .int .i64 p3, .int .i64 p4, .slice A7 m.length c7]) := (Kg.setCells (.inl rfl) _ 0 (Kg.refl w9 tC)).fx (.inl rfl)
              have E3 := v8.fx kS2 (v8.lt hL4) (fun e => by omega)
              have kE : Kp w (w9.setCells tC 0 [.int .i64 (b.num + 1), .int .i64 p1, .int .i64 p2, .int .i64 p3, .int .i64 p4, .slice A7 m.length c7]) := Kp.setCells (by omega) _ 0 _ k0w9
              have hC4 : ∀ q : Nat, w4.heap.size ≤ q → ¬ q = tC ∧ ¬ q = tB := fun q hq => by omega
              have hz45 : w4.heap.size ≤ w5.heap.size := fx5.size
              have own7' := own7.fx kS2 (fun q hq e => (hC4 q (Nat.le_trans hz45 (own7.ge q hq))).1 e)
              have own6' := (own6.fx k9 (fun q hq e => (hC4 q (own6.ge q hq)).2 e)).fx kS2 (fun q hq e => (hC4 q (own6.ge q hq)).1 e)
              change bodyPost _ _ _ _ _ (w9.setCells tC 0 [.int .i64 (b.num + 1), .int .i64 p1, .int .i64 p2, .int .i64 p3, .int .i64 p4, .slice A7 m.length c7])
              refine bodyPost_ret (results_cell2_tmp rfl _ _ tB tC L [.int .i64 (b.num + 1), .int .i64 p1, .int .i64 p2, .int .i64 p3, .int .i64 p4, .slice A7 m.length c7] _ _ rfl rfl E3.range E2.range Try.underlying58 rfl iL Try.underlying29 rfl (by kernel_rfl)) rfl ?_
              refine ⟨kE, .slice A6 n6 c6, .slice A7 m.length c7, by rw [hL.out, HF.out]; rfl, ?_, ?_⟩
              · rw [HF.out]
                exact (own7'.owF (fun q hq => by have := hX q hq; omega)).imp fun _ h => h.sl encNd_len
              · rw [HF.out]
                refine ⟨(own6'.owF (fun q hq => by have := hX q hq; omega)).imp fun _ h => h.sl encNd_len, (hR.kp kE).heard, ?_⟩
                have ok := hR.ok
                refine ⟨ok.n1, ok.i1, by dsimp only; omega, fun p' l' h => ?_, ok.key⟩
                simp only [Option.some.injEq, Prod.mk.injEq] at h
                obtain ⟨rfl, rfl⟩ := h
                exact ⟨h1.out, h4.out⟩
        · replace h4 := eq_false_of_ne_true h4
          rw [h4]
          have HF : Hid (R = (b, zAk, 1)) := hid (by rw [HRE.out, if_pos (by simp [h4])])
          clear HRE
          have B1w := B1c.kp k24 hl1
          have B2w := B2c.kp k24 hl2
          have B3w := B3.kp k24 hl3
          have k0w := k03.trans k24
          obtain ⟨L, hL⟩ : ∃ L : List Value, Hid (L = (refL b (.slice A (lstO b.own).length c) (.slice A' b.n.toNat c'))) := ⟨_, hid rfl⟩
          rw [← hL.out] at B1w
          have rL := B1w.range
          have lL : L.length = 10 := by rw [hL.out]; rfl
          have iL : (Try.prog.info? 58).map (·.size) = some L.length := by rw [lL]; kernel_rfl
          have oL : ∀ u ∈ L, u.oneCell' = true := by rw [hL.out]; simp [Value.oneCell']
          have tL : (w4).there tB 0 L.toArray.size := by simpa [lL] using B2w.thereAt 0 10 (by simp)
          have iL2 : (Try.prog.info? 58).map (·.size) = some L.toArray.size := by simpa using iL
          have E1 := B2w.all (cs := L) (by rw [lL]; rfl)
          have kS1 : Fx (fun q => q = tB) w4 ((w4).setCells tB 0 L) := (Kg.setCells (.inl rfl) _ 0 (Kg.refl w4 tB)).fx (.inl rfl)
          have C1 := B3w.fx kS1 (B3w.lt (by simp)) (fun e => by omega)
          have k1w : Kp w ((w4).setCells tB 0 L) := Kp.setCells (by omega) _ 0 _ k0w
          go_wp2_with (first | (refine wpList_load_mid rfl 58 (.tmp 4) rfl x0 0 rfl L _ rL Try.underlying58 rfl iL ?_) | (refine wpList_store_mid rfl 58 (.tmp 8) (.tmp 31) rfl tB 0 L.toArray rfl rfl tL iL2 (all_oneCell_toArray oL) ?_; rw [List.toList_toArray]; generalize (w4).setCells tB 0 L = w1 at *; have z0 := C1.cell (j := 0) rfl; have z1' := C1.cell (j := 1) rfl; have z2' := C1.cell (j := 2) rfl; have z3 := C1.cell (j := 3) rfl; have z4 := C1.cell (j := 4) rfl; have z5 := C1.cell (j := 5) rfl; have r0 := C1.free (j := 0) (by simp); have r1 := C1.free (j := 1) (by simp); have r2 := C1.free (j := 2) (by simp); have r3 := C1.free (j := 3) (by simp); have r4 := C1.free (j := 4) (by simp); have r5 := C1.free (j := 5) (by simp); have hc1 := C1.lt (by simp)) | fail)
          try simp only [Exit.inBlock, Exit.then]
          have E2 := C1.all (cs := [.int .i64 0, .int .i64 0, .int .i64 0, .int .i64 0, .int .i64 0, .slice none 0 0]) rfl
          have kS2 : Fx (fun q => q = tC) w1 (w1.setCells tC 0 [.int .i64 0, .int .i64 0, .int .i64 0, .int .i64 0, .int .i64 0, .slice none 0 0]) := (Kg.setCells (.inl rfl) _ 0 (Kg.refl w1 tC)).fx (.inl rfl)
          have E3 := E1.fx kS2 (E1.lt (by omega)) (fun e => by omega)
          have kE : Kp w (w1.setCells tC 0 [.int .i64 0, .int .i64 0, .int .i64 0, .int .i64 0, .int .i64 0, .slice none 0 0]) := Kp.setCells (by omega) _ 0 _ k1w
          change bodyPost _ _ _ _ _ (w1.setCells tC 0 [.int .i64 0, .int .i64 0, .int .i64 0, .int .i64 0, .int .i64 0, .slice none 0 0])
          refine bodyPost_ret (results_cell2_tmp rfl _ _ tB tC L [.int .i64 0, .int .i64 0, .int .i64 0, .int .i64 0, .int .i64 0, .slice none 0 0] _ _ rfl rfl E3.range E2.range Try.underlying58 rfl iL Try.underlying29 rfl (by kernel_rfl)) rfl ?_
          rw [HF.out]
          exact ⟨kE, .slice A (lstO b.own).length c, .slice none 0 0, by rw [hL.out]; rfl, fun w2 _ => Sl.nil _ _ _, hR.kp kE⟩
      · replace h3 := eq_false_of_ne_true h3
        rw [h3]
        have HF : Hid (R = (b, zAk, 1)) := hid (by rw [HRE.out, if_pos (by simp [h3])])
        clear HRE
        have B1w := B1c.kp k23 hl1
        have B2w := B2c.kp k23 hl2
        have B3w := B3.kp k23 hl3
        have k0w := k03.trans k23
        obtain ⟨L, hL⟩ : ∃ L : List Value, Hid (L = (refL b (.slice A (lstO b.own).length c) (.slice A' b.n.toNat c'))) := ⟨_, hid rfl⟩
        rw [← hL.out] at B1w
        have rL := B1w.range
        have lL : L.length = 10 := by rw [hL.out]; rfl
        have iL : (Try.prog.info? 58).map (·.size) = some L.length := by rw [lL]; kernel_rfl
        have oL : ∀ u ∈ L, u.oneCell' = true := by rw [hL.out]; simp [Value.oneCell']
        have tL : (w3).there tB 0 L.toArray.size := by simpa [lL] using B2w.thereAt 0 10 (by simp)
        have iL2 : (Try.prog.info? 58).map (·.size) = some L.toArray.size := by simpa using iL
        have E1 := B2w.all (cs := L) (by rw [lL]; rfl)
        have kS1 : Fx (fun q => q = tB) w3 ((w3).setCells tB 0 L) := (Kg.setCells (.inl rfl) _ 0 (Kg.refl w3 tB)).fx (.inl rfl)
        have C1 := B3w.fx kS1 (B3w.lt (by simp)) (fun e => by omega)
        have k1w : Kp w ((w3).setCells tB 0 L) := Kp.setCells (by omega) _ 0 _ k0w
        go_wp2_with (first | (refine wpList_load_mid rfl 58 (.tmp 4) rfl x0 0 rfl L _ rL Try.underlying58 rfl iL ?_) | (refine wpList_store_mid rfl 58 (.tmp 8) (.tmp 31) rfl tB 0 L.toArray rfl rfl tL iL2 (all_oneCell_toArray oL) ?_; rw [List.toList_toArray]; generalize (w3).setCells tB 0 L = w1 at *; have z0 := C1.cell (j := 0) rfl; have z1' := C1.cell (j := 1) rfl; have z2' := C1.cell (j := 2) rfl; have z3 := C1.cell (j := 3) rfl; have z4 := C1.cell (j := 4) rfl; have z5 := C1.cell (j := 5) rfl; have r0 := C1.free (j := 0) (by simp); have r1 := C1.free (j := 1) (by simp); have r2 := C1.free (j := 2) (by simp); have r3 := C1.free (j := 3) (by simp); have r4 := C1.free (j := 4) (by simp); have r5 := C1.free (j := 5) (by simp); have hc1 := C1.lt (by simp)) | fail)
        try simp only [Exit.inBlock, Exit.then]
        have E2 := C1.all (cs := [.int .i64 0, .int .i64 0, .int .i64 0, .int .i64 0, .int .i64 0, .slice none 0 0]) rfl
        have kS2 : Fx (fun q => q = tC) w1 (w1.setCells tC 0 [.int .i64 0, .int .i64 0, .int .i64 0, .int .i64 0, .int .i64 0, .slice none 0 0]) := (Kg.setCells (.inl rfl) _ 0 (Kg.refl w1 tC)).fx (.inl rfl)
        have E3 := E1.fx kS2 (E1.lt (by omega)) (fun e => by omega)
        have kE : Kp w (w1.setCells tC 0 [.int .i64 0, .int .i64 0, .int .i64 0, .int .i64 0, .int .i64 0, .slice none 0 0]) := Kp.setCells (by omega) _ 0 _ k1w
        change bodyPost _ _ _ _ _ (w1.setCells tC 0 [.int .i64 0, .int .i64 0, .int .i64 0, .int .i64 0, .int .i64 0, .slice none 0 0])
        refine bodyPost_ret (results_cell2_tmp rfl _ _ tB tC L [.int .i64 0, .int .i64 0, .int .i64 0, .int .i64 0, .int .i64 0, .slice none 0 0] _ _ rfl rfl E3.range E2.range Try.underlying58 rfl iL Try.underlying29 rfl (by kernel_rfl)) rfl ?_
        rw [HF.out]
        exact ⟨kE, .slice A (lstO b.own).length c, .slice none 0 0, by rw [hL.out]; rfl, fun w2 _ => Sl.nil _ _ _, hR.kp kE⟩
  · replace h1 := eq_false_of_ne_true h1
    rw [h1]
    have HF : Hid (R = (b, zAk, 1)) := hid (by rw [HRE.out, if_pos (by simp [h1])])
    clear HRE
    have B1w := B1c.kp k2 hl1
    have B2w := B2c.kp k2 hl2
    have B3w := B3.kp k2 hl3
    have k0w := k03.trans k2
    obtain ⟨L, hL⟩ : ∃ L : List Value, Hid (L = (refL b (.slice A (lstO b.own).length c) (.slice A' b.n.toNat c'))) := ⟨_, hid rfl⟩
    rw [← hL.out] at B1w
    have rL := B1w.range
    have lL : L.length = 10 := by rw [hL.out]; rfl
    have iL : (Try.prog.info? 58).map (·.size) = some L.length := by rw [lL]; kernel_rfl
    have oL : ∀ u ∈ L, u.oneCell' = true := by rw [hL.out]; simp [Value.oneCell']
    have tL : (w2).there tB 0 L.toArray.size := by simpa [lL] using B2w.thereAt 0 10 (by simp)
    have iL2 : (Try.prog.info? 58).map (·.size) = some L.toArray.size := by simpa using iL
    have E1 := B2w.all (cs := L) (by rw [lL]; rfl)
    have kS1 : Fx (fun q => q = tB) w2 ((w2).setCells tB 0 L) := (Kg.setCells (.inl rfl) _ 0 (Kg.refl w2 tB)).fx (.inl rfl)
    have C1 := B3w.fx kS1 (B3w.lt (by simp)) (fun e => by omega)
    have k1w : Kp w ((w2).setCells tB 0 L) := Kp.setCells (by omega) _ 0 _ k0w
    go_wp2_with (first | (refine wpList_load_mid rfl 58 (.tmp 4) rfl x0 0 rfl L _ rL Try.underlying58 rfl iL ?_) | (refine wpList_store_mid rfl 58 (.tmp 8) (.tmp 31) rfl tB 0 L.toArray rfl rfl tL iL2 (all_oneCell_toArray oL) ?_; rw [List.toList_toArray]; generalize (w2).setCells tB 0 L = w1 at *; have z0 := C1.cell (j := 0) rfl; have z1' := C1.cell (j := 1) rfl; have z2' := C1.cell (j := 2) rfl; have z3 := C1.cell (j := 3) rfl; have z4 := C1.cell (j := 4) rfl; have z5 := C1.cell (j := 5) rfl; have r0 := C1.free (j := 0) (by simp); have r1 := C1.free (j := 1) (by simp); have r2 := C1.free (j := 2) (by simp); have r3 := C1.free (j := 3) (by simp); have r4 := C1.free (j := 4) (by simp); have r5 := C1.free (j := 5) (by simp); have hc1 := C1.lt (by simp)) | fail)
    try simp only [Exit.inBlock, Exit.then]
    have E2 := C1.all (cs := [.int .i64 0, .int .i64 0, .int .i64 0, .int .i64 0, .int .i64 0, .slice none 0 0]) rfl
    have kS2 : Fx (fun q => q = tC) w1 (w1.setCells tC 0 [.int .i64 0, .int .i64 0, .int .i64 0, .int .i64 0, .int .i64 0, .slice none 0 0]) := (Kg.setCells (.inl rfl) _ 0 (Kg.refl w1 tC)).fx (.inl rfl)
    have E3 := E1.fx kS2 (E1.lt (by omega)) (fun e => by omega)
    have kE : Kp w (w1.setCells tC 0 [.int .i64 0, .int .i64 0, .int .i64 0, .int .i64 0, .int .i64 0, .slice none 0 0]) := Kp.setCells (by omega) _ 0 _ k1w
    change bodyPost _ _ _ _ _ (w1.setCells tC 0 [.int .i64 0, .int .i64 0, .int .i64 0, .int .i64 0, .int .i64 0, .slice none 0 0])
    refine bodyPost_ret (results_cell2_tmp rfl _ _ tB tC L [.int .i64 0, .int .i64 0, .int .i64 0, .int .i64 0, .int .i64 0, .slice none 0 0] _ _ rfl rfl E3.range E2.range Try.underlying58 rfl iL Try.underlying29 rfl (by kernel_rfl)) rfl ?_
    rw [HF.out]
    exact ⟨kE, .slice A (lstO b.own).length c, .slice none 0 0, by rw [hL.out]; rfl, fun w2 _ => Sl.nil _ _ _, hR.kp kE⟩
end Go.Proofs.Ytbcekihjcgnhkaa
