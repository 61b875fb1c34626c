
/-
The reference's network: Do; the network's Counts: the walks.
-/
import Derived.Test.YtmokpnkpfodppaaOpG
import Derived.Test.YtmokpnkpfodppaaOpP
namespace Go.Proofs.Ytmokpnkpfodppaa
set_option linter.unusedSimpArgs false
set_option linter.unusedVariables false
open Go.RowKit

theorem MsX.kg {wE w w' : World} {T : Nat → Prop} {v : Value} {xs : List Message} {g : Nat} (h : MsX wE T w v xs) (k : Kg w w' g) (hg : ¬ T g) : MsX wE T w' v xs := by
  obtain ⟨css, h1, h2, h3⟩ := h
  exact ⟨css, h1.kg k hg, h2, h3⟩
set_option maxHeartbeats 1600000 in
theorem nCounts_any (lo nb mb : Nat) (vf sv : Value) (w : World) (N : Net) (h : NetW lo nb mb vf sv w N) : Calls Try.prog 25 #[.pointer (some ⟨nb, 0, none⟩)] w fun e w' => e = .returned (.tuple #[.int .i64 N.sent, .int .i64 N.delivered, .int .i64 N.lost]) ∧ Kp w w' := by
  have c6 : w.cell? ⟨nb, 6, none⟩ = some (.int .i64 N.sent) := h.box.cell (j := 6) rfl
  have c7 : w.cell? ⟨nb, 7, none⟩ = some (.int .i64 N.delivered) := h.box.cell (j := 7) rfl
  have c8 : w.cell? ⟨nb, 8, none⟩ = some (.int .i64 N.lost) := h.box.cell (j := 8) rfl
  clear h
  go_enter Try.func25, Try.ntmps25
  go_upto_region 1 with (fail)
  go_quiet (fail)
  go_wp2
  refine bodyPost_ret (results_tmp3 rfl _ _ _) rfl ?_
  exact ⟨rfl, (Kp.refl w).drewN _⟩
set_option maxRecDepth 8000 in
set_option maxHeartbeats 3200000 in
theorem qDo_any (wE : World) (T : Nat → Prop) (vs : Value) (s : RSt) (x : Cmd) (cs : List Value) (w : World) (kE : Kp wE w) (hX : StX wE T w vs s) (hok : OkR s) (hx : rdCmd wE cs x) (hm : (numMessage x.m).length ≤ 100000) :
    Calls Try.prog 23 #[vs, .agg cs.toArray] w fun e w' => ∃ v vo, e = .returned (.tuple #[v, vo, .int .i64 (doR s x).2.2]) ∧ StX wE (fun i => T i ∨ w.heap.size ≤ i) w' v (doR s x).1 ∧ MsX wE (fun i => w.heap.size ≤ i) w' vo (doR s x).2.1 ∧ Kp w w' := by
  have HXX := hid hX
  have HTF := hid hX.fit
  obtain ⟨vf, vl, vc, csx, rfl, XF, XL, XR, XO, XC⟩ := hX
  have hF := XF.keep (pl_stable _) kE
  have hL : Cpys w vl s.flight := sl_of XO.here XL fun i i1 i2 => rdCpy_stable _ _ _ _ kE (XR i i1 i2)
  have hC := XC.here
  obtain ⟨Af, cf, rfl, hcf, hmf⟩ := hF.form
  obtain ⟨Al, cl, rfl, hcl, hml⟩ := hL.form
  obtain ⟨Ac, cc, rfl, hcc, hmc⟩ := hC.form
  replace XF := hid XF
  replace XL := hid XL
  replace XR := hid XR
  replace XO := hid XO
  replace XC := hid XC
  have KE := hid kE
  clear kE
  obtain ⟨h22, h1c⟩ := rdCmd_one hx
  obtain ⟨ms, hcs, hms⟩ := hx
  have hm18 := (rdMsg_one hms).1
  have hi : (Try.prog.info? 34).map (·.size) = some ms.length := by rw [hm18]; kernel_rfl
  have HM := hid hm
  have HOK := hid hok
  have HMS := hid hms
  have HCS := hid hcs
  have hA := Bx.new w #[.int .i64 s.reps, .int .i64 s.tick, .slice Af s.fates.length cf, .slice Al s.flight.length cl, .slice Ac s.cuts.length cc, .int .i64 s.sent, .int .i64 s.delivered, .int .i64 s.lost, .int .i64 s.made] 66
  have k0 := (Kp.refl w).alloc (.cells #[.int .i64 s.reps, .int .i64 s.tick, .slice Af s.fates.length cf, .slice Al s.flight.length cl, .slice Ac s.cuts.length cc, .int .i64 s.sent, .int .i64 s.delivered, .int .i64 s.lost, .int .i64 s.made] 66)
  have la := alloc_lt w (.cells #[.int .i64 s.reps, .int .i64 s.tick, .slice Af s.fates.length cf, .slice Al s.flight.length cl, .slice Ac s.cuts.length cc, .int .i64 s.sent, .int .i64 s.delivered, .int .i64 s.lost, .int .i64 s.made] 66)
  have hz : (w.alloc (.cells #[.int .i64 s.reps, .int .i64 s.tick, .slice Af s.fates.length cf, .slice Al s.flight.length cl, .slice Ac s.cuts.length cc, .int .i64 s.sent, .int .i64 s.delivered, .int .i64 s.lost, .int .i64 s.made] 66)).heap.size = w.heap.size + 1 := by simp
  generalize hR : doR s x = R
  have HR := hid hR
  clear hR hok hm hms hm18 hcs
  go_enter Try.func23, Try.ntmps23
  go_upto_region 1 with (fail)
  generalize hw0 : w.alloc (.cells #[.int .i64 s.reps, .int .i64 s.tick, .slice Af s.fates.length cf, .slice Al s.flight.length cl, .slice Ac s.cuts.length cc, .int .i64 s.sent, .int .i64 s.delivered, .int .i64 s.lost, .int .i64 s.made] 66) = w0 at *
  generalize hb0 : w.heap.size = b0 at *
  have hB : Bx (w0.alloc (.cells cs.toArray 59)) w0.heap.size cs := by simpa using Bx.new w0 cs.toArray 59
  have k1 := k0.alloc (.cells cs.toArray 59)
  have k1' := (Kp.refl w0).alloc (.cells cs.toArray 59)
  have lb := alloc_lt w0 (.cells cs.toArray 59)
  have hz1 : (w0.alloc (.cells cs.toArray 59)).heap.size = b0 + 2 := by simp [hz]
  rw [hz] at hB lb
  replace hA := hA.kp k1' la
  generalize hw1 : w0.alloc (.cells cs.toArray 59) = w1 at *
  have hZ := Bx.new w1 [.int .i64 0, .int .i64 0, .slice none 0 0, .slice none 0 0, .slice none 0 0, .int .i64 0, .int .i64 0, .int .i64 0, .int .i64 0].toArray 66
  have k2 := k1.alloc (.cells [.int .i64 0, .int .i64 0, .slice none 0 0, .slice none 0 0, .slice none 0 0, .int .i64 0, .int .i64 0, .int .i64 0, .int .i64 0].toArray 66)
  have k2' := (Kp.refl w1).alloc (.cells [.int .i64 0, .int .i64 0, .slice none 0 0, .slice none 0 0, .slice none 0 0, .int .i64 0, .int .i64 0, .int .i64 0, .int .i64 0].toArray 66)
  have lz := alloc_lt w1 (.cells [.int .i64 0, .int .i64 0, .slice none 0 0, .slice none 0 0, .slice none 0 0, .int .i64 0, .int .i64 0, .int .i64 0, .int .i64 0].toArray 66)
  have hz2 : (w1.alloc (.cells [.int .i64 0, .int .i64 0, .slice none 0 0, .slice none 0 0, .slice none 0 0, .int .i64 0, .int .i64 0, .int .i64 0, .int .i64 0].toArray 66)).heap.size = b0 + 3 := by simp [hz1]
  rw [hz1] at hZ lz
  replace hA := hA.kp k2' (by omega)
  replace hB := hB.kp k2' lb
  generalize hw2 : w1.alloc (.cells [.int .i64 0, .int .i64 0, .slice none 0 0, .slice none 0 0, .slice none 0 0, .int .i64 0, .int .i64 0, .int .i64 0, .int .i64 0].toArray 66) = w2 at *
  simp only [List.toList_toArray] at hA hZ
  rw [show b0 + 1 + 1 = b0 + 2 from rfl]
  have hwb : w.heap.size = b0 := hb0
  have kk := k2
  clear k0 k1 k1' k2' k2 hz hz1 hw0 hw1 hw2 la lb
  have e0 := hB.cell (j := 0) (u := .int .i64 x.kind) (by rw [HCS.out]; rfl)
  have e1 := hB.cell (j := 1) (u := .int .i64 x.tick) (by rw [HCS.out]; rfl)
  have e2 := hB.cell (j := 2) (u := .int .i64 x.a) (by rw [HCS.out]; rfl)
  have e3 := hB.cell (j := 3) (u := .int .i64 x.b) (by rw [HCS.out]; rfl)
  have r4 : w2.rangeAt (b0 + 1) 4 ms := fun j v hj => hB.cell (j := 4 + j) (by
    rw [HCS.out, List.getElem?_append_right (by simp)]
    simpa using hj)
  have hTF2 := HTF.out.kp kk
  have kE2 := KE.out.trans kk
  have HT2 := hid hTF2
  have HE2 := hid kE2
  clear hTF2 kE2 HCS h22 h1c HTF
  obtain ⟨kd, tk, xa, xb, m⟩ := x
  dsimp only at e0 e1 e2 e3 HM HMS
  have c0 := (hA).cell (j := 0) rfl
  have c1 := (hA).cell (j := 1) rfl
  have c2 := (hA).cell (j := 2) rfl
  have c3 := (hA).cell (j := 3) rfl
  have c4 := (hA).cell (j := 4) rfl
  have c5 := (hA).cell (j := 5) rfl
  have c6 := (hA).cell (j := 6) rfl
  have c7 := (hA).cell (j := 7) rfl
  have c8 := (hA).cell (j := 8) rfl
  by_cases h0 : kd = 0
  · have HF : Hid (R = ((sendQ s m tk).1, [], (sendQ s m tk).2)) := hid (by rw [← HR.out, doR, if_pos h0])
    have q0 : (kd == 0) = true := by simpa using h0
    replace h0 := hid h0
    clear HR
    go_wp2_with (refine wpList_load_mid rfl 34 (.tmp 15) rfl (b0 + 1) 4 rfl ms _ r4 Try.underlying34 rfl hi ?_)
    refine (qSend_any wE _ _ _ s m tk w2 HE2.out HT2.out HOK.out HMS.out HM.out).mono ?_
    rintro e w3 ⟨v, rfl, hst, k3⟩
    generalize sendQ s m tk = r at *
    obtain ⟨s', er⟩ := r
    dsimp only at hst HF
    obtain ⟨vf', vl', vc', css', rfl, YF, YL, YR, YO, YC⟩ := hst
    obtain ⟨Af', cf', rfl, hcf', hmf'⟩ := YF.form
    obtain ⟨Al', cl', rfl, hcl', hml'⟩ := YO.here.form
    obtain ⟨Ac', cc', rfl, hcc', hmc'⟩ := YC.here.form
    replace YF := hid YF
    replace YL := hid YL
    replace YR := hid YR
    have hA3 := hA.kp k3 (by omega)
    have hZ3 := hZ.kp k3 lz
    have lz3 := Nat.lt_of_lt_of_le lz k3.size
    clear c0 c1 c2 c3 c4 c5 c6 c7 c8 e0 e1 e2 e3 r4 hA hZ hB
    have c0 := (hA3).cell (j := 0) rfl
    have c1 := (hA3).cell (j := 1) rfl
    have c2 := (hA3).cell (j := 2) rfl
    have c3 := (hA3).cell (j := 3) rfl
    have c4 := (hA3).cell (j := 4) rfl
    have c5 := (hA3).cell (j := 5) rfl
    have c6 := (hA3).cell (j := 6) rfl
    have c7 := (hA3).cell (j := 7) rfl
    have c8 := (hA3).cell (j := 8) rfl
    have f0 := (hA3).free (j := 0) (by simp)
    have f1 := (hA3).free (j := 1) (by simp)
    have f2 := (hA3).free (j := 2) (by simp)
    have f3 := (hA3).free (j := 3) (by simp)
    have f4 := (hA3).free (j := 4) (by simp)
    have f5 := (hA3).free (j := 5) (by simp)
    have f6 := (hA3).free (j := 6) (by simp)
    have f7 := (hA3).free (j := 7) (by simp)
    have f8 := (hA3).free (j := 8) (by simp)
    go_upto_region 12 with (fail)
    have kS := Kp.setCells (by omega : w.heap.size ≤ b0) [.int .i64 s'.reps, .int .i64 s'.tick, .slice Af' s'.fates.length cf', .slice Al' css'.length cl', .slice Ac' s'.cuts.length cc', .int .i64 s'.sent, .int .i64 s'.delivered, .int .i64 s'.lost, .int .i64 s'.made] 0 _ (kk.trans k3)
    have kg := Kg.setCells (g := b0) [.int .i64 s'.reps, .int .i64 s'.tick, .slice Af' s'.fates.length cf', .slice Al' css'.length cl', .slice Ac' s'.cuts.length cc', .int .i64 s'.sent, .int .i64 s'.delivered, .int .i64 s'.lost, .int .i64 s'.made] 0 _ (Kg.refl w3 b0)
    have hA4 := hA3.all (cs := [.int .i64 s'.reps, .int .i64 s'.tick, .slice Af' s'.fates.length cf', .slice Al' css'.length cl', .slice Ac' s'.cuts.length cc', .int .i64 s'.sent, .int .i64 s'.delivered, .int .i64 s'.lost, .int .i64 s'.made]) rfl
    have hZ4 := hZ3.kg kg lz3 (by omega)
    have lz4 := Nat.lt_of_lt_of_le lz3 kg.size
    clear c0 c1 c2 c3 c4 c5 c6 c7 c8 f0 f1 f2 f3 f4 f5 f6 f7 f8 hA3 hZ3
    change Code.wp _ _ _ _ (w3.setCells b0 0 [.int .i64 s'.reps, .int .i64 s'.tick, .slice Af' s'.fates.length cf', .slice Al' css'.length cl', .slice Ac' s'.cuts.length cc', .int .i64 s'.sent, .int .i64 s'.delivered, .int .i64 s'.lost, .int .i64 s'.made])
    generalize w3.setCells b0 0 [.int .i64 s'.reps, .int .i64 s'.tick, .slice Af' s'.fates.length cf', .slice Al' css'.length cl', .slice Ac' s'.cuts.length cc', .int .i64 s'.sent, .int .i64 s'.delivered, .int .i64 s'.lost, .int .i64 s'.made] = w4 at *
    have lb4 : b0 < w4.heap.size := by omega
    replace hi := hid hi
    have c0 := (hA4).cell (j := 0) rfl
    have c1 := (hA4).cell (j := 1) rfl
    have c2 := (hA4).cell (j := 2) rfl
    have c3 := (hA4).cell (j := 3) rfl
    have c4 := (hA4).cell (j := 4) rfl
    have c5 := (hA4).cell (j := 5) rfl
    have c6 := (hA4).cell (j := 6) rfl
    have c7 := (hA4).cell (j := 7) rfl
    have c8 := (hA4).cell (j := 8) rfl
    have d0 := (hZ4).cell (j := 0) rfl
    have d1 := (hZ4).cell (j := 1) rfl
    have d2 := (hZ4).cell (j := 2) rfl
    have d3 := (hZ4).cell (j := 3) rfl
    have d4 := (hZ4).cell (j := 4) rfl
    have d5 := (hZ4).cell (j := 5) rfl
    have d6 := (hZ4).cell (j := 6) rfl
    have d7 := (hZ4).cell (j := 7) rfl
    have d8 := (hZ4).cell (j := 8) rfl
    have f0 := (hZ4).free (j := 0) (by simp)
    have f1 := (hZ4).free (j := 1) (by simp)
    have f2 := (hZ4).free (j := 2) (by simp)
    have f3 := (hZ4).free (j := 3) (by simp)
    have f4 := (hZ4).free (j := 4) (by simp)
    have f5 := (hZ4).free (j := 5) (by simp)
    have f6 := (hZ4).free (j := 6) (by simp)
    have f7 := (hZ4).free (j := 7) (by simp)
    have f8 := (hZ4).free (j := 8) (by simp)
    go_wp2
    refine bodyPost_ret (results_cell_bx3 rfl _ _ (b0 + 2) [.int .i64 s'.reps, .int .i64 s'.tick, .slice Af' s'.fates.length cf', .slice Al' css'.length cl', .slice Ac' s'.cuts.length cc', .int .i64 s'.sent, .int .i64 s'.delivered, .int .i64 s'.lost, .int .i64 s'.made] _ rfl (hZ4.all (cs := [.int .i64 s'.reps, .int .i64 s'.tick, .slice Af' s'.fates.length cf', .slice Al' css'.length cl', .slice Ac' s'.cuts.length cc', .int .i64 s'.sent, .int .i64 s'.delivered, .int .i64 s'.lost, .int .i64 s'.made]) rfl).range Try.underlying66 rfl (by kernel_rfl)) rfl ?_
    have kF := Kp.setCells (by omega : w.heap.size ≤ b0 + 2) [.int .i64 s'.reps, .int .i64 s'.tick, .slice Af' s'.fates.length cf', .slice Al' css'.length cl', .slice Ac' s'.cuts.length cc', .int .i64 s'.sent, .int .i64 s'.delivered, .int .i64 s'.lost, .int .i64 s'.made] 0 _ kS
    have kg5 := Kg.setCells (g := b0 + 2) [.int .i64 s'.reps, .int .i64 s'.tick, .slice Af' s'.fates.length cf', .slice Al' css'.length cl', .slice Ac' s'.cuts.length cc', .int .i64 s'.sent, .int .i64 s'.delivered, .int .i64 s'.lost, .int .i64 s'.made] 0 _ (Kg.refl w4 (b0 + 2))
    have n0 : ¬ ((T b0 ∧ b0 < b0) ∨ w2.heap.size ≤ b0) := fun h => by rcases h with h | h <;> omega
    have n2 : ¬ ((T (b0 + 2) ∧ b0 + 2 < b0) ∨ w2.heap.size ≤ b0 + 2) := fun h => by rcases h with h | h <;> omega
    have hU : ∀ i, ((T i ∧ i < b0) ∨ w2.heap.size ≤ i) → (T i ∨ w.heap.size ≤ i) := fun i h => by
      rcases h with h | h
      · exact .inl h.1
      · exact .inr (by omega)
    exact ⟨_, _, by rw [HF.out]; rfl, by rw [HF.out]; exact ⟨_, _, _, _, rfl, YF.out, YL.out, YR.out, ((YO.kg kg n0).kg kg5 n2).mono hU, ((YC.kg kg n0).kg kg5 n2).mono hU⟩, by rw [HF.out]; exact MsX.nil _ _ _, kF⟩
  · have q0 : (kd == 0) = false := beq_false_of_ne h0
    by_cases h1 : kd = 1
    · have HF : Hid (R = deliverQ s tk) := hid (by rw [← HR.out, doR, if_neg h0, if_pos h1])
      have q1 : (kd == 1) = true := by simpa using h1
      replace h0 := hid h0
      replace h1 := hid h1
      clear HR
      go_wp2_with fail
      refine (qDeliver_any wE _ _ s tk w2 HE2.out HT2.out HOK.out).mono ?_
      rintro e w3 ⟨v, vo, rfl, hst, hmo, k3⟩
      generalize deliverQ s tk = r at *
      obtain ⟨s', out, er⟩ := r
      dsimp only at hst hmo HF
      obtain ⟨cso, hO, hOL, hOR⟩ := hmo
      obtain ⟨Ao, co, rfl, hco, hmo⟩ := hO.here.form
      replace hOL := hid hOL
      replace hOR := hid hOR
      obtain ⟨vf', vl', vc', css', rfl, YF, YL, YR, YO, YC⟩ := hst
      obtain ⟨Af', cf', rfl, hcf', hmf'⟩ := YF.form
      obtain ⟨Al', cl', rfl, hcl', hml'⟩ := YO.here.form
      obtain ⟨Ac', cc', rfl, hcc', hmc'⟩ := YC.here.form
      replace YF := hid YF
      replace YL := hid YL
      replace YR := hid YR
      have hA3 := hA.kp k3 (by omega)
      have hZ3 := hZ.kp k3 lz
      have lz3 := Nat.lt_of_lt_of_le lz k3.size
      clear c0 c1 c2 c3 c4 c5 c6 c7 c8 e0 e1 e2 e3 r4 hA hZ hB
      have c0 := (hA3).cell (j := 0) rfl
      have c1 := (hA3).cell (j := 1) rfl
      have c2 := (hA3).cell (j := 2) rfl
      have c3 := (hA3).cell (j := 3) rfl
      have c4 := (hA3).cell (j := 4) rfl
      have c5 := (hA3).cell (j := 5) rfl
      have c6 := (hA3).cell (j := 6) rfl
      have c7 := (hA3).cell (j := 7) rfl
      have c8 := (hA3).cell (j := 8) rfl
      have f0 := (hA3).free (j := 0) (by simp)
      have f1 := (hA3).free (j := 1) (by simp)
      have f2 := (hA3).free (j := 2) (by simp)
      have f3 := (hA3).free (j := 3) (by simp)
      have f4 := (hA3).free (j := 4) (by simp)
      have f5 := (hA3).free (j := 5) (by simp)
      have f6 := (hA3).free (j := 6) (by simp)
      have f7 := (hA3).free (j := 7) (by simp)
      have f8 := (hA3).free (j := 8) (by simp)
      go_upto_region 12 with (fail)
      have kS := Kp.setCells (by omega : w.heap.size ≤ b0) [.int .i64 s'.reps, .int .i64 s'.tick, .slice Af' s'.fates.length cf', .slice Al' css'.length cl', .slice Ac' s'.cuts.length cc', .int .i64 s'.sent, .int .i64 s'.delivered, .int .i64 s'.lost, .int .i64 s'.made] 0 _ (kk.trans k3)
      have kg := Kg.setCells (g := b0) [.int .i64 s'.reps, .int .i64 s'.tick, .slice Af' s'.fates.length cf', .slice Al' css'.length cl', .slice Ac' s'.cuts.length cc', .int .i64 s'.sent, .int .i64 s'.delivered, .int .i64 s'.lost, .int .i64 s'.made] 0 _ (Kg.refl w3 b0)
      have hA4 := hA3.all (cs := [.int .i64 s'.reps, .int .i64 s'.tick, .slice Af' s'.fates.length cf', .slice Al' css'.length cl', .slice Ac' s'.cuts.length cc', .int .i64 s'.sent, .int .i64 s'.delivered, .int .i64 s'.lost, .int .i64 s'.made]) rfl
      have hZ4 := hZ3.kg kg lz3 (by omega)
      have lz4 := Nat.lt_of_lt_of_le lz3 kg.size
      clear c0 c1 c2 c3 c4 c5 c6 c7 c8 f0 f1 f2 f3 f4 f5 f6 f7 f8 hA3 hZ3
      change Code.wp _ _ _ _ (w3.setCells b0 0 [.int .i64 s'.reps, .int .i64 s'.tick, .slice Af' s'.fates.length cf', .slice Al' css'.length cl', .slice Ac' s'.cuts.length cc', .int .i64 s'.sent, .int .i64 s'.delivered, .int .i64 s'.lost, .int .i64 s'.made])
      generalize w3.setCells b0 0 [.int .i64 s'.reps, .int .i64 s'.tick, .slice Af' s'.fates.length cf', .slice Al' css'.length cl', .slice Ac' s'.cuts.length cc', .int .i64 s'.sent, .int .i64 s'.delivered, .int .i64 s'.lost, .int .i64 s'.made] = w4 at *
      have lb4 : b0 < w4.heap.size := by omega
      replace hi := hid hi
      have c0 := (hA4).cell (j := 0) rfl
      have c1 := (hA4).cell (j := 1) rfl
      have c2 := (hA4).cell (j := 2) rfl
      have c3 := (hA4).cell (j := 3) rfl
      have c4 := (hA4).cell (j := 4) rfl
      have c5 := (hA4).cell (j := 5) rfl
      have c6 := (hA4).cell (j := 6) rfl
      have c7 := (hA4).cell (j := 7) rfl
      have c8 := (hA4).cell (j := 8) rfl
      have d0 := (hZ4).cell (j := 0) rfl
      have d1 := (hZ4).cell (j := 1) rfl
      have d2 := (hZ4).cell (j := 2) rfl
      have d3 := (hZ4).cell (j := 3) rfl
      have d4 := (hZ4).cell (j := 4) rfl
      have d5 := (hZ4).cell (j := 5) rfl
      have d6 := (hZ4).cell (j := 6) rfl
      have d7 := (hZ4).cell (j := 7) rfl
      have d8 := (hZ4).cell (j := 8) rfl
      have f0 := (hZ4).free (j := 0) (by simp)
      have f1 := (hZ4).free (j := 1) (by simp)
      have f2 := (hZ4).free (j := 2) (by simp)
      have f3 := (hZ4).free (j := 3) (by simp)
      have f4 := (hZ4).free (j := 4) (by simp)
      have f5 := (hZ4).free (j := 5) (by simp)
      have f6 := (hZ4).free (j := 6) (by simp)
      have f7 := (hZ4).free (j := 7) (by simp)
      have f8 := (hZ4).free (j := 8) (by simp)
      go_wp2
      refine bodyPost_ret (results_cell_bx3 rfl _ _ (b0 + 2) [.int .i64 s'.reps, .int .i64 s'.tick, .slice Af' s'.fates.length cf', .slice Al' css'.length cl', .slice Ac' s'.cuts.length cc', .int .i64 s'.sent, .int .i64 s'.delivered, .int .i64 s'.lost, .int .i64 s'.made] _ rfl (hZ4.all (cs := [.int .i64 s'.reps, .int .i64 s'.tick, .slice Af' s'.fates.length cf', .slice Al' css'.length cl', .slice Ac' s'.cuts.length cc', .int .i64 s'.sent, .int .i64 s'.delivered, .int .i64 s'.lost, .int .i64 s'.made]) rfl).range Try.underlying66 rfl (by kernel_rfl)) rfl ?_
      have kF := Kp.setCells (by omega : w.heap.size ≤ b0 + 2) [.int .i64 s'.reps, .int .i64 s'.tick, .slice Af' s'.fates.length cf', .slice Al' css'.length cl', .slice Ac' s'.cuts.length cc', .int .i64 s'.sent, .int .i64 s'.delivered, .int .i64 s'.lost, .int .i64 s'.made] 0 _ kS
      have kg5 := Kg.setCells (g := b0 + 2) [.int .i64 s'.reps, .int .i64 s'.tick, .slice Af' s'.fates.length cf', .slice Al' css'.length cl', .slice Ac' s'.cuts.length cc', .int .i64 s'.sent, .int .i64 s'.delivered, .int .i64 s'.lost, .int .i64 s'.made] 0 _ (Kg.refl w4 (b0 + 2))
      have n0 : ¬ ((T b0 ∧ b0 < b0) ∨ w2.heap.size ≤ b0) := fun h => by rcases h with h | h <;> omega
      have n2 : ¬ ((T (b0 + 2) ∧ b0 + 2 < b0) ∨ w2.heap.size ≤ b0 + 2) := fun h => by rcases h with h | h <;> omega
      have hU : ∀ i, ((T i ∧ i < b0) ∨ w2.heap.size ≤ i) → (T i ∨ w.heap.size ≤ i) := fun i h => by
        rcases h with h | h
        · exact .inl h.1
        · exact .inr (by omega)
      exact ⟨_, _, by rw [HF.out]; rfl, by rw [HF.out]; exact ⟨_, _, _, _, rfl, YF.out, YL.out, YR.out, ((YO.kg kg n0).kg kg5 n2).mono hU, ((YC.kg kg n0).kg kg5 n2).mono hU⟩, by rw [HF.out]; exact ⟨cso, ((hO.kg kg (by omega)).kg kg5 (by omega)).mono (fun i hi => by omega), hOL.out, hOR.out⟩, kF⟩
    · have q1 : (kd == 1) = false := beq_false_of_ne h1
      by_cases h2 : kd = 2
      · have HF : Hid (R = ((cutR s xa xb true).1, [], (cutR s xa xb true).2)) := hid (by rw [← HR.out, doR, if_neg h0, if_neg h1, if_pos h2])
        have q2 : (kd == 2) = true := by simpa using h2
        replace h0 := hid h0
        replace h1 := hid h1
        replace h2 := hid h2
        clear HR
        go_wp2_with fail
        refine (qCutR_any wE _ _ s xa xb true w2 HE2.out HT2.out HOK.out.cuts).mono ?_
        rintro e w3 ⟨v, rfl, hst, k3⟩
        generalize cutR s xa xb true = r at *
        obtain ⟨s', er⟩ := r
        dsimp only at hst HF
        obtain ⟨vf', vl', vc', css', rfl, YF, YL, YR, YO, YC⟩ := hst
        obtain ⟨Af', cf', rfl, hcf', hmf'⟩ := YF.form
        obtain ⟨Al', cl', rfl, hcl', hml'⟩ := YO.here.form
        obtain ⟨Ac', cc', rfl, hcc', hmc'⟩ := YC.here.form
        replace YF := hid YF
        replace YL := hid YL
        replace YR := hid YR
        have hA3 := hA.kp k3 (by omega)
        have hZ3 := hZ.kp k3 lz
        have lz3 := Nat.lt_of_lt_of_le lz k3.size
        clear c0 c1 c2 c3 c4 c5 c6 c7 c8 e0 e1 e2 e3 r4 hA hZ hB
        have c0 := (hA3).cell (j := 0) rfl
        have c1 := (hA3).cell (j := 1) rfl
        have c2 := (hA3).cell (j := 2) rfl
        have c3 := (hA3).cell (j := 3) rfl
        have c4 := (hA3).cell (j := 4) rfl
        have c5 := (hA3).cell (j := 5) rfl
        have c6 := (hA3).cell (j := 6) rfl
        have c7 := (hA3).cell (j := 7) rfl
        have c8 := (hA3).cell (j := 8) rfl
        have f0 := (hA3).free (j := 0) (by simp)
        have f1 := (hA3).free (j := 1) (by simp)
        have f2 := (hA3).free (j := 2) (by simp)
        have f3 := (hA3).free (j := 3) (by simp)
        have f4 := (hA3).free (j := 4) (by simp)
        have f5 := (hA3).free (j := 5) (by simp)
        have f6 := (hA3).free (j := 6) (by simp)
        have f7 := (hA3).free (j := 7) (by simp)
        have f8 := (hA3).free (j := 8) (by simp)
        go_upto_region 12 with (fail)
        have kS := Kp.setCells (by omega : w.heap.size ≤ b0) [.int .i64 s'.reps, .int .i64 s'.tick, .slice Af' s'.fates.length cf', .slice Al' css'.length cl', .slice Ac' s'.cuts.length cc', .int .i64 s'.sent, .int .i64 s'.delivered, .int .i64 s'.lost, .int .i64 s'.made] 0 _ (kk.trans k3)
        have kg := Kg.setCells (g := b0) [.int .i64 s'.reps, .int .i64 s'.tick, .slice Af' s'.fates.length cf', .slice Al' css'.length cl', .slice Ac' s'.cuts.length cc', .int .i64 s'.sent, .int .i64 s'.delivered, .int .i64 s'.lost, .int .i64 s'.made] 0 _ (Kg.refl w3 b0)
        have hA4 := hA3.all (cs := [.int .i64 s'.reps, .int .i64 s'.tick, .slice Af' s'.fates.length cf', .slice Al' css'.length cl', .slice Ac' s'.cuts.length cc', .int .i64 s'.sent, .int .i64 s'.delivered, .int .i64 s'.lost, .int .i64 s'.made]) rfl
        have hZ4 := hZ3.kg kg lz3 (by omega)
        have lz4 := Nat.lt_of_lt_of_le lz3 kg.size
        clear c0 c1 c2 c3 c4 c5 c6 c7 c8 f0 f1 f2 f3 f4 f5 f6 f7 f8 hA3 hZ3
        change Code.wp _ _ _ _ (w3.setCells b0 0 [.int .i64 s'.reps, .int .i64 s'.tick, .slice Af' s'.fates.length cf', .slice Al' css'.length cl', .slice Ac' s'.cuts.length cc', .int .i64 s'.sent, .int .i64 s'.delivered, .int .i64 s'.lost, .int .i64 s'.made])
        generalize w3.setCells b0 0 [.int .i64 s'.reps, .int .i64 s'.tick, .slice Af' s'.fates.length cf', .slice Al' css'.length cl', .slice Ac' s'.cuts.length cc', .int .i64 s'.sent, .int .i64 s'.delivered, .int .i64 s'.lost, .int .i64 s'.made] = w4 at *
        have lb4 : b0 < w4.heap.size := by omega
        replace hi := hid hi
        have c0 := (hA4).cell (j := 0) rfl
        have c1 := (hA4).cell (j := 1) rfl
        have c2 := (hA4).cell (j := 2) rfl
        have c3 := (hA4).cell (j := 3) rfl
        have c4 := (hA4).cell (j := 4) rfl
        have c5 := (hA4).cell (j := 5) rfl
        have c6 := (hA4).cell (j := 6) rfl
        have c7 := (hA4).cell (j := 7) rfl
        have c8 := (hA4).cell (j := 8) rfl
        have d0 := (hZ4).cell (j := 0) rfl
        have d1 := (hZ4).cell (j := 1) rfl
        have d2 := (hZ4).cell (j := 2) rfl
        have d3 := (hZ4).cell (j := 3) rfl
        have d4 := (hZ4).cell (j := 4) rfl
        have d5 := (hZ4).cell (j := 5) rfl
        have d6 := (hZ4).cell (j := 6) rfl
        have d7 := (hZ4).cell (j := 7) rfl
        have d8 := (hZ4).cell (j := 8) rfl
        have f0 := (hZ4).free (j := 0) (by simp)
        have f1 := (hZ4).free (j := 1) (by simp)
        have f2 := (hZ4).free (j := 2) (by simp)
        have f3 := (hZ4).free (j := 3) (by simp)
        have f4 := (hZ4).free (j := 4) (by simp)
        have f5 := (hZ4).free (j := 5) (by simp)
        have f6 := (hZ4).free (j := 6) (by simp)
        have f7 := (hZ4).free (j := 7) (by simp)
        have f8 := (hZ4).free (j := 8) (by simp)
        go_wp2
        refine bodyPost_ret (results_cell_bx3 rfl _ _ (b0 + 2) [.int .i64 s'.reps, .int .i64 s'.tick, .slice Af' s'.fates.length cf', .slice Al' css'.length cl', .slice Ac' s'.cuts.length cc', .int .i64 s'.sent, .int .i64 s'.delivered, .int .i64 s'.lost, .int .i64 s'.made] _ rfl (hZ4.all (cs := [.int .i64 s'.reps, .int .i64 s'.tick, .slice Af' s'.fates.length cf', .slice Al' css'.length cl', .slice Ac' s'.cuts.length cc', .int .i64 s'.sent, .int .i64 s'.delivered, .int .i64 s'.lost, .int .i64 s'.made]) rfl).range Try.underlying66 rfl (by kernel_rfl)) rfl ?_
        have kF := Kp.setCells (by omega : w.heap.size ≤ b0 + 2) [.int .i64 s'.reps, .int .i64 s'.tick, .slice Af' s'.fates.length cf', .slice Al' css'.length cl', .slice Ac' s'.cuts.length cc', .int .i64 s'.sent, .int .i64 s'.delivered, .int .i64 s'.lost, .int .i64 s'.made] 0 _ kS
        have kg5 := Kg.setCells (g := b0 + 2) [.int .i64 s'.reps, .int .i64 s'.tick, .slice Af' s'.fates.length cf', .slice Al' css'.length cl', .slice Ac' s'.cuts.length cc', .int .i64 s'.sent, .int .i64 s'.delivered, .int .i64 s'.lost, .int .i64 s'.made] 0 _ (Kg.refl w4 (b0 + 2))
        have n0 : ¬ ((T b0 ∧ b0 < b0) ∨ w2.heap.size ≤ b0) := fun h => by rcases h with h | h <;> omega
        have n2 : ¬ ((T (b0 + 2) ∧ b0 + 2 < b0) ∨ w2.heap.size ≤ b0 + 2) := fun h => by rcases h with h | h <;> omega
        have hU : ∀ i, ((T i ∧ i < b0) ∨ w2.heap.size ≤ i) → (T i ∨ w.heap.size ≤ i) := fun i h => by
          rcases h with h | h
          · exact .inl h.1
          · exact .inr (by omega)
        exact ⟨_, _, by rw [HF.out]; rfl, by rw [HF.out]; exact ⟨_, _, _, _, rfl, YF.out, YL.out, YR.out, ((YO.kg kg n0).kg kg5 n2).mono hU, ((YC.kg kg n0).kg kg5 n2).mono hU⟩, by rw [HF.out]; exact MsX.nil _ _ _, kF⟩
      · have q2 : (kd == 2) = false := beq_false_of_ne h2
        by_cases h3 : kd = 3
        · have HF : Hid (R = ((cutR s xa xb false).1, [], (cutR s xa xb false).2)) := hid (by rw [← HR.out, doR, if_neg h0, if_neg h1, if_neg h2, if_pos h3])
          have q3 : (kd == 3) = true := by simpa using h3
          replace h0 := hid h0
          replace h1 := hid h1
          replace h2 := hid h2
          replace h3 := hid h3
          clear HR
          go_wp2_with fail
          refine (qCutR_any wE _ _ s xa xb false w2 HE2.out HT2.out HOK.out.cuts).mono ?_
          rintro e w3 ⟨v, rfl, hst, k3⟩
          generalize cutR s xa xb false = r at *
          obtain ⟨s', er⟩ := r
          dsimp only at hst HF
          obtain ⟨vf', vl', vc', css', rfl, YF, YL, YR, YO, YC⟩ := hst
          obtain ⟨Af', cf', rfl, hcf', hmf'⟩ := YF.form
          obtain ⟨Al', cl', rfl, hcl', hml'⟩ := YO.here.form
          obtain ⟨Ac', cc', rfl, hcc', hmc'⟩ := YC.here.form
          replace YF := hid YF
          replace YL := hid YL
          replace YR := hid YR
          have hA3 := hA.kp k3 (by omega)
          have hZ3 := hZ.kp k3 lz
          have lz3 := Nat.lt_of_lt_of_le lz k3.size
          clear c0 c1 c2 c3 c4 c5 c6 c7 c8 e0 e1 e2 e3 r4 hA hZ hB
          have c0 := (hA3).cell (j := 0) rfl
          have c1 := (hA3).cell (j := 1) rfl
          have c2 := (hA3).cell (j := 2) rfl
          have c3 := (hA3).cell (j := 3) rfl
          have c4 := (hA3).cell (j := 4) rfl
          have c5 := (hA3).cell (j := 5) rfl
          have c6 := (hA3).cell (j := 6) rfl
          have c7 := (hA3).cell (j := 7) rfl
          have c8 := (hA3).cell (j := 8) rfl
          have f0 := (hA3).free (j := 0) (by simp)
          have f1 := (hA3).free (j := 1) (by simp)
          have f2 := (hA3).free (j := 2) (by simp)
          have f3 := (hA3).free (j := 3) (by simp)
          have f4 := (hA3).free (j := 4) (by simp)
          have f5 := (hA3).free (j := 5) (by simp)
          have f6 := (hA3).free (j := 6) (by simp)
          have f7 := (hA3).free (j := 7) (by simp)
          have f8 := (hA3).free (j := 8) (by simp)
          go_upto_region 12 with (fail)
          have kS := Kp.setCells (by omega : w.heap.size ≤ b0) [.int .i64 s'.reps, .int .i64 s'.tick, .slice Af' s'.fates.length cf', .slice Al' css'.length cl', .slice Ac' s'.cuts.length cc', .int .i64 s'.sent, .int .i64 s'.delivered, .int .i64 s'.lost, .int .i64 s'.made] 0 _ (kk.trans k3)
          have kg := Kg.setCells (g := b0) [.int .i64 s'.reps, .int .i64 s'.tick, .slice Af' s'.fates.length cf', .slice Al' css'.length cl', .slice Ac' s'.cuts.length cc', .int .i64 s'.sent, .int .i64 s'.delivered, .int .i64 s'.lost, .int .i64 s'.made] 0 _ (Kg.refl w3 b0)
          have hA4 := hA3.all (cs := [.int .i64 s'.reps, .int .i64 s'.tick, .slice Af' s'.fates.length cf', .slice Al' css'.length cl', .slice Ac' s'.cuts.length cc', .int .i64 s'.sent, .int .i64 s'.delivered, .int .i64 s'.lost, .int .i64 s'.made]) rfl
          have hZ4 := hZ3.kg kg lz3 (by omega)
          have lz4 := Nat.lt_of_lt_of_le lz3 kg.size
          clear c0 c1 c2 c3 c4 c5 c6 c7 c8 f0 f1 f2 f3 f4 f5 f6 f7 f8 hA3 hZ3
          change Code.wp _ _ _ _ (w3.setCells b0 0 [.int .i64 s'.reps, .int .i64 s'.tick, .slice Af' s'.fates.length cf', .slice Al' css'.length cl', .slice Ac' s'.cuts.length cc', .int .i64 s'.sent, .int .i64 s'.delivered, .int .i64 s'.lost, .int .i64 s'.made])
          generalize w3.setCells b0 0 [.int .i64 s'.reps, .int .i64 s'.tick, .slice Af' s'.fates.length cf', .slice Al' css'.length cl', .slice Ac' s'.cuts.length cc', .int .i64 s'.sent, .int .i64 s'.delivered, .int .i64 s'.lost, .int .i64 s'.made] = w4 at *
          have lb4 : b0 < w4.heap.size := by omega
          replace hi := hid hi
          have c0 := (hA4).cell (j := 0) rfl
          have c1 := (hA4).cell (j := 1) rfl
          have c2 := (hA4).cell (j := 2) rfl
          have c3 := (hA4).cell (j := 3) rfl
          have c4 := (hA4).cell (j := 4) rfl
          have c5 := (hA4).cell (j := 5) rfl
          have c6 := (hA4).cell (j := 6) rfl
          have c7 := (hA4).cell (j := 7) rfl
          have c8 := (hA4).cell (j := 8) rfl
          have d0 := (hZ4).cell (j := 0) rfl
          have d1 := (hZ4).cell (j := 1) rfl
          have d2 := (hZ4).cell (j := 2) rfl
          have d3 := (hZ4).cell (j := 3) rfl
          have d4 := (hZ4).cell (j := 4) rfl
          have d5 := (hZ4).cell (j := 5) rfl
          have d6 := (hZ4).cell (j := 6) rfl
          have d7 := (hZ4).cell (j := 7) rfl
          have d8 := (hZ4).cell (j := 8) rfl
          have f0 := (hZ4).free (j := 0) (by simp)
          have f1 := (hZ4).free (j := 1) (by simp)
          have f2 := (hZ4).free (j := 2) (by simp)
          have f3 := (hZ4).free (j := 3) (by simp)
          have f4 := (hZ4).free (j := 4) (by simp)
          have f5 := (hZ4).free (j := 5) (by simp)
          have f6 := (hZ4).free (j := 6) (by simp)
          have f7 := (hZ4).free (j := 7) (by simp)
          have f8 := (hZ4).free (j := 8) (by simp)
          go_wp2
          refine bodyPost_ret (results_cell_bx3 rfl _ _ (b0 + 2) [.int .i64 s'.reps, .int .i64 s'.tick, .slice Af' s'.fates.length cf', .slice Al' css'.length cl', .slice Ac' s'.cuts.length cc', .int .i64 s'.sent, .int .i64 s'.delivered, .int .i64 s'.lost, .int .i64 s'.made] _ rfl (hZ4.all (cs := [.int .i64 s'.reps, .int .i64 s'.tick, .slice Af' s'.fates.length cf', .slice Al' css'.length cl', .slice Ac' s'.cuts.length cc', .int .i64 s'.sent, .int .i64 s'.delivered, .int .i64 s'.lost, .int .i64 s'.made]) rfl).range Try.underlying66 rfl (by kernel_rfl)) rfl ?_
          have kF := Kp.setCells (by omega : w.heap.size ≤ b0 + 2) [.int .i64 s'.reps, .int .i64 s'.tick, .slice Af' s'.fates.length cf', .slice Al' css'.length cl', .slice Ac' s'.cuts.length cc', .int .i64 s'.sent, .int .i64 s'.delivered, .int .i64 s'.lost, .int .i64 s'.made] 0 _ kS
          have kg5 := Kg.setCells (g := b0 + 2) [.int .i64 s'.reps, .int .i64 s'.tick, .slice Af' s'.fates.length cf', .slice Al' css'.length cl', .slice Ac' s'.cuts.length cc', .int .i64 s'.sent, .int .i64 s'.delivered, .int .i64 s'.lost, .int .i64 s'.made] 0 _ (Kg.refl w4 (b0 + 2))
          have n0 : ¬ ((T b0 ∧ b0 < b0) ∨ w2.heap.size ≤ b0) := fun h => by rcases h with h | h <;> omega
          have n2 : ¬ ((T (b0 + 2) ∧ b0 + 2 < b0) ∨ w2.heap.size ≤ b0 + 2) := fun h => by rcases h with h | h <;> omega
          have hU : ∀ i, ((T i ∧ i < b0) ∨ w2.heap.size ≤ i) → (T i ∨ w.heap.size ≤ i) := fun i h => by
            rcases h with h | h
            · exact .inl h.1
            · exact .inr (by omega)
          exact ⟨_, _, by rw [HF.out]; rfl, by rw [HF.out]; exact ⟨_, _, _, _, rfl, YF.out, YL.out, YR.out, ((YO.kg kg n0).kg kg5 n2).mono hU, ((YC.kg kg n0).kg kg5 n2).mono hU⟩, by rw [HF.out]; exact MsX.nil _ _ _, kF⟩
        · have HF : Hid (R = (s, [], 0)) := hid (by rw [← HR.out, doR, if_neg h0, if_neg h1, if_neg h2, if_neg h3])
          have q3 : (kd == 3) = false := beq_false_of_ne h3
          replace h0 := hid h0
          replace h1 := hid h1
          replace h2 := hid h2
          replace h3 := hid h3
          clear HR
          have d0 := (hZ).cell (j := 0) rfl
          have d1 := (hZ).cell (j := 1) rfl
          have d2 := (hZ).cell (j := 2) rfl
          have d3 := (hZ).cell (j := 3) rfl
          have d4 := (hZ).cell (j := 4) rfl
          have d5 := (hZ).cell (j := 5) rfl
          have d6 := (hZ).cell (j := 6) rfl
          have d7 := (hZ).cell (j := 7) rfl
          have d8 := (hZ).cell (j := 8) rfl
          have f0 := (hZ).free (j := 0) (by simp)
          have f1 := (hZ).free (j := 1) (by simp)
          have f2 := (hZ).free (j := 2) (by simp)
          have f3 := (hZ).free (j := 3) (by simp)
          have f4 := (hZ).free (j := 4) (by simp)
          have f5 := (hZ).free (j := 5) (by simp)
          have f6 := (hZ).free (j := 6) (by simp)
          have f7 := (hZ).free (j := 7) (by simp)
          have f8 := (hZ).free (j := 8) (by simp)
          go_wp2
          refine bodyPost_ret (results_cell_bx3 rfl _ _ (b0 + 2) [.int .i64 s.reps, .int .i64 s.tick, .slice Af s.fates.length cf, .slice Al s.flight.length cl, .slice Ac s.cuts.length cc, .int .i64 s.sent, .int .i64 s.delivered, .int .i64 s.lost, .int .i64 s.made] _ rfl (hZ.all (cs := [.int .i64 s.reps, .int .i64 s.tick, .slice Af s.fates.length cf, .slice Al s.flight.length cl, .slice Ac s.cuts.length cc, .int .i64 s.sent, .int .i64 s.delivered, .int .i64 s.lost, .int .i64 s.made]) rfl).range Try.underlying66 rfl (by kernel_rfl)) rfl ?_
          have kF := Kp.setCells (by omega : w.heap.size ≤ b0 + 2) [.int .i64 s.reps, .int .i64 s.tick, .slice Af s.fates.length cf, .slice Al s.flight.length cl, .slice Ac s.cuts.length cc, .int .i64 s.sent, .int .i64 s.delivered, .int .i64 s.lost, .int .i64 s.made] 0 _ kk
          exact ⟨_, _, by rw [HF.out]; rfl, by rw [HF.out]; exact (HXX.out.kp kF).mono fun _ h => .inl h, by rw [HF.out]; exact MsX.nil _ _ _, kF⟩
end Go.Proofs.Ytmokpnkpfodppaa
