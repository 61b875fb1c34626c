
/-
The reference's network: Send: the walk.
-/
import Derived.Test.YtmokpnkpfodppaaOpD
import Derived.Test.YtmokpnkpfodppaaRefB1
namespace Go.Proofs.Ytmokpnkpfodppaa
set_option linter.unusedSimpArgs false
set_option linter.unusedVariables false
open Go.RowKit

def lostR (s : RSt) (m : Message) : Bool := (fateR s).drop || !linkR s m.sender m.to
def cntR (s : RSt) (m : Message) : Nat := if lostR s m then 0 else if 0 < (fateR s).again then 2 else 1
def fullR (s : RSt) (m : Message) : Bool := decide (1024 ≤ s.flight.length) || decide (1024 < s.flight.length + cntR s m)
def sendQ (s : RSt) (m : Message) (t : Int) : RSt × Int :=
  if pairB s.reps m.sender m.to = false then (s, 1)
  else if lateB s.tick t then (s, 2)
  else if (encE (numMessage m)).2 ≠ 0 then (s, (encE (numMessage m)).2)
  else if fullR s m then (s, 8)
  else if lostR s m then ({ s with tick := t, sent := s.sent + 1, lost := s.lost + 1 }, 0)
  else ({ s with tick := t, sent := s.sent + 1, flight := s.flight ++ ([⟨t + (fateR s).delay, s.made, m⟩] ++ if cntR s m = 2 then [⟨t + (fateR s).again, s.made + 1, m⟩] else []), made := s.made + cntR s m }, 0)
/-- what bounds the reference's state -/
structure OkR (s : RSt) : Prop where
  tick : 0 ≤ s.tick ∧ s.tick ≤ 1048576
  sent : 0 ≤ s.sent ∧ s.sent ≤ 1000000
  delivered : 0 ≤ s.delivered ∧ s.delivered ≤ 1000000
  lost : 0 ≤ s.lost ∧ s.lost ≤ 1000000
  made : 0 ≤ s.made ∧ s.made ≤ 1000000
  fates : ∀ f ∈ s.fates, validF f = true
  flight : s.flight.length ≤ 1000000
  cuts : s.cuts.length ≤ 1000000
theorem fateR_valid {s : RSt} (h : OkR s) : validF (fateR s) = true := by
  unfold fateR
  split
  · rfl
  · rename_i hz
    have hk : s.sent.toNat % s.fates.length < s.fates.length := Nat.mod_lt _ (by omega)
    have : s.fates.getD (s.sent.toNat % s.fates.length) default = s.fates[s.sent.toNat % s.fates.length] := by simp [List.getD, hk]
    rw [this]
    exact h.fates _ (List.getElem_mem hk)
theorem read_app {α : Type} {size : Nat} {R : Rd α} {w : World} {css css2 : List (Elm size)} {xs xs2 : List α} (hl : css.length = xs.length) (h : ∀ k (h1 : k < css.length) (h2 : k < xs.length), R w css[k].val xs[k])
    (h' : ∀ k (h1 : k < css2.length) (h2 : k < xs2.length), R w css2[k].val xs2[k]) : ∀ k (h1 : k < (css ++ css2).length) (h2 : k < (xs ++ xs2).length), R w (css ++ css2)[k].val (xs ++ xs2)[k] := by
  intro k h1 h2
  rw [List.length_append] at h1 h2
  by_cases hk : k < css.length
  · rw [List.getElem_append_left hk, List.getElem_append_left (by omega)]
    exact h k hk (by omega)
  · rw [List.getElem_append_right (by omega), List.getElem_append_right (by omega)]
    have := h' (k - css.length) (by omega) (by omega)
    simpa [hl] using this
theorem read_one {α : Type} {size : Nat} {R : Rd α} {w : World} {c : Elm size} {x : α} (h : R w c.val x) : ∀ k (h1 : k < [c].length) (h2 : k < [x].length), R w [c][k].val [x][k] := by
  intro k h1 h2
  have : k = 0 := by simpa using h1
  subst this
  exact h
theorem encP20_one {w : World} {cs : List Value} {x : Cpy} (h : rdCpy w cs x) : ∀ u ∈ cs, u.oneCell' = true := (rdCpy_one h).2
theorem stCpyM : SliceT Try.prog 63 116 20 240 := SliceT.mk' Try.underlying63 (z := .agg (#[.int .i64 0, .int .i64 0] ++ #[.int .i64 0, .int .i64 0, .int .i64 0, .slice none 0 0, .slice none 0 0, .slice none 0 0, .int .i64 0, .int .i64 0, .int .i64 0, .int .i64 0, .int .i64 0, .slice none 0 0, .int .i64 0, .int .i64 0, .int .i64 0, .int .i64 0, .bool false, .slice none 0 0])) (by kernel_rfl) rfl (by omega)
set_option maxRecDepth 8000 in
set_option maxHeartbeats 3200000 in
theorem qSend_any (wE : World) (T : Nat → Prop) (vs val : Value) (s : RSt) (m : Message) (t : Int) (w : World) (kE : Kp wE w) (hX : StX wE T w vs s) (hok : OkR s) (hvE : MessageV wE val m) (hm : (numMessage m).length ≤ 100000) :
    Calls Try.prog 48 #[vs, val, .int .i64 t] w fun e w' => ∃ v, e = .returned (.tuple #[v, .int .i64 (sendQ s m t).2]) ∧ StX wE (fun i => T i ∨ w.heap.size ≤ i) w' v (sendQ s m t).1 ∧ Kp w w' := by
  have HXX := hid hX
  have HS := hX.stv kE
  have HVE := hid hvE
  have hv := hvE.kp kE
  clear hvE
  obtain ⟨vf, vl, vc, csx, rfl, XF, XL, XR, XO, XC⟩ := hX
  have hF := XF.keep (pl_stable _) kE
  have hL : Cpys w vl s.flight := sl_of XO.here XL fun i i1 i2 => rdCpy_stable _ _ _ _ kE (XR i i1 i2)
  have hC := XC.here
  obtain ⟨Af, cf, rfl, hcf, hmf⟩ := hF.form
  obtain ⟨Al, cl, rfl, hcl, hml⟩ := hL.form
  obtain ⟨Ac, cc, rfl, hcc, hmc⟩ := hC.form
  replace XF := hid XF
  replace XL := hid XL
  replace XR := hid XR
  replace XO := hid XO
  replace XC := hid XC
  have KE := hid kE
  clear kE
  obtain ⟨cs, rfl, hcs, h1c, hm1, hm2⟩ := hv.cells2
  have hA := Bx.new w #[.int .i64 s.reps, .int .i64 s.tick, .slice Af s.fates.length cf, .slice Al s.flight.length cl, .slice Ac s.cuts.length cc, .int .i64 s.sent, .int .i64 s.delivered, .int .i64 s.lost, .int .i64 s.made] 66
  have k0 := (Kp.refl w).alloc (.cells #[.int .i64 s.reps, .int .i64 s.tick, .slice Af s.fates.length cf, .slice Al s.flight.length cl, .slice Ac s.cuts.length cc, .int .i64 s.sent, .int .i64 s.delivered, .int .i64 s.lost, .int .i64 s.made] 66)
  have la := alloc_lt w (.cells #[.int .i64 s.reps, .int .i64 s.tick, .slice Af s.fates.length cf, .slice Al s.flight.length cl, .slice Ac s.cuts.length cc, .int .i64 s.sent, .int .i64 s.delivered, .int .i64 s.lost, .int .i64 s.made] 66)
  have hz : (w.alloc (.cells #[.int .i64 s.reps, .int .i64 s.tick, .slice Af s.fates.length cf, .slice Al s.flight.length cl, .slice Ac s.cuts.length cc, .int .i64 s.sent, .int .i64 s.delivered, .int .i64 s.lost, .int .i64 s.made] 66)).heap.size = w.heap.size + 1 := by simp
  have HM1 := hid hm1
  have HM2 := hid hm2
  have HCS := hid hcs
  have H1C := hid h1c
  have hi : Hid ((Try.prog.info? 34).map (·.size) = some cs.length) := hid (by rw [hcs]; kernel_rfl)
  generalize hR : sendQ s m t = R
  have HR := hid hR
  clear hR hm1 hm2 hcs h1c
  go_enter Try.func48, Try.ntmps48
  go_upto_region 1 with (fail)
  generalize hw0 : w.alloc (.cells #[.int .i64 s.reps, .int .i64 s.tick, .slice Af s.fates.length cf, .slice Al s.flight.length cl, .slice Ac s.cuts.length cc, .int .i64 s.sent, .int .i64 s.delivered, .int .i64 s.lost, .int .i64 s.made] 66) = w0 at *
  generalize hb0 : w.heap.size = b0 at *
  have hB : Bx (w0.alloc (.cells cs.toArray 34)) w0.heap.size cs := by simpa using Bx.new w0 cs.toArray 34
  have k1 := k0.alloc (.cells cs.toArray 34)
  have k1' := (Kp.refl w0).alloc (.cells cs.toArray 34)
  have lb := alloc_lt w0 (.cells cs.toArray 34)
  have hz1 : (w0.alloc (.cells cs.toArray 34)).heap.size = b0 + 2 := by simp [hz]
  rw [hz] at hB lb
  replace hA := hA.kp k1' la
  generalize hw1 : w0.alloc (.cells cs.toArray 34) = w1 at *
  have hZ := Bx.new w1 [.int .i64 0, .int .i64 0, .slice none 0 0, .slice none 0 0, .slice none 0 0, .int .i64 0, .int .i64 0, .int .i64 0, .int .i64 0].toArray 66
  have k2 := k1.alloc (.cells [.int .i64 0, .int .i64 0, .slice none 0 0, .slice none 0 0, .slice none 0 0, .int .i64 0, .int .i64 0, .int .i64 0, .int .i64 0].toArray 66)
  have k2' := (Kp.refl w1).alloc (.cells [.int .i64 0, .int .i64 0, .slice none 0 0, .slice none 0 0, .slice none 0 0, .int .i64 0, .int .i64 0, .int .i64 0, .int .i64 0].toArray 66)
  have lz := alloc_lt w1 (.cells [.int .i64 0, .int .i64 0, .slice none 0 0, .slice none 0 0, .slice none 0 0, .int .i64 0, .int .i64 0, .int .i64 0, .int .i64 0].toArray 66)
  rw [hz1] at hZ lz
  replace hA := hA.kp k2' (by omega)
  replace hB := hB.kp k2' lb
  generalize hw2 : w1.alloc (.cells [.int .i64 0, .int .i64 0, .slice none 0 0, .slice none 0 0, .slice none 0 0, .int .i64 0, .int .i64 0, .int .i64 0, .int .i64 0].toArray 66) = w2 at *
  simp only [List.toList_toArray] at hA hZ
  have hwb : w.heap.size = b0 := hb0
  clear k0 k1 k1' k2' hz hz1 hw0 hw1 hw2 la lb
  have c0 := (hA).cell (j := 0) rfl
  have c1 := (hA).cell (j := 1) rfl
  have c2 := (hA).cell (j := 2) rfl
  have c3 := (hA).cell (j := 3) rfl
  have c4 := (hA).cell (j := 4) rfl
  have c5 := (hA).cell (j := 5) rfl
  have c6 := (hA).cell (j := 6) rfl
  have c7 := (hA).cell (j := 7) rfl
  have c8 := (hA).cell (j := 8) rfl
  have e1 := hB.cell HM1.out
  have e2 := hB.cell HM2.out
  go_wp2_with fail
  refine (qEnds_any _ s m.sender m.to _ (HS.kp k2)).mono ?_
  rintro e w3 ⟨rfl, k3⟩
  have kk := k2.trans k3
  replace hA := hA.kp k3 (by omega)
  replace hB := hB.kp k3 (by omega)
  replace hZ := hZ.kp k3 lz
  have lz3 := Nat.lt_of_lt_of_le lz k3.size
  clear c0 c1 c2 c3 c4 c5 c6 c7 c8 e1 e2 k2 k3 lz
  cases hp : pairB s.reps m.sender m.to with
  | false =>
    have HF : Hid (R = (s, 1)) := hid (by rw [← HR.out, sendQ]; simp [*])
    have c0 := (hA).cell (j := 0) rfl
    have c1 := (hA).cell (j := 1) rfl
    have c2 := (hA).cell (j := 2) rfl
    have c3 := (hA).cell (j := 3) rfl
    have c4 := (hA).cell (j := 4) rfl
    have c5 := (hA).cell (j := 5) rfl
    have c6 := (hA).cell (j := 6) rfl
    have c7 := (hA).cell (j := 7) rfl
    have c8 := (hA).cell (j := 8) rfl
    have d0 := (hZ).cell (j := 0) rfl
    have d1 := (hZ).cell (j := 1) rfl
    have d2 := (hZ).cell (j := 2) rfl
    have d3 := (hZ).cell (j := 3) rfl
    have d4 := (hZ).cell (j := 4) rfl
    have d5 := (hZ).cell (j := 5) rfl
    have d6 := (hZ).cell (j := 6) rfl
    have d7 := (hZ).cell (j := 7) rfl
    have d8 := (hZ).cell (j := 8) rfl
    have f0 := (hZ).free (j := 0) (by simp)
    have f1 := (hZ).free (j := 1) (by simp)
    have f2 := (hZ).free (j := 2) (by simp)
    have f3 := (hZ).free (j := 3) (by simp)
    have f4 := (hZ).free (j := 4) (by simp)
    have f5 := (hZ).free (j := 5) (by simp)
    have f6 := (hZ).free (j := 6) (by simp)
    have f7 := (hZ).free (j := 7) (by simp)
    have f8 := (hZ).free (j := 8) (by simp)
    go_wp2
    refine bodyPost_ret (results_cell_bx2 rfl _ _ (b0 + 2) [.int .i64 s.reps, .int .i64 s.tick, .slice Af s.fates.length cf, .slice Al s.flight.length cl, .slice Ac s.cuts.length cc, .int .i64 s.sent, .int .i64 s.delivered, .int .i64 s.lost, .int .i64 s.made] _ rfl (hZ.all (cs := [.int .i64 s.reps, .int .i64 s.tick, .slice Af s.fates.length cf, .slice Al s.flight.length cl, .slice Ac s.cuts.length cc, .int .i64 s.sent, .int .i64 s.delivered, .int .i64 s.lost, .int .i64 s.made]) rfl).range Try.underlying66 rfl (by kernel_rfl)) rfl ?_
    have kF := Kp.setCells (by omega : w.heap.size ≤ b0 + 2) [.int .i64 s.reps, .int .i64 s.tick, .slice Af s.fates.length cf, .slice Al s.flight.length cl, .slice Ac s.cuts.length cc, .int .i64 s.sent, .int .i64 s.delivered, .int .i64 s.lost, .int .i64 s.made] 0 _ kk
    exact ⟨_, by rw [HF.out]; rfl, by rw [HF.out]; exact (HXX.out.kp kF).mono fun _ h => .inl h, kF⟩
  | true =>
    cases hlt : lateB s.tick t with
    | true =>
      by_cases q1 : t < s.tick
      · have e1 : decide (t < s.tick) = true := decide_eq_true q1
        have HF : Hid (R = (s, 2)) := hid (by rw [← HR.out, sendQ]; simp [*])
        have c0 := (hA).cell (j := 0) rfl
        have c1 := (hA).cell (j := 1) rfl
        have c2 := (hA).cell (j := 2) rfl
        have c3 := (hA).cell (j := 3) rfl
        have c4 := (hA).cell (j := 4) rfl
        have c5 := (hA).cell (j := 5) rfl
        have c6 := (hA).cell (j := 6) rfl
        have c7 := (hA).cell (j := 7) rfl
        have c8 := (hA).cell (j := 8) rfl
        have d0 := (hZ).cell (j := 0) rfl
        have d1 := (hZ).cell (j := 1) rfl
        have d2 := (hZ).cell (j := 2) rfl
        have d3 := (hZ).cell (j := 3) rfl
        have d4 := (hZ).cell (j := 4) rfl
        have d5 := (hZ).cell (j := 5) rfl
        have d6 := (hZ).cell (j := 6) rfl
        have d7 := (hZ).cell (j := 7) rfl
        have d8 := (hZ).cell (j := 8) rfl
        have f0 := (hZ).free (j := 0) (by simp)
        have f1 := (hZ).free (j := 1) (by simp)
        have f2 := (hZ).free (j := 2) (by simp)
        have f3 := (hZ).free (j := 3) (by simp)
        have f4 := (hZ).free (j := 4) (by simp)
        have f5 := (hZ).free (j := 5) (by simp)
        have f6 := (hZ).free (j := 6) (by simp)
        have f7 := (hZ).free (j := 7) (by simp)
        have f8 := (hZ).free (j := 8) (by simp)
        go_wp2
        refine bodyPost_ret (results_cell_bx2 rfl _ _ (b0 + 2) [.int .i64 s.reps, .int .i64 s.tick, .slice Af s.fates.length cf, .slice Al s.flight.length cl, .slice Ac s.cuts.length cc, .int .i64 s.sent, .int .i64 s.delivered, .int .i64 s.lost, .int .i64 s.made] _ rfl (hZ.all (cs := [.int .i64 s.reps, .int .i64 s.tick, .slice Af s.fates.length cf, .slice Al s.flight.length cl, .slice Ac s.cuts.length cc, .int .i64 s.sent, .int .i64 s.delivered, .int .i64 s.lost, .int .i64 s.made]) rfl).range Try.underlying66 rfl (by kernel_rfl)) rfl ?_
        have kF := Kp.setCells (by omega : w.heap.size ≤ b0 + 2) [.int .i64 s.reps, .int .i64 s.tick, .slice Af s.fates.length cf, .slice Al s.flight.length cl, .slice Ac s.cuts.length cc, .int .i64 s.sent, .int .i64 s.delivered, .int .i64 s.lost, .int .i64 s.made] 0 _ kk
        exact ⟨_, by rw [HF.out]; rfl, by rw [HF.out]; exact (HXX.out.kp kF).mono fun _ h => .inl h, kF⟩
      · have e1 : decide (t < s.tick) = false := decide_eq_false q1
        have e2 : decide (1048576 < t) = true := by
          have := hlt
          rw [lateB, e1] at this
          simpa using this
        have HF : Hid (R = (s, 2)) := hid (by rw [← HR.out, sendQ]; simp [*])
        have c0 := (hA).cell (j := 0) rfl
        have c1 := (hA).cell (j := 1) rfl
        have c2 := (hA).cell (j := 2) rfl
        have c3 := (hA).cell (j := 3) rfl
        have c4 := (hA).cell (j := 4) rfl
        have c5 := (hA).cell (j := 5) rfl
        have c6 := (hA).cell (j := 6) rfl
        have c7 := (hA).cell (j := 7) rfl
        have c8 := (hA).cell (j := 8) rfl
        have d0 := (hZ).cell (j := 0) rfl
        have d1 := (hZ).cell (j := 1) rfl
        have d2 := (hZ).cell (j := 2) rfl
        have d3 := (hZ).cell (j := 3) rfl
        have d4 := (hZ).cell (j := 4) rfl
        have d5 := (hZ).cell (j := 5) rfl
        have d6 := (hZ).cell (j := 6) rfl
        have d7 := (hZ).cell (j := 7) rfl
        have d8 := (hZ).cell (j := 8) rfl
        have f0 := (hZ).free (j := 0) (by simp)
        have f1 := (hZ).free (j := 1) (by simp)
        have f2 := (hZ).free (j := 2) (by simp)
        have f3 := (hZ).free (j := 3) (by simp)
        have f4 := (hZ).free (j := 4) (by simp)
        have f5 := (hZ).free (j := 5) (by simp)
        have f6 := (hZ).free (j := 6) (by simp)
        have f7 := (hZ).free (j := 7) (by simp)
        have f8 := (hZ).free (j := 8) (by simp)
        go_wp2
        refine bodyPost_ret (results_cell_bx2 rfl _ _ (b0 + 2) [.int .i64 s.reps, .int .i64 s.tick, .slice Af s.fates.length cf, .slice Al s.flight.length cl, .slice Ac s.cuts.length cc, .int .i64 s.sent, .int .i64 s.delivered, .int .i64 s.lost, .int .i64 s.made] _ rfl (hZ.all (cs := [.int .i64 s.reps, .int .i64 s.tick, .slice Af s.fates.length cf, .slice Al s.flight.length cl, .slice Ac s.cuts.length cc, .int .i64 s.sent, .int .i64 s.delivered, .int .i64 s.lost, .int .i64 s.made]) rfl).range Try.underlying66 rfl (by kernel_rfl)) rfl ?_
        have kF := Kp.setCells (by omega : w.heap.size ≤ b0 + 2) [.int .i64 s.reps, .int .i64 s.tick, .slice Af s.fates.length cf, .slice Al s.flight.length cl, .slice Ac s.cuts.length cc, .int .i64 s.sent, .int .i64 s.delivered, .int .i64 s.lost, .int .i64 s.made] 0 _ kk
        exact ⟨_, by rw [HF.out]; rfl, by rw [HF.out]; exact (HXX.out.kp kF).mono fun _ h => .inl h, kF⟩
    | false =>
      have HL := hid hlt
      have HG : Hid (R = if (encE (numMessage m)).2 ≠ 0 then (s, (encE (numMessage m)).2) else if fullR s m then (s, 8) else if lostR s m then ({ s with tick := t, sent := s.sent + 1, lost := s.lost + 1 }, 0)
          else ({ s with tick := t, sent := s.sent + 1, flight := s.flight ++ ([⟨t + (fateR s).delay, s.made, m⟩] ++ if cntR s m = 2 then [⟨t + (fateR s).again, s.made + 1, m⟩] else []), made := s.made + cntR s m }, 0)) := hid (by rw [← HR.out, sendQ, if_neg (by rw [hp]; simp), if_neg (by rw [hlt]; simp)])
      simp only [lateB, Bool.or_eq_false_iff] at hlt
      obtain ⟨e1, e2⟩ := hlt
      have HP := hid hp
      clear HR hp
      have c0 := (hA).cell (j := 0) rfl
      have c1 := (hA).cell (j := 1) rfl
      have c2 := (hA).cell (j := 2) rfl
      have c3 := (hA).cell (j := 3) rfl
      have c4 := (hA).cell (j := 4) rfl
      have c5 := (hA).cell (j := 5) rfl
      have c6 := (hA).cell (j := 6) rfl
      have c7 := (hA).cell (j := 7) rfl
      have c8 := (hA).cell (j := 8) rfl
      go_wp2_with (refine wpList_load_mid rfl 34 (.tmp 4) rfl (b0 + 1) 0 rfl cs _ hB.range Try.underlying34 rfl hi.out ?_)
      refine (nMessage_any _ m _ (hv.kp kk) (by omega)).mono ?_
      rintro e w4 ⟨v4, rfl, own4, k4⟩
      go_wp2_with fail
      refine (rEncode_any _ _ _ (own4.sl encInt_len) hm).mono ?_
      rintro e w5 ⟨rfl, k5⟩
      have k45 := k4.trans k5
      replace kk := kk.trans k45
      replace hA := hA.kp k45 (by omega)
      replace hB := hB.kp k45 (by omega)
      replace hZ := hZ.kp k45 lz3
      have lz5 := Nat.lt_of_lt_of_le lz3 k45.size
      clear c0 c1 c2 c3 c4 c5 c6 c7 c8 k4 k5 k45 own4 lz3
      generalize encE (numMessage m) = r at *
      obtain ⟨data, er⟩ := r
      dsimp only at HG
      by_cases he : er = 0
      · subst he
        have HG2 := hid (HG.out.trans (if_neg (by simp)))
        have HN0 := hid (fateR_valid hok)
        clear HG
        have hsp0 := hok.sent.1
        have hsp1 := hok.sent.2
        have hlp0 := hok.lost.1
        have hlp1 := hok.lost.2
        have hmp0 := hok.made.1
        have hmp1 := hok.made.2
        have hlf := hok.flight
        have c0 := (hA).cell (j := 0) rfl
        have c1 := (hA).cell (j := 1) rfl
        have c2 := (hA).cell (j := 2) rfl
        have c3 := (hA).cell (j := 3) rfl
        have c4 := (hA).cell (j := 4) rfl
        have c5 := (hA).cell (j := 5) rfl
        have c6 := (hA).cell (j := 6) rfl
        have c7 := (hA).cell (j := 7) rfl
        have c8 := (hA).cell (j := 8) rfl
        go_wp2_with fail
        refine (qFateR_any _ s _ (HS.kp kk) hsp0).mono ?_
        rintro e w6 ⟨rfl, k6⟩
        have HV := hid (validF_bounds HN0.out)
        have HLo : Hid (lostR s m = ((fateR s).drop || !linkR s m.sender m.to)) := hid rfl
        have HCn : Hid (cntR s m = if lostR s m then 0 else if 0 < (fateR s).again then 2 else 1) := hid rfl
        have HU : Hid (fullR s m = (decide (1024 ≤ s.flight.length) || decide (1024 < s.flight.length + cntR s m))) := hid rfl
        clear HN0
        generalize fateR s = f at *
        obtain ⟨d, y, g⟩ := f
        dsimp only at HG2 HV HLo HCn
        have k7 := (Kp.refl w6).alloc (.cells #[.bool d, .int .i64 y, .int .i64 g] 47)
        have hT := Bx.new w6 #[.bool d, .int .i64 y, .int .i64 g] 47
        have lt7 := alloc_lt w6 (.cells #[.bool d, .int .i64 y, .int .i64 g] 47)
        have k67 := k6.trans k7
        replace kk := kk.trans k67
        replace hA := hA.kp k67 (by omega)
        replace hB := hB.kp k67 (by omega)
        replace hZ := hZ.kp k67 lz5
        have hbf : b0 + 2 < w6.heap.size := Nat.lt_of_lt_of_le lz5 k6.size
        have lz7 := Nat.lt_of_lt_of_le lz5 k67.size
        clear c0 c1 c2 c3 c4 c5 c6 c7 c8 k6 k7 k67 lz5
        go_upto_region 9 with (fail)
        generalize w6.alloc (.cells #[.bool d, .int .i64 y, .int .i64 g] 47) = w7 at *
        generalize w6.heap.size = bf at *
        have c0 := (hA).cell (j := 0) rfl
        have c1 := (hA).cell (j := 1) rfl
        have c2 := (hA).cell (j := 2) rfl
        have c3 := (hA).cell (j := 3) rfl
        have c4 := (hA).cell (j := 4) rfl
        have c5 := (hA).cell (j := 5) rfl
        have c6 := (hA).cell (j := 6) rfl
        have c7 := (hA).cell (j := 7) rfl
        have c8 := (hA).cell (j := 8) rfl
        have e6 := hB.cell HM1.out
        have e7 := hB.cell HM2.out
        have t0 := hT.cell (j := 0) rfl
        have t1 := hT.cell (j := 1) rfl
        have t2 := hT.cell (j := 2) rfl
        cases d with
        | true =>
          have HLt : Hid (lostR s m = true) := hid (by rw [HLo.out]; rfl)
          have HC0 : Hid (cntR s m = 0) := hid (by rw [HCn.out, if_pos HLt.out])
          by_cases q3 : 1024 ≤ s.flight.length
          · have e8 : decide (1024 ≤ (s.flight.length : Int)) = true := decide_eq_true (by omega)
            have HF : Hid (R = (s, 8)) := hid (HG2.out.trans (if_pos (by rw [HU.out]; simp [*])))
            have d0 := (hZ).cell (j := 0) rfl
            have d1 := (hZ).cell (j := 1) rfl
            have d2 := (hZ).cell (j := 2) rfl
            have d3 := (hZ).cell (j := 3) rfl
            have d4 := (hZ).cell (j := 4) rfl
            have d5 := (hZ).cell (j := 5) rfl
            have d6 := (hZ).cell (j := 6) rfl
            have d7 := (hZ).cell (j := 7) rfl
            have d8 := (hZ).cell (j := 8) rfl
            have f0 := (hZ).free (j := 0) (by simp)
            have f1 := (hZ).free (j := 1) (by simp)
            have f2 := (hZ).free (j := 2) (by simp)
            have f3 := (hZ).free (j := 3) (by simp)
            have f4 := (hZ).free (j := 4) (by simp)
            have f5 := (hZ).free (j := 5) (by simp)
            have f6 := (hZ).free (j := 6) (by simp)
            have f7 := (hZ).free (j := 7) (by simp)
            have f8 := (hZ).free (j := 8) (by simp)
            go_wp2
            refine bodyPost_ret (results_cell_bx2 rfl _ _ (b0 + 2) [.int .i64 s.reps, .int .i64 s.tick, .slice Af s.fates.length cf, .slice Al s.flight.length cl, .slice Ac s.cuts.length cc, .int .i64 s.sent, .int .i64 s.delivered, .int .i64 s.lost, .int .i64 s.made] _ rfl (hZ.all (cs := [.int .i64 s.reps, .int .i64 s.tick, .slice Af s.fates.length cf, .slice Al s.flight.length cl, .slice Ac s.cuts.length cc, .int .i64 s.sent, .int .i64 s.delivered, .int .i64 s.lost, .int .i64 s.made]) rfl).range Try.underlying66 rfl (by kernel_rfl)) rfl ?_
            have kF := Kp.setCells (by omega : w.heap.size ≤ b0 + 2) [.int .i64 s.reps, .int .i64 s.tick, .slice Af s.fates.length cf, .slice Al s.flight.length cl, .slice Ac s.cuts.length cc, .int .i64 s.sent, .int .i64 s.delivered, .int .i64 s.lost, .int .i64 s.made] 0 _ kk
            exact ⟨_, by rw [HF.out]; rfl, by rw [HF.out]; exact (HXX.out.kp kF).mono fun _ h => .inl h, kF⟩
          · have e8 : decide (1024 ≤ (s.flight.length : Int)) = false := decide_eq_false (by omega)
            have e9 : decide (1024 < (s.flight.length : Int)) = false := decide_eq_false (by omega)
            have HF : Hid (R = ({ s with tick := t, sent := s.sent + 1, lost := s.lost + 1 }, 0)) := hid (HG2.out.trans ((if_neg (by rw [HU.out, HC0.out]; simp; omega)).trans (if_pos HLt.out)))
            replace q3 := hid q3
            clear HG2 HCn HU HV
            have ff1 := hA.free (j := 1) (by simp)
            have ff5 := hA.free (j := 5) (by simp)
            have ff7 := hA.free (j := 7) (by simp)
            go_upto_region 21 with (fail)
            have kS := ((kk.set (p := ⟨b0, 1, none⟩) (by show w.heap.size ≤ b0; omega) (.int .i64 t)).set (p := ⟨b0, 5, none⟩) (by show w.heap.size ≤ b0; omega) (.int .i64 (s.sent + 1))).set (p := ⟨b0, 7, none⟩) (by show w.heap.size ≤ b0; omega) (.int .i64 (s.lost + 1))
            have kg := (((Kg.refl w7 b0).set (p := ⟨b0, 1, none⟩) (.inl rfl) (.int .i64 t)).set (p := ⟨b0, 5, none⟩) (.inl rfl) (.int .i64 (s.sent + 1))).set (p := ⟨b0, 7, none⟩) (.inl rfl) (.int .i64 (s.lost + 1))
            have hA5 := ((hA.set (j := 1) (by simp) (.int .i64 t)).set (j := 5) (by simp) (.int .i64 (s.sent + 1))).set (j := 7) (by simp) (.int .i64 (s.lost + 1))
            have hZ5 := hZ.kg kg lz7 (by omega)
            clear c0 c1 c2 c3 c4 c5 c6 c7 c8 e6 e7 t0 t1 t2 ff1 ff5 ff7 kg hA hZ hB hT
            generalize World.setCell _ ⟨b0, 7, none⟩ (.int .i64 (s.lost + 1)) = w9 at *
            have c0 := (hA5).cell (j := 0) rfl
            have c1 := (hA5).cell (j := 1) rfl
            have c2 := (hA5).cell (j := 2) rfl
            have c3 := (hA5).cell (j := 3) rfl
            have c4 := (hA5).cell (j := 4) rfl
            have c5 := (hA5).cell (j := 5) rfl
            have c6 := (hA5).cell (j := 6) rfl
            have c7 := (hA5).cell (j := 7) rfl
            have c8 := (hA5).cell (j := 8) rfl
            have d0 := (hZ5).cell (j := 0) rfl
            have d1 := (hZ5).cell (j := 1) rfl
            have d2 := (hZ5).cell (j := 2) rfl
            have d3 := (hZ5).cell (j := 3) rfl
            have d4 := (hZ5).cell (j := 4) rfl
            have d5 := (hZ5).cell (j := 5) rfl
            have d6 := (hZ5).cell (j := 6) rfl
            have d7 := (hZ5).cell (j := 7) rfl
            have d8 := (hZ5).cell (j := 8) rfl
            have f0 := (hZ5).free (j := 0) (by simp)
            have f1 := (hZ5).free (j := 1) (by simp)
            have f2 := (hZ5).free (j := 2) (by simp)
            have f3 := (hZ5).free (j := 3) (by simp)
            have f4 := (hZ5).free (j := 4) (by simp)
            have f5 := (hZ5).free (j := 5) (by simp)
            have f6 := (hZ5).free (j := 6) (by simp)
            have f7 := (hZ5).free (j := 7) (by simp)
            have f8 := (hZ5).free (j := 8) (by simp)
            go_wp2
            refine bodyPost_ret (results_cell_bx2 rfl _ _ (b0 + 2) [.int .i64 s.reps, .int .i64 t, .slice Af s.fates.length cf, .slice Al s.flight.length cl, .slice Ac s.cuts.length cc, .int .i64 (s.sent + 1), .int .i64 s.delivered, .int .i64 (s.lost + 1), .int .i64 s.made] _ rfl (hZ5.all (cs := [.int .i64 s.reps, .int .i64 t, .slice Af s.fates.length cf, .slice Al s.flight.length cl, .slice Ac s.cuts.length cc, .int .i64 (s.sent + 1), .int .i64 s.delivered, .int .i64 (s.lost + 1), .int .i64 s.made]) rfl).range Try.underlying66 rfl (by kernel_rfl)) rfl ?_
            have kF := Kp.setCells (by omega : w.heap.size ≤ b0 + 2) [.int .i64 s.reps, .int .i64 t, .slice Af s.fates.length cf, .slice Al s.flight.length cl, .slice Ac s.cuts.length cc, .int .i64 (s.sent + 1), .int .i64 s.delivered, .int .i64 (s.lost + 1), .int .i64 s.made] 0 _ kS
            exact ⟨_, by rw [HF.out]; rfl, by rw [HF.out]; exact ⟨_, _, _, _, rfl, XF.out, XL.out, XR.out, (XO.out.kp kF).mono fun _ h => .inl h, (XC.out.kp kF).mono fun _ h => .inl h⟩, kF⟩
        | false =>
          go_wp2_with fail
          refine (qLinked_any _ s m.sender m.to _ (HS.kp kk)).mono ?_
          rintro e w8 ⟨rfl, k8⟩
          replace kk := kk.trans k8
          replace hA := hA.kp k8 (by omega)
          replace hB := hB.kp k8 (by omega)
          replace hZ := hZ.kp k8 lz7
          replace hT := hT.kp k8 lt7
          have lz8 := Nat.lt_of_lt_of_le lz7 k8.size
          have lt8 := Nat.lt_of_lt_of_le lt7 k8.size
          clear c0 c1 c2 c3 c4 c5 c6 c7 c8 e6 e7 t0 t1 t2 lz7 lt7 k8
          have lz7 := lz8
          have lt7 := lt8
          clear lz8 lt8
          have c0 := (hA).cell (j := 0) rfl
          have c1 := (hA).cell (j := 1) rfl
          have c2 := (hA).cell (j := 2) rfl
          have c3 := (hA).cell (j := 3) rfl
          have c4 := (hA).cell (j := 4) rfl
          have c5 := (hA).cell (j := 5) rfl
          have c6 := (hA).cell (j := 6) rfl
          have c7 := (hA).cell (j := 7) rfl
          have c8 := (hA).cell (j := 8) rfl
          have e6 := hB.cell HM1.out
          have e7 := hB.cell HM2.out
          have t0 := hT.cell (j := 0) rfl
          have t1 := hT.cell (j := 1) rfl
          have t2 := hT.cell (j := 2) rfl
          generalize linkR s m.sender m.to = lk at *
          cases lk with
          | false =>
            have HLt : Hid (lostR s m = true) := hid (by rw [HLo.out]; rfl)
            have HC0 : Hid (cntR s m = 0) := hid (by rw [HCn.out, if_pos HLt.out])
            by_cases q3 : 1024 ≤ s.flight.length
            · have e8 : decide (1024 ≤ (s.flight.length : Int)) = true := decide_eq_true (by omega)
              have HF : Hid (R = (s, 8)) := hid (HG2.out.trans (if_pos (by rw [HU.out]; simp [*])))
              have d0 := (hZ).cell (j := 0) rfl
              have d1 := (hZ).cell (j := 1) rfl
              have d2 := (hZ).cell (j := 2) rfl
              have d3 := (hZ).cell (j := 3) rfl
              have d4 := (hZ).cell (j := 4) rfl
              have d5 := (hZ).cell (j := 5) rfl
              have d6 := (hZ).cell (j := 6) rfl
              have d7 := (hZ).cell (j := 7) rfl
              have d8 := (hZ).cell (j := 8) rfl
              have f0 := (hZ).free (j := 0) (by simp)
              have f1 := (hZ).free (j := 1) (by simp)
              have f2 := (hZ).free (j := 2) (by simp)
              have f3 := (hZ).free (j := 3) (by simp)
              have f4 := (hZ).free (j := 4) (by simp)
              have f5 := (hZ).free (j := 5) (by simp)
              have f6 := (hZ).free (j := 6) (by simp)
              have f7 := (hZ).free (j := 7) (by simp)
              have f8 := (hZ).free (j := 8) (by simp)
              go_wp2
              refine bodyPost_ret (results_cell_bx2 rfl _ _ (b0 + 2) [.int .i64 s.reps, .int .i64 s.tick, .slice Af s.fates.length cf, .slice Al s.flight.length cl, .slice Ac s.cuts.length cc, .int .i64 s.sent, .int .i64 s.delivered, .int .i64 s.lost, .int .i64 s.made] _ rfl (hZ.all (cs := [.int .i64 s.reps, .int .i64 s.tick, .slice Af s.fates.length cf, .slice Al s.flight.length cl, .slice Ac s.cuts.length cc, .int .i64 s.sent, .int .i64 s.delivered, .int .i64 s.lost, .int .i64 s.made]) rfl).range Try.underlying66 rfl (by kernel_rfl)) rfl ?_
              have kF := Kp.setCells (by omega : w.heap.size ≤ b0 + 2) [.int .i64 s.reps, .int .i64 s.tick, .slice Af s.fates.length cf, .slice Al s.flight.length cl, .slice Ac s.cuts.length cc, .int .i64 s.sent, .int .i64 s.delivered, .int .i64 s.lost, .int .i64 s.made] 0 _ kk
              exact ⟨_, by rw [HF.out]; rfl, by rw [HF.out]; exact (HXX.out.kp kF).mono fun _ h => .inl h, kF⟩
            · have e8 : decide (1024 ≤ (s.flight.length : Int)) = false := decide_eq_false (by omega)
              have e9 : decide (1024 < (s.flight.length : Int)) = false := decide_eq_false (by omega)
              have HF : Hid (R = ({ s with tick := t, sent := s.sent + 1, lost := s.lost + 1 }, 0)) := hid (HG2.out.trans ((if_neg (by rw [HU.out, HC0.out]; simp; omega)).trans (if_pos HLt.out)))
              replace q3 := hid q3
              clear HG2 HCn HU HV
              have ff1 := hA.free (j := 1) (by simp)
              have ff5 := hA.free (j := 5) (by simp)
              have ff7 := hA.free (j := 7) (by simp)
              go_upto_region 21 with (fail)
              have kS := ((kk.set (p := ⟨b0, 1, none⟩) (by show w.heap.size ≤ b0; omega) (.int .i64 t)).set (p := ⟨b0, 5, none⟩) (by show w.heap.size ≤ b0; omega) (.int .i64 (s.sent + 1))).set (p := ⟨b0, 7, none⟩) (by show w.heap.size ≤ b0; omega) (.int .i64 (s.lost + 1))
              have kg := (((Kg.refl w8 b0).set (p := ⟨b0, 1, none⟩) (.inl rfl) (.int .i64 t)).set (p := ⟨b0, 5, none⟩) (.inl rfl) (.int .i64 (s.sent + 1))).set (p := ⟨b0, 7, none⟩) (.inl rfl) (.int .i64 (s.lost + 1))
              have hA5 := ((hA.set (j := 1) (by simp) (.int .i64 t)).set (j := 5) (by simp) (.int .i64 (s.sent + 1))).set (j := 7) (by simp) (.int .i64 (s.lost + 1))
              have hZ5 := hZ.kg kg lz7 (by omega)
              clear c0 c1 c2 c3 c4 c5 c6 c7 c8 e6 e7 t0 t1 t2 ff1 ff5 ff7 kg hA hZ hB hT
              generalize World.setCell _ ⟨b0, 7, none⟩ (.int .i64 (s.lost + 1)) = w9 at *
              have c0 := (hA5).cell (j := 0) rfl
              have c1 := (hA5).cell (j := 1) rfl
              have c2 := (hA5).cell (j := 2) rfl
              have c3 := (hA5).cell (j := 3) rfl
              have c4 := (hA5).cell (j := 4) rfl
              have c5 := (hA5).cell (j := 5) rfl
              have c6 := (hA5).cell (j := 6) rfl
              have c7 := (hA5).cell (j := 7) rfl
              have c8 := (hA5).cell (j := 8) rfl
              have d0 := (hZ5).cell (j := 0) rfl
              have d1 := (hZ5).cell (j := 1) rfl
              have d2 := (hZ5).cell (j := 2) rfl
              have d3 := (hZ5).cell (j := 3) rfl
              have d4 := (hZ5).cell (j := 4) rfl
              have d5 := (hZ5).cell (j := 5) rfl
              have d6 := (hZ5).cell (j := 6) rfl
              have d7 := (hZ5).cell (j := 7) rfl
              have d8 := (hZ5).cell (j := 8) rfl
              have f0 := (hZ5).free (j := 0) (by simp)
              have f1 := (hZ5).free (j := 1) (by simp)
              have f2 := (hZ5).free (j := 2) (by simp)
              have f3 := (hZ5).free (j := 3) (by simp)
              have f4 := (hZ5).free (j := 4) (by simp)
              have f5 := (hZ5).free (j := 5) (by simp)
              have f6 := (hZ5).free (j := 6) (by simp)
              have f7 := (hZ5).free (j := 7) (by simp)
              have f8 := (hZ5).free (j := 8) (by simp)
              go_wp2
              refine bodyPost_ret (results_cell_bx2 rfl _ _ (b0 + 2) [.int .i64 s.reps, .int .i64 t, .slice Af s.fates.length cf, .slice Al s.flight.length cl, .slice Ac s.cuts.length cc, .int .i64 (s.sent + 1), .int .i64 s.delivered, .int .i64 (s.lost + 1), .int .i64 s.made] _ rfl (hZ5.all (cs := [.int .i64 s.reps, .int .i64 t, .slice Af s.fates.length cf, .slice Al s.flight.length cl, .slice Ac s.cuts.length cc, .int .i64 (s.sent + 1), .int .i64 s.delivered, .int .i64 (s.lost + 1), .int .i64 s.made]) rfl).range Try.underlying66 rfl (by kernel_rfl)) rfl ?_
              have kF := Kp.setCells (by omega : w.heap.size ≤ b0 + 2) [.int .i64 s.reps, .int .i64 t, .slice Af s.fates.length cf, .slice Al s.flight.length cl, .slice Ac s.cuts.length cc, .int .i64 (s.sent + 1), .int .i64 s.delivered, .int .i64 (s.lost + 1), .int .i64 s.made] 0 _ kS
              exact ⟨_, by rw [HF.out]; rfl, by rw [HF.out]; exact ⟨_, _, _, _, rfl, XF.out, XL.out, XR.out, (XO.out.kp kF).mono fun _ h => .inl h, (XC.out.kp kF).mono fun _ h => .inl h⟩, kF⟩
          | true =>
            have HLt : Hid (lostR s m = false) := hid (by rw [HLo.out]; rfl)
            obtain ⟨v0, v1, v2, v3, v4⟩ := HV.out
            have t0b : 0 ≤ t := by have := hok.tick.1; simp only [decide_eq_false_iff_not] at e1; omega
            have t1b : t ≤ 1048576 := by simp only [decide_eq_false_iff_not] at e2; omega
            by_cases hg : 0 < g
            · have e5 : decide (0 < g) = true := decide_eq_true hg
              have HC2 : Hid (cntR s m = 2) := hid (by rw [HCn.out, HLt.out, if_neg (by simp), if_pos hg])
              by_cases q3 : 1024 ≤ s.flight.length
              · have e8 : decide (1024 ≤ (s.flight.length : Int)) = true := decide_eq_true (by omega)
                have HF : Hid (R = (s, 8)) := hid (HG2.out.trans (if_pos (by rw [HU.out]; simp [*])))
                have d0 := (hZ).cell (j := 0) rfl
                have d1 := (hZ).cell (j := 1) rfl
                have d2 := (hZ).cell (j := 2) rfl
                have d3 := (hZ).cell (j := 3) rfl
                have d4 := (hZ).cell (j := 4) rfl
                have d5 := (hZ).cell (j := 5) rfl
                have d6 := (hZ).cell (j := 6) rfl
                have d7 := (hZ).cell (j := 7) rfl
                have d8 := (hZ).cell (j := 8) rfl
                have f0 := (hZ).free (j := 0) (by simp)
                have f1 := (hZ).free (j := 1) (by simp)
                have f2 := (hZ).free (j := 2) (by simp)
                have f3 := (hZ).free (j := 3) (by simp)
                have f4 := (hZ).free (j := 4) (by simp)
                have f5 := (hZ).free (j := 5) (by simp)
                have f6 := (hZ).free (j := 6) (by simp)
                have f7 := (hZ).free (j := 7) (by simp)
                have f8 := (hZ).free (j := 8) (by simp)
                go_wp2
                refine bodyPost_ret (results_cell_bx2 rfl _ _ (b0 + 2) [.int .i64 s.reps, .int .i64 s.tick, .slice Af s.fates.length cf, .slice Al s.flight.length cl, .slice Ac s.cuts.length cc, .int .i64 s.sent, .int .i64 s.delivered, .int .i64 s.lost, .int .i64 s.made] _ rfl (hZ.all (cs := [.int .i64 s.reps, .int .i64 s.tick, .slice Af s.fates.length cf, .slice Al s.flight.length cl, .slice Ac s.cuts.length cc, .int .i64 s.sent, .int .i64 s.delivered, .int .i64 s.lost, .int .i64 s.made]) rfl).range Try.underlying66 rfl (by kernel_rfl)) rfl ?_
                have kF := Kp.setCells (by omega : w.heap.size ≤ b0 + 2) [.int .i64 s.reps, .int .i64 s.tick, .slice Af s.fates.length cf, .slice Al s.flight.length cl, .slice Ac s.cuts.length cc, .int .i64 s.sent, .int .i64 s.delivered, .int .i64 s.lost, .int .i64 s.made] 0 _ kk
                exact ⟨_, by rw [HF.out]; rfl, by rw [HF.out]; exact (HXX.out.kp kF).mono fun _ h => .inl h, kF⟩
              · have e8 : decide (1024 ≤ (s.flight.length : Int)) = false := decide_eq_false (by omega)
                by_cases q4 : 1024 < s.flight.length + 2
                · have e9 : decide (1024 < (s.flight.length : Int) + 2) = true := decide_eq_true (by omega)
                  have HF : Hid (R = (s, 8)) := hid (HG2.out.trans (if_pos (by rw [HU.out, HC2.out]; simp [q4])))
                  have d0 := (hZ).cell (j := 0) rfl
                  have d1 := (hZ).cell (j := 1) rfl
                  have d2 := (hZ).cell (j := 2) rfl
                  have d3 := (hZ).cell (j := 3) rfl
                  have d4 := (hZ).cell (j := 4) rfl
                  have d5 := (hZ).cell (j := 5) rfl
                  have d6 := (hZ).cell (j := 6) rfl
                  have d7 := (hZ).cell (j := 7) rfl
                  have d8 := (hZ).cell (j := 8) rfl
                  have f0 := (hZ).free (j := 0) (by simp)
                  have f1 := (hZ).free (j := 1) (by simp)
                  have f2 := (hZ).free (j := 2) (by simp)
                  have f3 := (hZ).free (j := 3) (by simp)
                  have f4 := (hZ).free (j := 4) (by simp)
                  have f5 := (hZ).free (j := 5) (by simp)
                  have f6 := (hZ).free (j := 6) (by simp)
                  have f7 := (hZ).free (j := 7) (by simp)
                  have f8 := (hZ).free (j := 8) (by simp)
                  go_wp2
                  refine bodyPost_ret (results_cell_bx2 rfl _ _ (b0 + 2) [.int .i64 s.reps, .int .i64 s.tick, .slice Af s.fates.length cf, .slice Al s.flight.length cl, .slice Ac s.cuts.length cc, .int .i64 s.sent, .int .i64 s.delivered, .int .i64 s.lost, .int .i64 s.made] _ rfl (hZ.all (cs := [.int .i64 s.reps, .int .i64 s.tick, .slice Af s.fates.length cf, .slice Al s.flight.length cl, .slice Ac s.cuts.length cc, .int .i64 s.sent, .int .i64 s.delivered, .int .i64 s.lost, .int .i64 s.made]) rfl).range Try.underlying66 rfl (by kernel_rfl)) rfl ?_
                  have kF := Kp.setCells (by omega : w.heap.size ≤ b0 + 2) [.int .i64 s.reps, .int .i64 s.tick, .slice Af s.fates.length cf, .slice Al s.flight.length cl, .slice Ac s.cuts.length cc, .int .i64 s.sent, .int .i64 s.delivered, .int .i64 s.lost, .int .i64 s.made] 0 _ kk
                  exact ⟨_, by rw [HF.out]; rfl, by rw [HF.out]; exact (HXX.out.kp kF).mono fun _ h => .inl h, kF⟩
                · have e9 : decide (1024 < (s.flight.length : Int) + 2) = false := decide_eq_false (by omega)
                  have HF : Hid (R = ({ s with tick := t, sent := s.sent + 1, flight := s.flight ++ ([⟨t + y, s.made, m⟩] ++ [⟨t + g, s.made + 1, m⟩]), made := s.made + 2 }, 0)) := hid (HG2.out.trans ((if_neg (by rw [HU.out, HC2.out]; simp; omega)).trans ((if_neg (by rw [HLt.out]; simp)).trans (by rw [HC2.out]; simp))))
                  replace q3 := hid q3
                  replace q4 := hid q4
                  replace hg := hid hg
                  clear HG2 HCn HU HV HLo
                  have ff1 := hA.free (j := 1) (by simp)
                  have ff5 := hA.free (j := 5) (by simp)
                  go_upto_region 22 with (fail)
                  have kS := (kk.set (p := ⟨b0, 1, none⟩) (by show w.heap.size ≤ b0; omega) (.int .i64 t)).set (p := ⟨b0, 5, none⟩) (by show w.heap.size ≤ b0; omega) (.int .i64 (s.sent + 1))
                  have kg := ((Kg.refl w8 b0).set (p := ⟨b0, 1, none⟩) (.inl rfl) (.int .i64 t)).set (p := ⟨b0, 5, none⟩) (.inl rfl) (.int .i64 (s.sent + 1))
                  have hA5 := (hA.set (j := 1) (by simp) (.int .i64 t)).set (j := 5) (by simp) (.int .i64 (s.sent + 1))
                  have hZ5 := hZ.kg kg lz7 (by omega)
                  have hB5 := hB.kg kg (by omega) (by omega)
                  have hT5 := hT.kg kg lt7 (by omega)
                  have lz9 := Nat.lt_of_lt_of_le lz7 kg.size
                  have lt9 := Nat.lt_of_lt_of_le lt7 kg.size
                  clear c0 c1 c2 c3 c4 c5 c6 c7 c8 e6 e7 t0 t1 t2 ff1 ff5 kg hA hZ hB hT lz7 lt7
                  generalize World.setCell _ ⟨b0, 5, none⟩ (.int .i64 (s.sent + 1)) = w9 at *
                  have hraw := XO.out.here
                  have HRR := XR
                  have HRL := XL
                  generalize csx = css at *
                  have lb9 : b0 < w9.heap.size := by omega
                  have c0 := (hA5).cell (j := 0) rfl
                  have c1 := (hA5).cell (j := 1) rfl
                  have c2 := (hA5).cell (j := 2) rfl
                  have c3 := (hA5).cell (j := 3) rfl
                  have c4 := (hA5).cell (j := 4) rfl
                  have c5 := (hA5).cell (j := 5) rfl
                  have c6 := (hA5).cell (j := 6) rfl
                  have c7 := (hA5).cell (j := 7) rfl
                  have c8 := (hA5).cell (j := 8) rfl
                  have e6 := hB5.cell HM1.out
                  have t1 := hT5.cell (j := 1) rfl
                  have t2 := hT5.cell (j := 2) rfl
                  have hcl2 : css.length ≤ 1024 := by have := HRL.out; have := q3.out; omega
                  go_upto_region 23 with (at_builtin; refine wpl_append_flat rfl (.tmp 83) (.tmp 85) rfl stCpyM encC_len encC_one rfl (Own.lit (base := w9.heap.size) (encC (size := 20)) w9 #[] [] (Nat.le_refl _) (by simp) rfl rfl) rfl (hraw.keep (pl_stable _) (kS.alloc _)) (by first | omega | (simp; omega)) (by first | omega | (simp; omega)) (by simp) ?_; intro va wa owna hgrowa hata hnila)
                  have ka : Kp w9 wa := ((Kp.refl w9).alloc _).grown hgrowa (fun k hk => Nat.le_of_eq (Option.some.inj (show some w9.heap.size = some k from hk)))
                  have kSa := kS.trans ka
                  have hA6 := hA5.kp ka (by omega)
                  have hZ6 := hZ5.kp ka (by omega)
                  have hB6 := hB5.kp ka (by omega)
                  have hT6 := hT5.kp ka lt9
                  have la9 := ka.size
                  have lb6 : b0 < wa.heap.size := by omega
                  have lb7 : b0 + 1 < wa.heap.size := by omega
                  replace owna : Own encC 116 20 w9.heap.size wa va css := owna
                  clear c0 c1 c2 c3 c4 c5 c6 c7 c8 e6 t1 t2 hgrowa hata hnila
                  have c0 := (hA6).cell (j := 0) rfl
                  have c1 := (hA6).cell (j := 1) rfl
                  have c2 := (hA6).cell (j := 2) rfl
                  have c3 := (hA6).cell (j := 3) rfl
                  have c4 := (hA6).cell (j := 4) rfl
                  have c5 := (hA6).cell (j := 5) rfl
                  have c6 := (hA6).cell (j := 6) rfl
                  have c7 := (hA6).cell (j := 7) rfl
                  have c8 := (hA6).cell (j := 8) rfl
                  have t1 := hT6.cell (j := 1) rfl
                  have t2 := hT6.cell (j := 2) rfl
                  have hvm := HVE.out
                  obtain ⟨u3, u4, u5, u6, u7, hce, -⟩ := hv
                  injection hce with hce
                  have hce := congrArg Array.toList hce
                  simp only [List.toList_toArray] at hce
                  have HVM : rdMsg wE cs m := hvm
                  subst hce
                  clear hvm
                  have hR1 : rdCpy wE [.int .i64 (t + y), .int .i64 s.made, .int .i64 m.kind, .int .i64 m.sender, .int .i64 m.to, u3, u4, u5, .int .i64 m.ask.number, .int .i64 m.ask.place, .int .i64 m.ask.time, .int .i64 m.ask.replica, .int .i64 m.ask.serial, u6, .int .i64 m.term, .int .i64 m.index, .int .i64 m.logTerm, .int .i64 m.commit, .bool m.granted, u7] ⟨t + y, s.made, m⟩ := ⟨_, rfl, HVM⟩
                  obtain ⟨el, hel⟩ : ∃ el : Elm 20, el.val = [.int .i64 (t + y), .int .i64 s.made, .int .i64 m.kind, .int .i64 m.sender, .int .i64 m.to, u3, u4, u5, .int .i64 m.ask.number, .int .i64 m.ask.place, .int .i64 m.ask.time, .int .i64 m.ask.replica, .int .i64 m.ask.serial, u6, .int .i64 m.term, .int .i64 m.index, .int .i64 m.logTerm, .int .i64 m.commit, .bool m.granted, u7] := ⟨⟨_, (rdCpy_one hR1).1, (rdCpy_one hR1).2⟩, rfl⟩
                  have Hel := hid hel
                  clear hel
                  go_upto_region 24 with (first | (refine wpList_load_mid rfl 34 (.tmp 4) rfl (b0 + 1) 0 rfl _ _ hB6.range Try.underlying34 rfl hi.out ?_) | (at_builtin; refine wpl_append_flat rfl (.tmp 87) (.tmp 96) rfl stCpyM encC_len encC_one rfl (owna.alloc _) rfl (Sl.one (R := Pl encC) wa _ 116 20 el rfl Hel.out.symm) (by first | omega | (simp; omega)) (by first | omega | (simp; omega)) (by simp; omega) ?_; intro vb wb ownb hgrowb hatb hnilb))
                  have kb : Kp w9 wb := (ka.alloc _).grown hgrowb owna.ge
                  clear hgrowb hatb hnilb hA6 hZ6 hB6 hT6 owna
                  have hR2 : rdCpy wE [.int .i64 (t + g), .int .i64 (s.made + 1), .int .i64 m.kind, .int .i64 m.sender, .int .i64 m.to, u3, u4, u5, .int .i64 m.ask.number, .int .i64 m.ask.place, .int .i64 m.ask.time, .int .i64 m.ask.replica, .int .i64 m.ask.serial, u6, .int .i64 m.term, .int .i64 m.index, .int .i64 m.logTerm, .int .i64 m.commit, .bool m.granted, u7] ⟨t + g, s.made + 1, m⟩ := ⟨_, rfl, HVM⟩
                  obtain ⟨el2, hel2⟩ : ∃ el : Elm 20, el.val = [.int .i64 (t + g), .int .i64 (s.made + 1), .int .i64 m.kind, .int .i64 m.sender, .int .i64 m.to, u3, u4, u5, .int .i64 m.ask.number, .int .i64 m.ask.place, .int .i64 m.ask.time, .int .i64 m.ask.replica, .int .i64 m.ask.serial, u6, .int .i64 m.term, .int .i64 m.index, .int .i64 m.logTerm, .int .i64 m.commit, .bool m.granted, u7] := ⟨⟨_, (rdCpy_one hR2).1, (rdCpy_one hR2).2⟩, rfl⟩
                  have Hel2 := hid hel2
                  clear hel2
                  have hA7 := hA5.kp kb (by omega)
                  have hB7 := hB5.kp kb (by omega)
                  have hT7 := hT5.kp kb lt9
                  have lab := kb.size
                  have lbb : b0 < wb.heap.size := by omega
                  have lbb1 : b0 + 1 < wb.heap.size := by omega
                  clear c0 c1 c2 c3 c4 c5 c6 c7 c8 t1 t2
                  have c0 := (hA7).cell (j := 0) rfl
                  have c1 := (hA7).cell (j := 1) rfl
                  have c2 := (hA7).cell (j := 2) rfl
                  have c3 := (hA7).cell (j := 3) rfl
                  have c4 := (hA7).cell (j := 4) rfl
                  have c5 := (hA7).cell (j := 5) rfl
                  have c6 := (hA7).cell (j := 6) rfl
                  have c7 := (hA7).cell (j := 7) rfl
                  have c8 := (hA7).cell (j := 8) rfl
                  have t1 := hT7.cell (j := 1) rfl
                  have t2 := hT7.cell (j := 2) rfl
                  have hlb : (css ++ [el]).length ≤ 1025 := by simp; omega
                  go_upto_region 26 with (first | (refine wpList_load_mid rfl 34 (.tmp 4) rfl (b0 + 1) 0 rfl _ _ hB7.range Try.underlying34 rfl hi.out ?_) | (at_builtin; refine wpl_append_flat rfl (.tmp 100) (.tmp 110) rfl stCpyM encC_len encC_one rfl (ownb.alloc _) rfl (Sl.one (R := Pl encC) wb _ 116 20 el2 rfl Hel2.out.symm) (by first | omega | (simp; omega)) (by first | omega | (simp; omega)) (by simp; omega) ?_; intro vc wc ownc hgrowc hatc hnilc))
                  have kc : Kp w9 wc := (kb.alloc _).grown hgrowc ownb.ge
                  clear hgrowc hatc hnilc hA7 hB7 hT7 ownb
                  have HRead := hid (read_app HRL.out HRR.out (read_app (xs2 := [(⟨t + g, s.made + 1, m⟩ : Cpy)]) rfl (read_one (R := rdCpy) (w := wE) (c := el) (x := (⟨t + y, s.made, m⟩ : Cpy)) (by rw [Hel.out]; exact hR1)) (read_one (R := rdCpy) (w := wE) (c := el2) (by rw [Hel2.out]; exact hR2))))
                  clear Hel hR1 Hel2 hR2
                  rw [List.append_assoc] at ownc
                  have kSb := kS.trans kc
                  have hA7 := hA5.kp kc (by omega)
                  have hZ7 := hZ5.kp kc (by omega)
                  have la7 := (kc).size
                  have lb8 : b0 < (wc).heap.size := by omega
                  have lb9 : b0 + 2 < (wc).heap.size := by omega
                  clear c0 c1 c2 c3 c4 c5 c6 c7 c8 t1 t2
                  obtain ⟨AB, cB, e9, hcB, hmB⟩ := (ownc).form
                  simp only [List.length_append, List.length_cons, List.length_nil, Nat.zero_add] at e9
                  subst e9
                  have c0 := (hA7).cell (j := 0) rfl
                  have c1 := (hA7).cell (j := 1) rfl
                  have c2 := (hA7).cell (j := 2) rfl
                  have c3 := (hA7).cell (j := 3) rfl
                  have c4 := (hA7).cell (j := 4) rfl
                  have c5 := (hA7).cell (j := 5) rfl
                  have c6 := (hA7).cell (j := 6) rfl
                  have c7 := (hA7).cell (j := 7) rfl
                  have c8 := (hA7).cell (j := 8) rfl
                  have ff3 := hA7.free (j := 3) (by simp)
                  have ff8 := hA7.free (j := 8) (by simp)
                  go_upto_region 28 with (fail)
                  have kS8 := (kSb.set (p := ⟨b0, 3, none⟩) (by show w.heap.size ≤ b0; omega) (.slice AB (css.length + 2) cB)).set (p := ⟨b0, 8, none⟩) (by show w.heap.size ≤ b0; omega) (.int .i64 (s.made + 2))
                  have kg := ((Kg.refl wc b0).set (p := ⟨b0, 3, none⟩) (.inl rfl) (.slice AB (css.length + 2) cB)).set (p := ⟨b0, 8, none⟩) (.inl rfl) (.int .i64 (s.made + 2))
                  have hA8 := (hA7.set (j := 3) (by simp) (.slice AB (css.length + 2) cB)).set (j := 8) (by simp) (.int .i64 (s.made + 2))
                  have hZ8 := hZ7.kg kg lb9 (by omega)
                  have own8 := (ownc).kg kg (by omega)
                  clear c0 c1 c2 c3 c4 c5 c6 c7 c8 ff3 ff8 kg hA7 hZ7 hA5 hZ5 hB5 hT5
                  generalize World.setCell _ ⟨b0, 8, none⟩ (.int .i64 (s.made + 2)) = wz at *
                  have c0 := (hA8).cell (j := 0) rfl
                  have c1 := (hA8).cell (j := 1) rfl
                  have c2 := (hA8).cell (j := 2) rfl
                  have c3 := (hA8).cell (j := 3) rfl
                  have c4 := (hA8).cell (j := 4) rfl
                  have c5 := (hA8).cell (j := 5) rfl
                  have c6 := (hA8).cell (j := 6) rfl
                  have c7 := (hA8).cell (j := 7) rfl
                  have c8 := (hA8).cell (j := 8) rfl
                  have d0 := (hZ8).cell (j := 0) rfl
                  have d1 := (hZ8).cell (j := 1) rfl
                  have d2 := (hZ8).cell (j := 2) rfl
                  have d3 := (hZ8).cell (j := 3) rfl
                  have d4 := (hZ8).cell (j := 4) rfl
                  have d5 := (hZ8).cell (j := 5) rfl
                  have d6 := (hZ8).cell (j := 6) rfl
                  have d7 := (hZ8).cell (j := 7) rfl
                  have d8 := (hZ8).cell (j := 8) rfl
                  have f0 := (hZ8).free (j := 0) (by simp)
                  have f1 := (hZ8).free (j := 1) (by simp)
                  have f2 := (hZ8).free (j := 2) (by simp)
                  have f3 := (hZ8).free (j := 3) (by simp)
                  have f4 := (hZ8).free (j := 4) (by simp)
                  have f5 := (hZ8).free (j := 5) (by simp)
                  have f6 := (hZ8).free (j := 6) (by simp)
                  have f7 := (hZ8).free (j := 7) (by simp)
                  have f8 := (hZ8).free (j := 8) (by simp)
                  go_wp2
                  refine bodyPost_ret (results_cell_bx2 rfl _ _ (b0 + 2) [.int .i64 s.reps, .int .i64 t, .slice Af s.fates.length cf, .slice AB (css.length + 2) cB, .slice Ac s.cuts.length cc, .int .i64 (s.sent + 1), .int .i64 s.delivered, .int .i64 s.lost, .int .i64 (s.made + 2)] _ rfl (hZ8.all (cs := [.int .i64 s.reps, .int .i64 t, .slice Af s.fates.length cf, .slice AB (css.length + 2) cB, .slice Ac s.cuts.length cc, .int .i64 (s.sent + 1), .int .i64 s.delivered, .int .i64 s.lost, .int .i64 (s.made + 2)]) rfl).range Try.underlying66 rfl (by kernel_rfl)) rfl ?_
                  have kF := Kp.setCells (by omega : w.heap.size ≤ b0 + 2) [.int .i64 s.reps, .int .i64 t, .slice Af s.fates.length cf, .slice AB (css.length + 2) cB, .slice Ac s.cuts.length cc, .int .i64 (s.sent + 1), .int .i64 s.delivered, .int .i64 s.lost, .int .i64 (s.made + 2)] 0 _ kS8
                  have kgF := Kg.setCells (g := b0 + 2) [.int .i64 s.reps, .int .i64 t, .slice Af s.fates.length cf, .slice AB (css.length + 2) cB, .slice Ac s.cuts.length cc, .int .i64 (s.sent + 1), .int .i64 s.delivered, .int .i64 s.lost, .int .i64 (s.made + 2)] 0 _ (Kg.refl wz (b0 + 2))
                  have ownF := own8.kg kgF (by omega)
                  exact ⟨_, by rw [HF.out]; rfl, by rw [HF.out]; exact ⟨_, _, _, _, rfl, XF.out, by simp [HRL.out], HRead.out, (ownF.owS.imp fun _ h => h.sl encC_len).mono fun i hi => .inr (by have := ownF.ge i hi; have := kS.size; omega), (XC.out.kp kF).mono fun _ h => .inl h⟩, kF⟩
            · have e5 : decide (0 < g) = false := decide_eq_false hg
              have HC1 : Hid (cntR s m = 1) := hid (by rw [HCn.out, HLt.out, if_neg (by simp), if_neg hg])
              by_cases q3 : 1024 ≤ s.flight.length
              · have e8 : decide (1024 ≤ (s.flight.length : Int)) = true := decide_eq_true (by omega)
                have HF : Hid (R = (s, 8)) := hid (HG2.out.trans (if_pos (by rw [HU.out]; simp [*])))
                have d0 := (hZ).cell (j := 0) rfl
                have d1 := (hZ).cell (j := 1) rfl
                have d2 := (hZ).cell (j := 2) rfl
                have d3 := (hZ).cell (j := 3) rfl
                have d4 := (hZ).cell (j := 4) rfl
                have d5 := (hZ).cell (j := 5) rfl
                have d6 := (hZ).cell (j := 6) rfl
                have d7 := (hZ).cell (j := 7) rfl
                have d8 := (hZ).cell (j := 8) rfl
                have f0 := (hZ).free (j := 0) (by simp)
                have f1 := (hZ).free (j := 1) (by simp)
                have f2 := (hZ).free (j := 2) (by simp)
                have f3 := (hZ).free (j := 3) (by simp)
                have f4 := (hZ).free (j := 4) (by simp)
                have f5 := (hZ).free (j := 5) (by simp)
                have f6 := (hZ).free (j := 6) (by simp)
                have f7 := (hZ).free (j := 7) (by simp)
                have f8 := (hZ).free (j := 8) (by simp)
                go_wp2
                refine bodyPost_ret (results_cell_bx2 rfl _ _ (b0 + 2) [.int .i64 s.reps, .int .i64 s.tick, .slice Af s.fates.length cf, .slice Al s.flight.length cl, .slice Ac s.cuts.length cc, .int .i64 s.sent, .int .i64 s.delivered, .int .i64 s.lost, .int .i64 s.made] _ rfl (hZ.all (cs := [.int .i64 s.reps, .int .i64 s.tick, .slice Af s.fates.length cf, .slice Al s.flight.length cl, .slice Ac s.cuts.length cc, .int .i64 s.sent, .int .i64 s.delivered, .int .i64 s.lost, .int .i64 s.made]) rfl).range Try.underlying66 rfl (by kernel_rfl)) rfl ?_
                have kF := Kp.setCells (by omega : w.heap.size ≤ b0 + 2) [.int .i64 s.reps, .int .i64 s.tick, .slice Af s.fates.length cf, .slice Al s.flight.length cl, .slice Ac s.cuts.length cc, .int .i64 s.sent, .int .i64 s.delivered, .int .i64 s.lost, .int .i64 s.made] 0 _ kk
                exact ⟨_, by rw [HF.out]; rfl, by rw [HF.out]; exact (HXX.out.kp kF).mono fun _ h => .inl h, kF⟩
              · have e8 : decide (1024 ≤ (s.flight.length : Int)) = false := decide_eq_false (by omega)
                have e9 : decide (1024 < (s.flight.length : Int) + 1) = false := decide_eq_false (by omega)
                have HF : Hid (R = ({ s with tick := t, sent := s.sent + 1, flight := s.flight ++ [⟨t + y, s.made, m⟩], made := s.made + 1 }, 0)) := hid (HG2.out.trans ((if_neg (by rw [HU.out, HC1.out]; simp; omega)).trans ((if_neg (by rw [HLt.out]; simp)).trans (by rw [HC1.out]; simp))))
                replace q3 := hid q3
                replace hg := hid hg
                clear HG2 HCn HU HV HLo
                have ff1 := hA.free (j := 1) (by simp)
                have ff5 := hA.free (j := 5) (by simp)
                go_upto_region 22 with (fail)
                have kS := (kk.set (p := ⟨b0, 1, none⟩) (by show w.heap.size ≤ b0; omega) (.int .i64 t)).set (p := ⟨b0, 5, none⟩) (by show w.heap.size ≤ b0; omega) (.int .i64 (s.sent + 1))
                have kg := ((Kg.refl w8 b0).set (p := ⟨b0, 1, none⟩) (.inl rfl) (.int .i64 t)).set (p := ⟨b0, 5, none⟩) (.inl rfl) (.int .i64 (s.sent + 1))
                have hA5 := (hA.set (j := 1) (by simp) (.int .i64 t)).set (j := 5) (by simp) (.int .i64 (s.sent + 1))
                have hZ5 := hZ.kg kg lz7 (by omega)
                have hB5 := hB.kg kg (by omega) (by omega)
                have hT5 := hT.kg kg lt7 (by omega)
                have lz9 := Nat.lt_of_lt_of_le lz7 kg.size
                have lt9 := Nat.lt_of_lt_of_le lt7 kg.size
                clear c0 c1 c2 c3 c4 c5 c6 c7 c8 e6 e7 t0 t1 t2 ff1 ff5 kg hA hZ hB hT lz7 lt7
                generalize World.setCell _ ⟨b0, 5, none⟩ (.int .i64 (s.sent + 1)) = w9 at *
                have hraw := XO.out.here
                have HRR := XR
                have HRL := XL
                generalize csx = css at *
                have lb9 : b0 < w9.heap.size := by omega
                have c0 := (hA5).cell (j := 0) rfl
                have c1 := (hA5).cell (j := 1) rfl
                have c2 := (hA5).cell (j := 2) rfl
                have c3 := (hA5).cell (j := 3) rfl
                have c4 := (hA5).cell (j := 4) rfl
                have c5 := (hA5).cell (j := 5) rfl
                have c6 := (hA5).cell (j := 6) rfl
                have c7 := (hA5).cell (j := 7) rfl
                have c8 := (hA5).cell (j := 8) rfl
                have e6 := hB5.cell HM1.out
                have t1 := hT5.cell (j := 1) rfl
                have t2 := hT5.cell (j := 2) rfl
                have hcl2 : css.length ≤ 1024 := by have := HRL.out; have := q3.out; omega
                go_upto_region 23 with (at_builtin; refine wpl_append_flat rfl (.tmp 83) (.tmp 85) rfl stCpyM encC_len encC_one rfl (Own.lit (base := w9.heap.size) (encC (size := 20)) w9 #[] [] (Nat.le_refl _) (by simp) rfl rfl) rfl (hraw.keep (pl_stable _) (kS.alloc _)) (by first | omega | (simp; omega)) (by first | omega | (simp; omega)) (by simp) ?_; intro va wa owna hgrowa hata hnila)
                have ka : Kp w9 wa := ((Kp.refl w9).alloc _).grown hgrowa (fun k hk => Nat.le_of_eq (Option.some.inj (show some w9.heap.size = some k from hk)))
                have kSa := kS.trans ka
                have hA6 := hA5.kp ka (by omega)
                have hZ6 := hZ5.kp ka (by omega)
                have hB6 := hB5.kp ka (by omega)
                have hT6 := hT5.kp ka lt9
                have la9 := ka.size
                have lb6 : b0 < wa.heap.size := by omega
                have lb7 : b0 + 1 < wa.heap.size := by omega
                replace owna : Own encC 116 20 w9.heap.size wa va css := owna
                clear c0 c1 c2 c3 c4 c5 c6 c7 c8 e6 t1 t2 hgrowa hata hnila
                have c0 := (hA6).cell (j := 0) rfl
                have c1 := (hA6).cell (j := 1) rfl
                have c2 := (hA6).cell (j := 2) rfl
                have c3 := (hA6).cell (j := 3) rfl
                have c4 := (hA6).cell (j := 4) rfl
                have c5 := (hA6).cell (j := 5) rfl
                have c6 := (hA6).cell (j := 6) rfl
                have c7 := (hA6).cell (j := 7) rfl
                have c8 := (hA6).cell (j := 8) rfl
                have t1 := hT6.cell (j := 1) rfl
                have t2 := hT6.cell (j := 2) rfl
                have hvm := HVE.out
                obtain ⟨u3, u4, u5, u6, u7, hce, -⟩ := hv
                injection hce with hce
                have hce := congrArg Array.toList hce
                simp only [List.toList_toArray] at hce
                have HVM : rdMsg wE cs m := hvm
                subst hce
                clear hvm
                have hR1 : rdCpy wE [.int .i64 (t + y), .int .i64 s.made, .int .i64 m.kind, .int .i64 m.sender, .int .i64 m.to, u3, u4, u5, .int .i64 m.ask.number, .int .i64 m.ask.place, .int .i64 m.ask.time, .int .i64 m.ask.replica, .int .i64 m.ask.serial, u6, .int .i64 m.term, .int .i64 m.index, .int .i64 m.logTerm, .int .i64 m.commit, .bool m.granted, u7] ⟨t + y, s.made, m⟩ := ⟨_, rfl, HVM⟩
                obtain ⟨el, hel⟩ : ∃ el : Elm 20, el.val = [.int .i64 (t + y), .int .i64 s.made, .int .i64 m.kind, .int .i64 m.sender, .int .i64 m.to, u3, u4, u5, .int .i64 m.ask.number, .int .i64 m.ask.place, .int .i64 m.ask.time, .int .i64 m.ask.replica, .int .i64 m.ask.serial, u6, .int .i64 m.term, .int .i64 m.index, .int .i64 m.logTerm, .int .i64 m.commit, .bool m.granted, u7] := ⟨⟨_, (rdCpy_one hR1).1, (rdCpy_one hR1).2⟩, rfl⟩
                have Hel := hid hel
                clear hel
                go_upto_region 24 with (first | (refine wpList_load_mid rfl 34 (.tmp 4) rfl (b0 + 1) 0 rfl _ _ hB6.range Try.underlying34 rfl hi.out ?_) | (at_builtin; refine wpl_append_flat rfl (.tmp 87) (.tmp 96) rfl stCpyM encC_len encC_one rfl (owna.alloc _) rfl (Sl.one (R := Pl encC) wa _ 116 20 el rfl Hel.out.symm) (by first | omega | (simp; omega)) (by first | omega | (simp; omega)) (by simp; omega) ?_; intro vb wb ownb hgrowb hatb hnilb))
                have kb : Kp w9 wb := (ka.alloc _).grown hgrowb owna.ge
                clear hgrowb hatb hnilb hA6 hZ6 hB6 hT6 owna
                have HRead := hid (read_app HRL.out HRR.out (read_one (R := rdCpy) (w := wE) (c := el) (x := (⟨t + y, s.made, m⟩ : Cpy)) (by rw [Hel.out]; exact hR1)))
                clear Hel hR1
                have kSb := kS.trans kb
                have hA7 := hA5.kp kb (by omega)
                have hZ7 := hZ5.kp kb (by omega)
                have la7 := (kb).size
                have lb8 : b0 < (wb).heap.size := by omega
                have lb9 : b0 + 2 < (wb).heap.size := by omega
                clear c0 c1 c2 c3 c4 c5 c6 c7 c8 t1 t2
                obtain ⟨AB, cB, e9, hcB, hmB⟩ := (ownb).form
                simp only [List.length_append, List.length_cons, List.length_nil, Nat.zero_add] at e9
                subst e9
                have c0 := (hA7).cell (j := 0) rfl
                have c1 := (hA7).cell (j := 1) rfl
                have c2 := (hA7).cell (j := 2) rfl
                have c3 := (hA7).cell (j := 3) rfl
                have c4 := (hA7).cell (j := 4) rfl
                have c5 := (hA7).cell (j := 5) rfl
                have c6 := (hA7).cell (j := 6) rfl
                have c7 := (hA7).cell (j := 7) rfl
                have c8 := (hA7).cell (j := 8) rfl
                have ff3 := hA7.free (j := 3) (by simp)
                have ff8 := hA7.free (j := 8) (by simp)
                go_upto_region 28 with (fail)
                have kS8 := (kSb.set (p := ⟨b0, 3, none⟩) (by show w.heap.size ≤ b0; omega) (.slice AB (css.length + 1) cB)).set (p := ⟨b0, 8, none⟩) (by show w.heap.size ≤ b0; omega) (.int .i64 (s.made + 1))
                have kg := ((Kg.refl wb b0).set (p := ⟨b0, 3, none⟩) (.inl rfl) (.slice AB (css.length + 1) cB)).set (p := ⟨b0, 8, none⟩) (.inl rfl) (.int .i64 (s.made + 1))
                have hA8 := (hA7.set (j := 3) (by simp) (.slice AB (css.length + 1) cB)).set (j := 8) (by simp) (.int .i64 (s.made + 1))
                have hZ8 := hZ7.kg kg lb9 (by omega)
                have own8 := (ownb).kg kg (by omega)
                clear c0 c1 c2 c3 c4 c5 c6 c7 c8 ff3 ff8 kg hA7 hZ7 hA5 hZ5 hB5 hT5
                generalize World.setCell _ ⟨b0, 8, none⟩ (.int .i64 (s.made + 1)) = wz at *
                have c0 := (hA8).cell (j := 0) rfl
                have c1 := (hA8).cell (j := 1) rfl
                have c2 := (hA8).cell (j := 2) rfl
                have c3 := (hA8).cell (j := 3) rfl
                have c4 := (hA8).cell (j := 4) rfl
                have c5 := (hA8).cell (j := 5) rfl
                have c6 := (hA8).cell (j := 6) rfl
                have c7 := (hA8).cell (j := 7) rfl
                have c8 := (hA8).cell (j := 8) rfl
                have d0 := (hZ8).cell (j := 0) rfl
                have d1 := (hZ8).cell (j := 1) rfl
                have d2 := (hZ8).cell (j := 2) rfl
                have d3 := (hZ8).cell (j := 3) rfl
                have d4 := (hZ8).cell (j := 4) rfl
                have d5 := (hZ8).cell (j := 5) rfl
                have d6 := (hZ8).cell (j := 6) rfl
                have d7 := (hZ8).cell (j := 7) rfl
                have d8 := (hZ8).cell (j := 8) rfl
                have f0 := (hZ8).free (j := 0) (by simp)
                have f1 := (hZ8).free (j := 1) (by simp)
                have f2 := (hZ8).free (j := 2) (by simp)
                have f3 := (hZ8).free (j := 3) (by simp)
                have f4 := (hZ8).free (j := 4) (by simp)
                have f5 := (hZ8).free (j := 5) (by simp)
                have f6 := (hZ8).free (j := 6) (by simp)
                have f7 := (hZ8).free (j := 7) (by simp)
                have f8 := (hZ8).free (j := 8) (by simp)
                go_wp2
                refine bodyPost_ret (results_cell_bx2 rfl _ _ (b0 + 2) [.int .i64 s.reps, .int .i64 t, .slice Af s.fates.length cf, .slice AB (css.length + 1) cB, .slice Ac s.cuts.length cc, .int .i64 (s.sent + 1), .int .i64 s.delivered, .int .i64 s.lost, .int .i64 (s.made + 1)] _ rfl (hZ8.all (cs := [.int .i64 s.reps, .int .i64 t, .slice Af s.fates.length cf, .slice AB (css.length + 1) cB, .slice Ac s.cuts.length cc, .int .i64 (s.sent + 1), .int .i64 s.delivered, .int .i64 s.lost, .int .i64 (s.made + 1)]) rfl).range Try.underlying66 rfl (by kernel_rfl)) rfl ?_
                have kF := Kp.setCells (by omega : w.heap.size ≤ b0 + 2) [.int .i64 s.reps, .int .i64 t, .slice Af s.fates.length cf, .slice AB (css.length + 1) cB, .slice Ac s.cuts.length cc, .int .i64 (s.sent + 1), .int .i64 s.delivered, .int .i64 s.lost, .int .i64 (s.made + 1)] 0 _ kS8
                have kgF := Kg.setCells (g := b0 + 2) [.int .i64 s.reps, .int .i64 t, .slice Af s.fates.length cf, .slice AB (css.length + 1) cB, .slice Ac s.cuts.length cc, .int .i64 (s.sent + 1), .int .i64 s.delivered, .int .i64 s.lost, .int .i64 (s.made + 1)] 0 _ (Kg.refl wz (b0 + 2))
                have ownF := own8.kg kgF (by omega)
                exact ⟨_, by rw [HF.out]; rfl, by rw [HF.out]; exact ⟨_, _, _, _, rfl, XF.out, by simp [HRL.out], HRead.out, (ownF.owS.imp fun _ h => h.sl encC_len).mono fun i hi => .inr (by have := ownF.ge i hi; have := kS.size; omega), (XC.out.kp kF).mono fun _ h => .inl h⟩, kF⟩
      · have HF : Hid (R = (s, er)) := hid (HG.out.trans (if_pos he))
        have e3 : (er != 0) = true := by simpa using he
        have e4 : (er == 0) = false := by simpa using he
        clear HG
        have c0 := (hA).cell (j := 0) rfl
        have c1 := (hA).cell (j := 1) rfl
        have c2 := (hA).cell (j := 2) rfl
        have c3 := (hA).cell (j := 3) rfl
        have c4 := (hA).cell (j := 4) rfl
        have c5 := (hA).cell (j := 5) rfl
        have c6 := (hA).cell (j := 6) rfl
        have c7 := (hA).cell (j := 7) rfl
        have c8 := (hA).cell (j := 8) rfl
        have d0 := (hZ).cell (j := 0) rfl
        have d1 := (hZ).cell (j := 1) rfl
        have d2 := (hZ).cell (j := 2) rfl
        have d3 := (hZ).cell (j := 3) rfl
        have d4 := (hZ).cell (j := 4) rfl
        have d5 := (hZ).cell (j := 5) rfl
        have d6 := (hZ).cell (j := 6) rfl
        have d7 := (hZ).cell (j := 7) rfl
        have d8 := (hZ).cell (j := 8) rfl
        have f0 := (hZ).free (j := 0) (by simp)
        have f1 := (hZ).free (j := 1) (by simp)
        have f2 := (hZ).free (j := 2) (by simp)
        have f3 := (hZ).free (j := 3) (by simp)
        have f4 := (hZ).free (j := 4) (by simp)
        have f5 := (hZ).free (j := 5) (by simp)
        have f6 := (hZ).free (j := 6) (by simp)
        have f7 := (hZ).free (j := 7) (by simp)
        have f8 := (hZ).free (j := 8) (by simp)
        go_wp2
        refine bodyPost_ret (results_cell_bx2 rfl _ _ (b0 + 2) [.int .i64 s.reps, .int .i64 s.tick, .slice Af s.fates.length cf, .slice Al s.flight.length cl, .slice Ac s.cuts.length cc, .int .i64 s.sent, .int .i64 s.delivered, .int .i64 s.lost, .int .i64 s.made] _ rfl (hZ.all (cs := [.int .i64 s.reps, .int .i64 s.tick, .slice Af s.fates.length cf, .slice Al s.flight.length cl, .slice Ac s.cuts.length cc, .int .i64 s.sent, .int .i64 s.delivered, .int .i64 s.lost, .int .i64 s.made]) rfl).range Try.underlying66 rfl (by kernel_rfl)) rfl ?_
        have kF := Kp.setCells (by omega : w.heap.size ≤ b0 + 2) [.int .i64 s.reps, .int .i64 s.tick, .slice Af s.fates.length cf, .slice Al s.flight.length cl, .slice Ac s.cuts.length cc, .int .i64 s.sent, .int .i64 s.delivered, .int .i64 s.lost, .int .i64 s.made] 0 _ kk
        exact ⟨_, by rw [HF.out]; rfl, by rw [HF.out]; exact (HXX.out.kp kF).mono fun _ h => .inl h, kF⟩
end Go.Proofs.Ytmokpnkpfodppaa
