
/-
The reference's network: Deliver: the walk.
-/
import Derived.Test.YtmokpnkpfodppaaOpF
namespace Go.Proofs.Ytmokpnkpfodppaa
set_option linter.unusedSimpArgs false
set_option linter.unusedVariables false
open Go.RowKit

theorem msg_boxQ (w : World) (cs : List Value) (h : cs.length = 18) :
    (w.alloc (.cells #[.int .i64 0, .int .i64 0, .int .i64 0, .slice none 0 0, .slice none 0 0, .slice none 0 0, .int .i64 0, .int .i64 0, .int .i64 0, .int .i64 0, .int .i64 0, .slice none 0 0, .int .i64 0, .int .i64 0, .int .i64 0, .int .i64 0, .bool false, .slice none 0 0] 34)).there w.heap.size 0 cs.length ∧ Bx ((w.alloc (.cells #[.int .i64 0, .int .i64 0, .int .i64 0, .slice none 0 0, .slice none 0 0, .slice none 0 0, .int .i64 0, .int .i64 0, .int .i64 0, .int .i64 0, .int .i64 0, .slice none 0 0, .int .i64 0, .int .i64 0, .int .i64 0, .int .i64 0, .bool false, .slice none 0 0] 34)).setCells w.heap.size 0 cs) w.heap.size cs ∧ Kp w ((w.alloc (.cells #[.int .i64 0, .int .i64 0, .int .i64 0, .slice none 0 0, .slice none 0 0, .slice none 0 0, .int .i64 0, .int .i64 0, .int .i64 0, .int .i64 0, .int .i64 0, .slice none 0 0, .int .i64 0, .int .i64 0, .int .i64 0, .int .i64 0, .bool false, .slice none 0 0] 34)).setCells w.heap.size 0 cs) ∧ w.heap.size < ((w.alloc (.cells #[.int .i64 0, .int .i64 0, .int .i64 0, .slice none 0 0, .slice none 0 0, .slice none 0 0, .int .i64 0, .int .i64 0, .int .i64 0, .int .i64 0, .int .i64 0, .slice none 0 0, .int .i64 0, .int .i64 0, .int .i64 0, .int .i64 0, .bool false, .slice none 0 0] 34)).setCells w.heap.size 0 cs).heap.size :=
  ⟨there_new w #[.int .i64 0, .int .i64 0, .int .i64 0, .slice none 0 0, .slice none 0 0, .slice none 0 0, .int .i64 0, .int .i64 0, .int .i64 0, .int .i64 0, .int .i64 0, .slice none 0 0, .int .i64 0, .int .i64 0, .int .i64 0, .int .i64 0, .bool false, .slice none 0 0] 34 cs.length (by rw [h]; rfl), (Bx.new w #[.int .i64 0, .int .i64 0, .int .i64 0, .slice none 0 0, .slice none 0 0, .slice none 0 0, .int .i64 0, .int .i64 0, .int .i64 0, .int .i64 0, .int .i64 0, .slice none 0 0, .int .i64 0, .int .i64 0, .int .i64 0, .int .i64 0, .bool false, .slice none 0 0] 34).all (cs := cs) (by rw [h]; rfl), Kp.setCells (Nat.le_refl _) cs 0 _ ((Kp.refl w).alloc _), by rw [setCells_size]; exact alloc_lt w _⟩
theorem rdMsg_ends {w : World} {cs : List Value} {x : Message} (h : rdMsg w cs x) : cs[1]? = some (.int .i64 x.sender) ∧ cs[2]? = some (.int .i64 x.to) := by
  obtain ⟨v3, v4, v5, v6, v7, e, -⟩ := h
  injection e with e
  have h1 := congrArg (fun a : Array Value => a[1]?) e
  have h2 := congrArg (fun a : Array Value => a[2]?) e
  exact ⟨by simpa using h1, by simpa using h2⟩
/-- what holds of the copies in flight -/
structure FlW (wE : World) (T0 : Nat → Prop) (wr : World) (b0 : Nat) (vo vL : Value) (css : List (Elm 20)) (fl : List Cpy) : Prop where
  len : css.length = fl.length
  rd : ∀ k (h1 : k < css.length) (h2 : k < fl.length), rdCpy wE css[k].val fl[k]
  row : ∃ T : Nat → Prop, (∀ k, T k → k ≠ b0 ∧ k ≠ b0 + 1 ∧ vo.ownBlock ≠ some k ∧ k < wr.heap.size ∧ (T0 k ∨ b0 + 2 ≤ k)) ∧ OwS T wr fun w' => Sl (Pl encC) 20 w' vL css
theorem FlW.cpys {wE wr : World} {T0 : Nat → Prop} {b0 : Nat} {vo vL : Value} {css : List (Elm 20)} {fl : List Cpy} (h : FlW wE T0 wr b0 vo vL css fl) (k : Kp wE wr) : Cpys wr vL fl := by
  obtain ⟨T, -, ho⟩ := h.row
  exact sl_of ho.here h.len fun i h1 h2 => rdCpy_stable _ _ _ _ k (h.rd i h1 h2)
theorem read_del {css : List (Elm 20)} {xs : List Cpy} {w : World} (hl : css.length = xs.length) (h : ∀ k (h1 : k < css.length) (h2 : k < xs.length), rdCpy w css[k].val xs[k]) (j : Nat) (hj : j < xs.length) :
    ∀ k (h1 : k < (css.take j ++ css.drop (j + 1)).length) (h2 : k < (xs.take j ++ xs.drop (j + 1)).length), rdCpy w (css.take j ++ css.drop (j + 1))[k].val (xs.take j ++ xs.drop (j + 1))[k] :=
  read_app (by simp [hl]) (fun k h1 h2 => by
    rw [List.length_take] at h1 h2
    rw [List.getElem_take, List.getElem_take]
    exact h k (by omega) (by omega)) (fun k h1 h2 => by
    rw [List.length_drop] at h1 h2
    rw [List.getElem_drop, List.getElem_drop]
    exact h (j + 1 + k) (by omega) (by omega))
theorem slice_suf2 (A : Option Addr) (n c k : Nat) (h1 : k + 1 ≤ n) (h2 : n ≤ c) (w : World) (css : List (Elm 20)) (h : Sl (Pl encC) 20 w (.slice A n c) css) (hn : css.length = n) :
    ∃ A' c' n', n' + (k + 1) = n ∧ (∀ wx, (Instr.slice 63 (.slice A n c) (some (.int .i64 ((k : Int) + 1))) none none).run Try.prog wx = .ok (.slice A' n' c') wx) ∧ Sl (Pl encC) 20 w (.slice A' n' c') (css.drop (k + 1)) := by
  refine ⟨_, c - (k + 1), n - (k + 1), by omega, fun wx => ?_, h.suf (k + 1) (by omega)⟩
  have := slice_suf A n c (k + 1) h1 h2 wx
  rw [show ((k + 1 : Nat) : Int) = (k : Int) + 1 by omega] at this
  exact this
set_option maxRecDepth 8000 in
set_option maxHeartbeats 12000000 in
theorem qDeliver_any (wE : World) (T : Nat → Prop) (vs : Value) (s : RSt) (t : Int) (w : World) (kE : Kp wE w) (hX : StX wE T w vs s) (hok : OkR s) :
    Calls Try.prog 49 #[vs, .int .i64 t] w fun e w' => ∃ v vo, e = .returned (.tuple #[v, vo, .int .i64 (deliverQ s t).2.2]) ∧ StX wE (fun i => T i ∨ w.heap.size ≤ i) w' v (deliverQ s t).1 ∧ MsX wE (fun i => w.heap.size ≤ i) w' vo (deliverQ s t).2.1 ∧ Kp w w' := by
  have HXX := hid hX
  obtain ⟨vf, vl, vc, csx, rfl, XF, XL, XR, XO, XC⟩ := hX
  have hF := XF.keep (pl_stable _) kE
  have hL : Cpys w vl s.flight := sl_of XO.here XL fun i i1 i2 => rdCpy_stable _ _ _ _ kE (XR i i1 i2)
  have hC := XC.here
  obtain ⟨Af, cf, rfl, hcf, hmf⟩ := hF.form
  obtain ⟨Al, cl, rfl, hcl, hml⟩ := hL.form
  obtain ⟨Ac, cc, rfl, hcc, hmc⟩ := hC.form
  replace XF := hid XF
  replace XL := hid XL
  replace XR := hid XR
  replace XO := hid XO
  replace XC := hid XC
  have KE := hid kE
  clear kE
  have hA := Bx.new w #[.int .i64 s.reps, .int .i64 s.tick, .slice Af s.fates.length cf, .slice Al s.flight.length cl, .slice Ac s.cuts.length cc, .int .i64 s.sent, .int .i64 s.delivered, .int .i64 s.lost, .int .i64 s.made] 66
  have k0 := (Kp.refl w).alloc (.cells #[.int .i64 s.reps, .int .i64 s.tick, .slice Af s.fates.length cf, .slice Al s.flight.length cl, .slice Ac s.cuts.length cc, .int .i64 s.sent, .int .i64 s.delivered, .int .i64 s.lost, .int .i64 s.made] 66)
  have la := alloc_lt w (.cells #[.int .i64 s.reps, .int .i64 s.tick, .slice Af s.fates.length cf, .slice Al s.flight.length cl, .slice Ac s.cuts.length cc, .int .i64 s.sent, .int .i64 s.delivered, .int .i64 s.lost, .int .i64 s.made] 66)
  have hz : (w.alloc (.cells #[.int .i64 s.reps, .int .i64 s.tick, .slice Af s.fates.length cf, .slice Al s.flight.length cl, .slice Ac s.cuts.length cc, .int .i64 s.sent, .int .i64 s.delivered, .int .i64 s.lost, .int .i64 s.made] 66)).heap.size = w.heap.size + 1 := by simp
  generalize hR : deliverQ s t = R
  have HR := hid hR
  clear hR
  go_enter Try.func49, Try.ntmps49
  go_upto_region 1 with (fail)
  generalize hw0 : w.alloc (.cells #[.int .i64 s.reps, .int .i64 s.tick, .slice Af s.fates.length cf, .slice Al s.flight.length cl, .slice Ac s.cuts.length cc, .int .i64 s.sent, .int .i64 s.delivered, .int .i64 s.lost, .int .i64 s.made] 66) = w0 at *
  generalize hb0 : w.heap.size = b0 at *
  have hZ := Bx.new w0 [.int .i64 0, .int .i64 0, .slice none 0 0, .slice none 0 0, .slice none 0 0, .int .i64 0, .int .i64 0, .int .i64 0, .int .i64 0].toArray 66
  have k1 := k0.alloc (.cells [.int .i64 0, .int .i64 0, .slice none 0 0, .slice none 0 0, .slice none 0 0, .int .i64 0, .int .i64 0, .int .i64 0, .int .i64 0].toArray 66)
  have k1' := (Kp.refl w0).alloc (.cells [.int .i64 0, .int .i64 0, .slice none 0 0, .slice none 0 0, .slice none 0 0, .int .i64 0, .int .i64 0, .int .i64 0, .int .i64 0].toArray 66)
  have lz := alloc_lt w0 (.cells [.int .i64 0, .int .i64 0, .slice none 0 0, .slice none 0 0, .slice none 0 0, .int .i64 0, .int .i64 0, .int .i64 0, .int .i64 0].toArray 66)
  rw [hz] at hZ lz
  replace hA := hA.kp k1' (by omega)
  generalize hw1 : w0.alloc (.cells [.int .i64 0, .int .i64 0, .slice none 0 0, .slice none 0 0, .slice none 0 0, .int .i64 0, .int .i64 0, .int .i64 0, .int .i64 0].toArray 66) = w1 at *
  simp only [List.toList_toArray] at hA hZ
  have hwb : w.heap.size = b0 := hb0
  have kk := k1
  clear k0 k1 k1' hz hw0 hw1 la
  cases hlt : lateB s.tick t with
  | true =>
    have HF : Hid (R = (s, [], 2)) := hid (by rw [← HR.out, deliverQ, hlt]; rfl)
    by_cases q1 : t < s.tick
    · have e1 : decide (t < s.tick) = true := decide_eq_true q1
      have c0 := (hA).cell (j := 0) rfl
      have c1 := (hA).cell (j := 1) rfl
      have c2 := (hA).cell (j := 2) rfl
      have c3 := (hA).cell (j := 3) rfl
      have c4 := (hA).cell (j := 4) rfl
      have c5 := (hA).cell (j := 5) rfl
      have c6 := (hA).cell (j := 6) rfl
      have c7 := (hA).cell (j := 7) rfl
      have c8 := (hA).cell (j := 8) rfl
      have d0 := (hZ).cell (j := 0) rfl
      have d1 := (hZ).cell (j := 1) rfl
      have d2 := (hZ).cell (j := 2) rfl
      have d3 := (hZ).cell (j := 3) rfl
      have d4 := (hZ).cell (j := 4) rfl
      have d5 := (hZ).cell (j := 5) rfl
      have d6 := (hZ).cell (j := 6) rfl
      have d7 := (hZ).cell (j := 7) rfl
      have d8 := (hZ).cell (j := 8) rfl
      have f0 := (hZ).free (j := 0) (by simp)
      have f1 := (hZ).free (j := 1) (by simp)
      have f2 := (hZ).free (j := 2) (by simp)
      have f3 := (hZ).free (j := 3) (by simp)
      have f4 := (hZ).free (j := 4) (by simp)
      have f5 := (hZ).free (j := 5) (by simp)
      have f6 := (hZ).free (j := 6) (by simp)
      have f7 := (hZ).free (j := 7) (by simp)
      have f8 := (hZ).free (j := 8) (by simp)
      go_wp2
      refine bodyPost_ret (results_cell_bx3 rfl _ _ (b0 + 1) [.int .i64 s.reps, .int .i64 s.tick, .slice Af s.fates.length cf, .slice Al s.flight.length cl, .slice Ac s.cuts.length cc, .int .i64 s.sent, .int .i64 s.delivered, .int .i64 s.lost, .int .i64 s.made] _ rfl (hZ.all (cs := [.int .i64 s.reps, .int .i64 s.tick, .slice Af s.fates.length cf, .slice Al s.flight.length cl, .slice Ac s.cuts.length cc, .int .i64 s.sent, .int .i64 s.delivered, .int .i64 s.lost, .int .i64 s.made]) rfl).range Try.underlying66 rfl (by kernel_rfl)) rfl ?_
      have kF := Kp.setCells (by omega : w.heap.size ≤ b0 + 1) [.int .i64 s.reps, .int .i64 s.tick, .slice Af s.fates.length cf, .slice Al s.flight.length cl, .slice Ac s.cuts.length cc, .int .i64 s.sent, .int .i64 s.delivered, .int .i64 s.lost, .int .i64 s.made] 0 _ kk
      exact ⟨_, _, by rw [HF.out]; rfl, by rw [HF.out]; exact (HXX.out.kp kF).mono fun _ h => .inl h, by rw [HF.out]; exact MsX.nil _ _ _, kF⟩
    · have e1 : decide (t < s.tick) = false := decide_eq_false q1
      have e2 : decide (1048576 < t) = true := by
        have := hlt
        rw [lateB, e1] at this
        simpa using this
      have c0 := (hA).cell (j := 0) rfl
      have c1 := (hA).cell (j := 1) rfl
      have c2 := (hA).cell (j := 2) rfl
      have c3 := (hA).cell (j := 3) rfl
      have c4 := (hA).cell (j := 4) rfl
      have c5 := (hA).cell (j := 5) rfl
      have c6 := (hA).cell (j := 6) rfl
      have c7 := (hA).cell (j := 7) rfl
      have c8 := (hA).cell (j := 8) rfl
      have d0 := (hZ).cell (j := 0) rfl
      have d1 := (hZ).cell (j := 1) rfl
      have d2 := (hZ).cell (j := 2) rfl
      have d3 := (hZ).cell (j := 3) rfl
      have d4 := (hZ).cell (j := 4) rfl
      have d5 := (hZ).cell (j := 5) rfl
      have d6 := (hZ).cell (j := 6) rfl
      have d7 := (hZ).cell (j := 7) rfl
      have d8 := (hZ).cell (j := 8) rfl
      have f0 := (hZ).free (j := 0) (by simp)
      have f1 := (hZ).free (j := 1) (by simp)
      have f2 := (hZ).free (j := 2) (by simp)
      have f3 := (hZ).free (j := 3) (by simp)
      have f4 := (hZ).free (j := 4) (by simp)
      have f5 := (hZ).free (j := 5) (by simp)
      have f6 := (hZ).free (j := 6) (by simp)
      have f7 := (hZ).free (j := 7) (by simp)
      have f8 := (hZ).free (j := 8) (by simp)
      go_wp2
      refine bodyPost_ret (results_cell_bx3 rfl _ _ (b0 + 1) [.int .i64 s.reps, .int .i64 s.tick, .slice Af s.fates.length cf, .slice Al s.flight.length cl, .slice Ac s.cuts.length cc, .int .i64 s.sent, .int .i64 s.delivered, .int .i64 s.lost, .int .i64 s.made] _ rfl (hZ.all (cs := [.int .i64 s.reps, .int .i64 s.tick, .slice Af s.fates.length cf, .slice Al s.flight.length cl, .slice Ac s.cuts.length cc, .int .i64 s.sent, .int .i64 s.delivered, .int .i64 s.lost, .int .i64 s.made]) rfl).range Try.underlying66 rfl (by kernel_rfl)) rfl ?_
      have kF := Kp.setCells (by omega : w.heap.size ≤ b0 + 1) [.int .i64 s.reps, .int .i64 s.tick, .slice Af s.fates.length cf, .slice Al s.flight.length cl, .slice Ac s.cuts.length cc, .int .i64 s.sent, .int .i64 s.delivered, .int .i64 s.lost, .int .i64 s.made] 0 _ kk
      exact ⟨_, _, by rw [HF.out]; rfl, by rw [HF.out]; exact (HXX.out.kp kF).mono fun _ h => .inl h, by rw [HF.out]; exact MsX.nil _ _ _, kF⟩
  | false =>
    have HG : Hid (R = ((delR t s.flight.length ({ s with tick := t }, [])).1, (delR t s.flight.length ({ s with tick := t }, [])).2, 0)) := hid (by rw [← HR.out, deliverQ, hlt]; rfl)
    simp only [lateB, Bool.or_eq_false_iff] at hlt
    obtain ⟨e1, e2⟩ := hlt
    clear HR
    have c1 := hA.cell (j := 1) rfl
    have ff1 := hA.free (j := 1) (by simp)
    go_upto_region 4 with (fail)
    have kg := (Kg.refl w1 b0).set (p := ⟨b0, 1, none⟩) (.inl rfl) (.int .i64 t)
    have kS := kk.set (p := ⟨b0, 1, none⟩) (by show w.heap.size ≤ b0; omega) (.int .i64 t)
    have hA2 := hA.set (j := 1) (by simp) (.int .i64 t)
    have hZ2 := hZ.kg kg lz (by omega)
    have lz2 := Nat.lt_of_lt_of_le lz kg.size
    clear c1 ff1 kg hA hZ kk lz
    generalize w1.setCell ⟨b0, 1, none⟩ (.int .i64 t) = w2 at *
    have c3 := hA2.cell (j := 3) rfl
    go_wp2_with fail
    refine (qFirst_any _ s.flight _ (hL.keep rdCpy_stable kS)).mono ?_
    rintro e w3 ⟨rfl, k3⟩
    have k4 := kS.trans k3
    replace hA2 := hA2.kp k3 (by omega)
    replace hZ2 := hZ2.kp k3 lz2
    have lz3 := Nat.lt_of_lt_of_le lz2 k3.size
    have FL : FlW wE T w3 b0 (.slice none 0 0) (.slice Al s.flight.length cl) csx s.flight := ⟨XL.out, XR.out, _, fun k hk => ⟨by omega, by omega, by simp [Value.ownBlock], by omega, .inl hk.1⟩, XO.out.fit.kp k4⟩
    clear k3 kS c3 lz2
    have HG0 := HG
    have hd0 := hok.delivered
    have hl0 := hok.lost
    have hfb := hok.flight
    go_wp2_with fail
    go_loopw [7, 8] (fun vo i wr => ∃ (fl : List Cpy) (d l : Int) (out : List Message) (css : List (Elm 20)) (cso : List (Elm 18)) (AL : Option Addr) (cL : Nat), i = .int .i64 (firstR fl) ∧ Kp w wr ∧ Bx wr b0 [.int .i64 s.reps, .int .i64 t, .slice Af s.fates.length cf, .slice AL fl.length cL, .slice Ac s.cuts.length cc, .int .i64 s.sent, .int .i64 d, .int .i64 l, .int .i64 s.made] ∧ Bx wr (b0 + 1) [.int .i64 0, .int .i64 0, .slice none 0 0, .slice none 0 0, .slice none 0 0, .int .i64 0, .int .i64 0, .int .i64 0, .int .i64 0] ∧ b0 + 1 < wr.heap.size ∧
      FlW wE T wr b0 vo (.slice AL fl.length cL) css fl ∧ fl.length ≤ cL ∧ cL ≤ 9223372036854775807 ∧ Own encC 34 18 (b0 + 2) wr vo cso ∧ Hid (cso.length = out.length ∧ ∀ k (h1 : k < cso.length) (h2 : k < out.length), rdMsg wE cso[k].val out[k]) ∧
      Hid (R = ((delR t fl.length ({ s with tick := t, flight := fl, delivered := d, lost := l }, out)).1, (delR t fl.length ({ s with tick := t, flight := fl, delivered := d, lost := l }, out)).2, 0)) ∧
      Hid (0 ≤ d ∧ 0 ≤ l ∧ d + l + fl.length ≤ 3000000 ∧ out.length + fl.length ≤ 1000000)) (fun _ _ wr => match wr.cell? ⟨b0, 3, none⟩ with | some (.slice _ n _) => n | _ => 0)
    case atStart => exact ⟨s.flight, s.delivered, s.lost, [], csx, [], Al, cl, rfl, k4, hA2, hZ2, lz3, FL, hcl, hml, Own.nil _ _ _ _ _, hid ⟨rfl, fun k h1 _ => absurd h1 (by simp)⟩, HG, hid ⟨by omega, by omega, by omega, by simp; omega⟩⟩
    case round =>
      clear FL hA2 hZ2 k4 lz3 HG HG0
      obtain ⟨fl, d, l, out, css, cso, AL, cL, rfl, kr, hA, hZ, lz, FL, hcL, hmL, hown, HO, HG, HB⟩ := hrel
      have hm3 : wr.cell? ⟨b0, 3, none⟩ = some (.slice AL fl.length cL) := hA.cell (j := 3) rfl
      rcases firstR_spec fl with ⟨h1, h2⟩ | ⟨j, h2, h1, -⟩
      · have HF : Hid (R = ({ s with tick := t, flight := fl, delivered := d, lost := l }, out, 0)) := hid (by rw [HG.out, h1]; rfl)
        rw [h2]
        replace h1 := hid h1
        replace h2 := hid h2
        have c0 := (hA).cell (j := 0) rfl
        have c1 := (hA).cell (j := 1) rfl
        have c2 := (hA).cell (j := 2) rfl
        have c3 := (hA).cell (j := 3) rfl
        have c4 := (hA).cell (j := 4) rfl
        have c5 := (hA).cell (j := 5) rfl
        have c6 := (hA).cell (j := 6) rfl
        have c7 := (hA).cell (j := 7) rfl
        have c8 := (hA).cell (j := 8) rfl
        have d0 := (hZ).cell (j := 0) rfl
        have d1 := (hZ).cell (j := 1) rfl
        have d2 := (hZ).cell (j := 2) rfl
        have d3 := (hZ).cell (j := 3) rfl
        have d4 := (hZ).cell (j := 4) rfl
        have d5 := (hZ).cell (j := 5) rfl
        have d6 := (hZ).cell (j := 6) rfl
        have d7 := (hZ).cell (j := 7) rfl
        have d8 := (hZ).cell (j := 8) rfl
        have f0 := (hZ).free (j := 0) (by simp)
        have f1 := (hZ).free (j := 1) (by simp)
        have f2 := (hZ).free (j := 2) (by simp)
        have f3 := (hZ).free (j := 3) (by simp)
        have f4 := (hZ).free (j := 4) (by simp)
        have f5 := (hZ).free (j := 5) (by simp)
        have f6 := (hZ).free (j := 6) (by simp)
        have f7 := (hZ).free (j := 7) (by simp)
        have f8 := (hZ).free (j := 8) (by simp)
        go_wp2
        refine bodyPost_ret (results_cell_bx3 rfl _ _ (b0 + 1) [.int .i64 s.reps, .int .i64 t, .slice Af s.fates.length cf, .slice (AL) fl.length cL, .slice Ac s.cuts.length cc, .int .i64 s.sent, .int .i64 d, .int .i64 l, .int .i64 s.made] _ rfl (hZ.all (cs := [.int .i64 s.reps, .int .i64 t, .slice Af s.fates.length cf, .slice (AL) fl.length cL, .slice Ac s.cuts.length cc, .int .i64 s.sent, .int .i64 d, .int .i64 l, .int .i64 s.made]) rfl).range Try.underlying66 rfl (by kernel_rfl)) rfl ?_
        have kF := Kp.setCells (by omega : w.heap.size ≤ b0 + 1) [.int .i64 s.reps, .int .i64 t, .slice Af s.fates.length cf, .slice (AL) fl.length cL, .slice Ac s.cuts.length cc, .int .i64 s.sent, .int .i64 d, .int .i64 l, .int .i64 s.made] 0 _ kr
        have kgF := Kg.setCells (g := b0 + 1) [.int .i64 s.reps, .int .i64 t, .slice Af s.fates.length cf, .slice (AL) fl.length cL, .slice Ac s.cuts.length cc, .int .i64 s.sent, .int .i64 d, .int .i64 l, .int .i64 s.made] 0 _ (Kg.refl wr (b0 + 1))
        have ownF := hown.kg kgF (by omega)
        obtain ⟨TF, hTF, hoF⟩ := FL.row
        exact ⟨_, _, by rw [HF.out]; rfl, by rw [HF.out]; exact ⟨_, _, _, _, rfl, XF.out, FL.len, FL.rd, (hoF.kg kgF fun hb => (hTF _ hb).2.1 rfl).mono fun i hi => by rcases (hTF i hi).2.2.2.2 with h | h; exact .inl h; exact .inr (by omega), (XC.out.kp kF).mono fun _ h => .inl h⟩, by rw [HF.out]; exact ⟨_, (ownF.owS.imp fun _ h => h.sl encC_len).mono fun i hi => by have := ownF.ge i hi; omega, HO.out.1, HO.out.2⟩, kF⟩
      · have hjc : j < css.length := by rw [FL.len]; exact h1
        rw [h2]
        obtain ⟨TL, hT, ho⟩ := FL.row
        have hraw := ho.here
        obtain ⟨g, oo, cs, hAe, hg, hcs, hc, hpl⟩ := hraw.at_ hjc
        subst hAe
        unfold Pl encC at hpl
        subst hpl
        obtain ⟨ms, hms, hm⟩ := FL.rd j hjc h1
        rw [hms] at hc
        have i0 : wr.cell? ⟨g, oo + j * 20, none⟩ = some (.int .i64 fl[j].due) := hc 0 _ rfl
        have hrng : wr.rangeAt g (oo + j * 20 + 2) ms := fun i v hi => by
          have := hc (i + 2) v (by simpa using hi)
          rw [show oo + j * 20 + (i + 2) = oo + j * 20 + 2 + i by omega] at this
          exact this
        have hjl : (j : Int) < (fl.length : Int) := by omega
        have hbb := HB.out
        by_cases hd : fl[j].due ≤ t
        · have e3 : decide (fl[j].due ≤ t) = true := decide_eq_true hd
          obtain ⟨n, hn⟩ : ∃ n, fl.length = n + 1 := ⟨fl.length - 1, by omega⟩
          have HF : Hid (R = ((delR t n (oneR { s with tick := t, flight := fl, delivered := d, lost := l } out j fl[j].m)).1, (delR t n (oneR { s with tick := t, flight := fl, delivered := d, lost := l } out j fl[j].m)).2, 0)) := hid (by rw [HG.out, hn, delR_go t { s with tick := t, flight := fl, delivered := d, lost := l } out h2 h1 hd n])
          have HRD := hid (read_del FL.len FL.rd j h1)
          have HLD : Hid ((fl.take j ++ fl.drop (j + 1)).length = n ∧ (css.take j ++ css.drop (j + 1)).length = n) := hid ⟨by simp; omega, by simp [FL.len]; omega⟩
          have HJ := hid h1
          have HJC := hid hjc
          have HN := hid hn
          have HFLL := hid FL.len
          have HFR := hid h2
          have hn1 : n + 1 = fl.length := hn.symm
          clear HG hd hc hms hcs hT ho FL h2 hn
          generalize fl[j] = x at *
          obtain ⟨xd, xn, xm⟩ := x
          dsimp only at i0 hm HF e3
          obtain ⟨Ao, co, rfl, hco, hmo⟩ := hown.form
          have hmc : ms.length = 18 := (rdMsg_one hm).1
          have HMC := hid hmc
          have H1M := hid (rdMsg_one hm).2
          obtain ⟨x1, x2⟩ := rdMsg_ends hm
          have X1 := hid x1
          have X2 := hid x2
          have HM := hid hm
          have hi : (Try.prog.info? 34).map (·.size) = some ms.length := by rw [hmc]; kernel_rfl
          have hfl3 : ms.length = (#[.int .i64 0, .int .i64 0, .int .i64 0, .slice none 0 0, .slice none 0 0, .slice none 0 0, .int .i64 0, .int .i64 0, .int .i64 0, .int .i64 0, .int .i64 0, .slice none 0 0, .int .i64 0, .int .i64 0, .int .i64 0, .int .i64 0, .bool false, .slice none 0 0] : Array Value).size := hmc
          obtain ⟨hth, hbx, kb, hlb⟩ := msg_boxQ wr ms hmc
          clear hn1
          have hol : (cso.length : Int) ≤ 1000000 := by have := HO.out.1; omega
          have hol2 : cso.length ≤ 1000000 := by omega
          have hfl2 : fl.length ≤ 1000000 := by omega
          have hdl := HB.out.1
          have hll := HB.out.2.1
          have hdb : d ≤ 3000000 := by omega
          have hlb2 : l ≤ 3000000 := by omega
          clear hmc hm x1 x2 hbb
          have c0 := (hA).cell (j := 0) rfl
          have c1 := (hA).cell (j := 1) rfl
          have c2 := (hA).cell (j := 2) rfl
          have c3 := (hA).cell (j := 3) rfl
          have c4 := (hA).cell (j := 4) rfl
          have c5 := (hA).cell (j := 5) rfl
          have c6 := (hA).cell (j := 6) rfl
          have c7 := (hA).cell (j := 7) rfl
          have c8 := (hA).cell (j := 8) rfl
          go_upto_region 9 with (first | (refine wpList_load_mid rfl 34 (.tmp 44) rfl g (oo + j * 20 + 2) rfl ms _ hrng Try.underlying34 rfl hi ?_) | (refine wpList_store_mid rfl 34 (.tmp 9) (.tmp 45) rfl wr.heap.size 0 ms.toArray rfl rfl hth hi (all_oneCell_toArray H1M.out) ?_; generalize (wr.alloc (.cells #[.int .i64 0, .int .i64 0, .int .i64 0, .slice none 0 0, .slice none 0 0, .slice none 0 0, .int .i64 0, .int .i64 0, .int .i64 0, .int .i64 0, .int .i64 0, .slice none 0 0, .int .i64 0, .int .i64 0, .int .i64 0, .int .i64 0, .bool false, .slice none 0 0] 34)).setCells wr.heap.size 0 ms = wj at *))
          have kj := kr.trans kb
          have hzj := kb.size
          have hAj := hA.kp kb (by omega)
          have hZj := hZ.kp kb lz
          have hownj := hown.kp kb
          have hbl := hown.blk_lt
          have hrawj := hraw.keep (pl_stable _) kb
          have lzj := Nat.lt_of_lt_of_le lz hzj
          have lb0 : b0 < wj.heap.size := by omega
          clear c0 c1 c2 c3 c4 c5 c6 c7 c8 hA hZ hown hrng i0 hth kb kr hraw
          generalize hbm : wr.heap.size = bm at *
          have c0 := (hAj).cell (j := 0) rfl
          have c1 := (hAj).cell (j := 1) rfl
          have c2 := (hAj).cell (j := 2) rfl
          have c3 := (hAj).cell (j := 3) rfl
          have c4 := (hAj).cell (j := 4) rfl
          have c5 := (hAj).cell (j := 5) rfl
          have c6 := (hAj).cell (j := 6) rfl
          have c7 := (hAj).cell (j := 7) rfl
          have c8 := (hAj).cell (j := 8) rfl
          have hjn : j ≤ fl.length := by omega
          have hsp := slice_pre (some ⟨g, oo, none⟩) fl.length cL j hjn hcL
          have hlj : (css.take j).length = j := by have := HJC.out; simp; omega
          go_upto_region 10 with (at_builtin; refine wpl_append_flat rfl (.tmp 46) (.tmp 50) rfl stCpyM encC_len encC_one rfl (Own.lit (base := wj.heap.size) (encC (size := 20)) wj #[] [] (Nat.le_refl _) (by simp) rfl rfl) rfl ((hrawj.pre j (by omega)).keep (pl_stable _) ((Kp.refl wj).alloc _)) (by rw [hlj]; simp; omega) (by rw [hlj]; simp; omega) (by simp) ?_; intro va wa owna hgrowa hata hnila)
          have ka : Kp wj wa := ((Kp.refl wj).alloc _).grown hgrowa (fun k hk => Nat.le_of_eq (Option.some.inj (show some wj.heap.size = some k from hk)))
          replace owna : Own encC 116 20 wj.heap.size wa va (css.take j) := owna
          obtain ⟨Aa, ca, ea, hca, hma⟩ := owna.form
          rw [hlj] at ea
          subst ea
          have hza := ka.size
          have hAa := hAj.kp ka (by omega)
          obtain ⟨A', c', n', hn', hss, hsuf⟩ := slice_suf2 (some ⟨g, oo, none⟩) fl.length cL j (by have := HJ.out; omega) hcL wa css (hrawj.keep (pl_stable _) ka) HFLL.out
          have hlB := HLD.out.2
          have hld : (css.drop (j + 1)).length = n' := by have := HFLL.out; simp; omega
          clear c0 c1 c2 c3 c4 c5 c6 c7 c8 hgrowa hata hnila hsp hrawj
          have c0 := (hAa).cell (j := 0) rfl
          have c1 := (hAa).cell (j := 1) rfl
          have c2 := (hAa).cell (j := 2) rfl
          have c3 := (hAa).cell (j := 3) rfl
          have c4 := (hAa).cell (j := 4) rfl
          have c5 := (hAa).cell (j := 5) rfl
          have c6 := (hAa).cell (j := 6) rfl
          have c7 := (hAa).cell (j := 7) rfl
          have c8 := (hAa).cell (j := 8) rfl
          have hjb : (j : Int) ≤ 1000000 := by have := HJ.out; omega
          go_upto_region 11 with (at_builtin; refine wpl_append_flat rfl (.tmp 52) (.tmp 57) rfl stCpyM encC_len encC_one rfl owna rfl hsuf (by rw [hlj, hld]; omega) (by rw [hlj, hld]; omega) hza ?_; intro vb wb ownb hgrowb hatb hnilb; obtain ⟨AB, cB, eB, hcB, hmB⟩ := ownb.form; rw [hlB] at eB hcB; subst eB; have kbb := ka.grown hgrowb owna.ge; have hAb := hAj.kp kbb lb0; have c3b := hAb.cell (j := 3) rfl; have f3b := hAb.free (j := 3) (by simp))
          have hgo := ownb.ge
          have hzb := kbb.size
          have lzb : b0 + 1 < wb.heap.size := by omega
          have lbb : b0 < wb.heap.size := by omega
          have kS := (kj.trans kbb).set (p := ⟨b0, 3, none⟩) (by show w.heap.size ≤ b0; omega) (.slice AB n cB)
          have kg := (Kg.refl wb b0).set (p := ⟨b0, 3, none⟩) (.inl rfl) (.slice AB n cB)
          have hA9 := hAb.set (j := 3) (by simp) (.slice AB n cB)
          have hZ9 := (hZj.kp kbb lzj).kg kg lzb (by omega)
          have hlm : bm < wb.heap.size := by omega
          have hbx9 := (hbx.kp kbb hlb).kg kg hlm (by omega)
          have hs9 := kg.size
          have ho9 : OwS (fun q => (Value.slice AB n cB).ownBlock = some q) _ (fun w' => Sl (Pl encC) 20 w' (.slice AB n cB) (css.take j ++ css.drop (j + 1))) := (ownb.kg kg lb0).owS.imp fun _ h => h.sl encC_len
          have hlt9 := (ownb.kg kg lb0).blk_lt
          have hown9 := (hownj.kp kbb).kg kg (by omega)
          have HT9 : Hid (∀ q, (Value.slice AB n cB).ownBlock = some q → b0 + 2 ≤ q ∧ (Value.slice Ao cso.length co).ownBlock ≠ some q) := hid fun q hq => ⟨by have := hgo q hq; omega, fun e => by have := hgo q hq; have := hbl q e; omega⟩
          clear c0 c1 c2 c3 c4 c5 c6 c7 c8 c3b f3b hAj hZj hownj hAa hAb hbx ownb owna hss hsuf hgrowb hatb hnilb kj ka kbb kg hgo hzb
          generalize hw9 : World.setCell _ ⟨b0, 3, none⟩ (.slice AB n cB) = w9 at *
          clear hw9
          have lz9 : b0 + 1 < w9.heap.size := by omega
          have lb9 : b0 < w9.heap.size := by omega
          have lm9 : bm < w9.heap.size := by omega
          have hst : StV w9 (.agg [.int .i64 s.reps, .int .i64 t, .slice Af s.fates.length cf, .slice AB n cB, .slice Ac s.cuts.length cc, .int .i64 s.sent, .int .i64 d, .int .i64 l, .int .i64 s.made].toArray) { s with tick := t, flight := fl.take j ++ fl.drop (j + 1), delivered := d, lost := l } := ⟨_, _, _, by rw [← HLD.out.1], hF.keep (pl_stable _) kS, sl_of ho9.here (by rw [HLD.out.1, HLD.out.2]) (fun k h1 h2 => rdCpy_stable _ _ _ _ (KE.out.trans kS) (HRD.out k h1 h2)), hC.keep (pl_stable _) kS⟩
          have HST := hid hst
          clear hst lzb lbb hlm hs9 hza hzj lb0 lzj
          have c0 := (hA9).cell (j := 0) rfl
          have c1 := (hA9).cell (j := 1) rfl
          have c2 := (hA9).cell (j := 2) rfl
          have c3 := (hA9).cell (j := 3) rfl
          have c4 := (hA9).cell (j := 4) rfl
          have c5 := (hA9).cell (j := 5) rfl
          have c6 := (hA9).cell (j := 6) rfl
          have c7 := (hA9).cell (j := 7) rfl
          have c8 := (hA9).cell (j := 8) rfl
          have y1 := hbx9.cell X1.out
          have y2 := hbx9.cell X2.out
          go_wp2_with fail
          refine (qLinked_any _ _ xm.sender xm.to _ HST.out).mono ?_
          rintro e w10 ⟨rfl, k10⟩
          have HLK : Hid (oneR { s with tick := t, flight := fl, delivered := d, lost := l } out j xm = if linkR { s with tick := t, flight := fl.take j ++ fl.drop (j + 1), delivered := d, lost := l } xm.sender xm.to then ({ s with tick := t, flight := fl.take j ++ fl.drop (j + 1), delivered := d + 1, lost := l }, out ++ [xm]) else ({ s with tick := t, flight := fl.take j ++ fl.drop (j + 1), delivered := d, lost := l + 1 }, out)) := hid rfl
          have HF1 := hid (HF.out.trans (by rw [HLK.out]))
          clear HF HLK HST
          generalize linkR { s with tick := t, flight := fl.take j ++ fl.drop (j + 1), delivered := d, lost := l } xm.sender xm.to = lk at *
          have kS10 := kS.trans k10
          have hA10 := hA9.kp k10 lb9
          have hZ10 := hZ9.kp k10 lz9
          have hbx10 := hbx9.kp k10 lm9
          have ho10 := ho9.kp k10
          have hown10 := hown9.kp k10
          have hz10 := k10.size
          have lz10 : b0 + 1 < w10.heap.size := by omega
          have lb10 : b0 < w10.heap.size := by omega
          have lm10 : bm < w10.heap.size := by omega
          clear c0 c1 c2 c3 c4 c5 c6 c7 c8 y1 y2 hA9 hZ9 hbx9 ho9 hown9 kS k10 lz9 lb9 lm9
          cases lk with
          | true =>
            have HF2 : Hid (R = ((delR t (fl.take j ++ fl.drop (j + 1)).length ({ s with tick := t, flight := fl.take j ++ fl.drop (j + 1), delivered := d + 1, lost := l }, out ++ [xm])).1, (delR t (fl.take j ++ fl.drop (j + 1)).length ({ s with tick := t, flight := fl.take j ++ fl.drop (j + 1), delivered := d + 1, lost := l }, out ++ [xm])).2, 0)) := hid (by rw [HLD.out.1]; exact HF1.out)
            clear HF1
            have c6 := hA10.cell (j := 6) rfl
            have f6 := hA10.free (j := 6) (by simp)
            go_upto_region 13 with (fail)
            have kS11 := kS10.set (p := ⟨b0, 6, none⟩) (by show w.heap.size ≤ b0; omega) (.int .i64 (d + 1))
            have kg := (Kg.refl w10 b0).set (p := ⟨b0, 6, none⟩) (.inl rfl) (.int .i64 (d + 1))
            have hA11 := hA10.set (j := 6) (by simp) (.int .i64 (d + 1))
            have hZ11 := hZ10.kg kg lz10 (by omega)
            have hbx11 := hbx10.kg kg lm10 (by omega)
            have hown11 := hown10.kg kg (by omega)
            have ho11 := ho10.kg kg (fun h => by have := (HT9.out _ h).1; omega)
            have hs11 := kg.size
            clear c6 f6 kg hA10 hZ10 hbx10 ho10 hown10 kS10
            generalize hw11 : World.setCell _ ⟨b0, 6, none⟩ (.int .i64 (d + 1)) = w11 at *
            clear hw11
            have lz11 : b0 + 1 < w11.heap.size := by omega
            have lb11 : b0 < w11.heap.size := by omega
            have lo11 : b0 + 2 ≤ w11.heap.size := by omega
            go_upto_region 7 with (first | (refine wpList_load_mid rfl 34 (.tmp 9) rfl bm 0 rfl ms _ hbx11.range Try.underlying34 rfl hi ?_) | (at_builtin; rw [fold_fill #[.int .i64 0, .int .i64 0, .int .i64 0, .slice none 0 0, .slice none 0 0, .slice none 0 0, .int .i64 0, .int .i64 0, .int .i64 0, .int .i64 0, .int .i64 0, .slice none 0 0, .int .i64 0, .int .i64 0, .int .i64 0, .int .i64 0, .bool false, .slice none 0 0] ms hfl3]; refine wpl_append_flat rfl (.tmp 70) (.tmp 72) rfl stMsgM encC_len encC_one rfl (hown11.alloc _) rfl (Sl.one (R := Pl encC) w11 _ 34 18 (⟨ms, HMC.out, H1M.out⟩ : Elm 18) HMC.out rfl) (by simp; omega) (by simp; omega) (by simp; omega) ?_; intro v9 w12 hown12 hgrow12 hat12 hnil12; obtain ⟨A9, c9, e9, hc9, hm9⟩ := hown12.form; rw [List.length_append, List.length_singleton] at e9; subst e9))
            have hgr : (w11.alloc (.cells ms.toArray 34)).grownBy w12 (Value.slice Ao cso.length co).ownBlock := hgrow12
            have hat : (Value.slice A9 (cso.length + 1) c9).ownBlock = (Value.slice Ao cso.length co).ownBlock ∨ (Value.slice A9 (cso.length + 1) c9).ownBlock = some (w11.alloc (.cells ms.toArray 34)).heap.size := hat12
            have kA := (Kp.refl w11).alloc (.cells ms.toArray 34)
            have hge := hown11.ge
            have hzA := kA.size
            have hs12 := hgr.size
            have kS12 := (kS11.trans kA).grown hgr (fun k hk => by have := hge k hk; omega)
            have hA12 := (hA11.kp kA lb11).grown hgr (fun e => by have := hge _ e; omega) (by omega)
            have hZ12 := (hZ11.kp kA lz11).grown hgr (fun e => by have := hge _ e; omega) (by omega)
            have ho12 := (ho11.kp kA).step hgr.size fun k hk hlt => hgr.block k hlt fun e => (HT9.out k hk).2 e.symm
            have HB2 : Hid (0 ≤ d + 1 ∧ 0 ≤ l ∧ d + 1 + l + (fl.take j ++ fl.drop (j + 1)).length ≤ 3000000 ∧ (out ++ [xm]).length + (fl.take j ++ fl.drop (j + 1)).length ≤ 1000000) := hid (by rw [HLD.out.1, List.length_append, List.length_singleton]; have := HB.out; have := HN.out; omega)
            have HT12 : Hid (∀ q, (Value.slice AB n cB).ownBlock = some q → q ≠ b0 ∧ q ≠ b0 + 1 ∧ (Value.slice A9 (cso.length + 1) c9).ownBlock ≠ some q ∧ q < w12.heap.size ∧ (T q ∨ b0 + 2 ≤ q)) := hid fun q hq => by
              have h1 := HT9.out q hq
              have h2 := hlt9 q hq
              refine ⟨by omega, by omega, fun e => ?_, by omega, .inr h1.1⟩
              rcases hat with h | h
              · rw [h] at e
                exact h1.2 e
              · rw [h] at e
                injection e with e
                omega
            have HO2 : Hid ((cso ++ [(⟨ms, HMC.out, H1M.out⟩ : Elm 18)]).length = (out ++ [xm]).length ∧ ∀ k (h1 : k < (cso ++ [(⟨ms, HMC.out, H1M.out⟩ : Elm 18)]).length) (h2 : k < (out ++ [xm]).length), rdMsg wE (cso ++ [(⟨ms, HMC.out, H1M.out⟩ : Elm 18)])[k].val (out ++ [xm])[k]) := hid ⟨by simp [HO.out.1], read_app HO.out.1 HO.out.2 (read_one (R := rdMsg) (c := (⟨ms, HMC.out, H1M.out⟩ : Elm 18)) HM.out)⟩
            clear hgrow12 hat12 hnil12 hgr hat kA hge hA11 hZ11 hbx11 ho11 hown11 kS11
            have lb12 : b0 < w12.heap.size := by omega
            have lz12 : b0 + 1 < w12.heap.size := by omega
            have FLn : FlW wE T w12 b0 _ (.slice AB (fl.take j ++ fl.drop (j + 1)).length cB) (css.take j ++ css.drop (j + 1)) (fl.take j ++ fl.drop (j + 1)) := ⟨by rw [HLD.out.1, HLD.out.2], HRD.out, _, HT12.out, by rw [HLD.out.1]; exact ho12⟩
            have hcp := FLn.cpys (KE.out.trans kS12)
            have c3 := hA12.cell (j := 3) rfl
            rw [HLD.out.1] at hcp
            go_wp2_with fail
            refine (qFirst_any _ _ _ hcp).mono ?_
            rintro e w13 ⟨rfl, k13⟩
            have hA13 := hA12.kp k13 lb12
            have hm13 : w13.cell? ⟨b0, 3, none⟩ = some (.slice AB n cB) := hA13.cell (j := 3) rfl
            clear c3 hcp
            go_wp2_with fail
            go_roundw
            case rel => exact ⟨_, d + 1, l, out ++ [xm], _, _, AB, cB, rfl, kS12.trans k13, by rw [HLD.out.1]; exact hA13, hZ12.kp k13 lz12, Nat.lt_of_lt_of_le lz12 k13.size, ⟨FLn.len, FLn.rd, _, fun q hq => by have := HT12.out q hq; exact ⟨this.1, this.2.1, this.2.2.1, Nat.lt_of_lt_of_le this.2.2.2.1 k13.size, this.2.2.2.2⟩, by rw [HLD.out.1]; exact ho12.kp k13⟩, by rw [HLD.out.1]; exact hcB, hmB, hown12.kp k13, hid HO2.out, HF2, HB2⟩
            case measure =>
              rw [hm13, hm3]
              have := HN.out
              show n < fl.length
              omega
          | false =>
            have HF2 : Hid (R = ((delR t (fl.take j ++ fl.drop (j + 1)).length ({ s with tick := t, flight := fl.take j ++ fl.drop (j + 1), delivered := d, lost := l + 1 }, out)).1, (delR t (fl.take j ++ fl.drop (j + 1)).length ({ s with tick := t, flight := fl.take j ++ fl.drop (j + 1), delivered := d, lost := l + 1 }, out)).2, 0)) := hid (by rw [HLD.out.1]; exact HF1.out)
            clear HF1
            have c7 := hA10.cell (j := 7) rfl
            have f7 := hA10.free (j := 7) (by simp)
            go_upto_region 7 with (fail)
            have kS12 := kS10.set (p := ⟨b0, 7, none⟩) (by show w.heap.size ≤ b0; omega) (.int .i64 (l + 1))
            have kg := (Kg.refl w10 b0).set (p := ⟨b0, 7, none⟩) (.inl rfl) (.int .i64 (l + 1))
            have hA12 := hA10.set (j := 7) (by simp) (.int .i64 (l + 1))
            have hZ12 := hZ10.kg kg lz10 (by omega)
            have hown12 := hown10.kg kg (by omega)
            have ho12 := ho10.kg kg (fun h => by have := (HT9.out _ h).1; omega)
            have hs12 := kg.size
            clear c7 f7 kg hA10 hZ10 hbx10 ho10 hown10 kS10
            generalize hw12 : World.setCell _ ⟨b0, 7, none⟩ (.int .i64 (l + 1)) = w12 at *
            clear hw12
            have HB2 : Hid (0 ≤ d ∧ 0 ≤ l + 1 ∧ d + (l + 1) + (fl.take j ++ fl.drop (j + 1)).length ≤ 3000000 ∧ out.length + (fl.take j ++ fl.drop (j + 1)).length ≤ 1000000) := hid (by rw [HLD.out.1]; have := HB.out; have := HN.out; omega)
            have HT12 : Hid (∀ q, (Value.slice AB n cB).ownBlock = some q → q ≠ b0 ∧ q ≠ b0 + 1 ∧ (Value.slice Ao cso.length co).ownBlock ≠ some q ∧ q < w12.heap.size ∧ (T q ∨ b0 + 2 ≤ q)) := hid fun q hq => by
              have h1 := HT9.out q hq
              have h2 := hlt9 q hq
              exact ⟨by omega, by omega, h1.2, by omega, .inr h1.1⟩
            have lb12 : b0 < w12.heap.size := by omega
            have lz12 : b0 + 1 < w12.heap.size := by omega
            have FLn : FlW wE T w12 b0 _ (.slice AB (fl.take j ++ fl.drop (j + 1)).length cB) (css.take j ++ css.drop (j + 1)) (fl.take j ++ fl.drop (j + 1)) := ⟨by rw [HLD.out.1, HLD.out.2], HRD.out, _, HT12.out, by rw [HLD.out.1]; exact ho12⟩
            have hcp := FLn.cpys (KE.out.trans kS12)
            have c3 := hA12.cell (j := 3) rfl
            rw [HLD.out.1] at hcp
            go_wp2_with fail
            refine (qFirst_any _ _ _ hcp).mono ?_
            rintro e w13 ⟨rfl, k13⟩
            have hA13 := hA12.kp k13 lb12
            have hm13 : w13.cell? ⟨b0, 3, none⟩ = some (.slice AB n cB) := hA13.cell (j := 3) rfl
            clear c3 hcp
            go_wp2_with fail
            go_roundw
            case rel => exact ⟨_, d, l + 1, out, _, cso, AB, cB, rfl, kS12.trans k13, by rw [HLD.out.1]; exact hA13, hZ12.kp k13 lz12, Nat.lt_of_lt_of_le lz12 k13.size, ⟨FLn.len, FLn.rd, _, fun q hq => by have := HT12.out q hq; exact ⟨this.1, this.2.1, this.2.2.1, Nat.lt_of_lt_of_le this.2.2.2.1 k13.size, this.2.2.2.2⟩, by rw [HLD.out.1]; exact ho12.kp k13⟩, by rw [HLD.out.1]; exact hcB, hmB, hown12.kp k13, hid HO.out, HF2, HB2⟩
            case measure =>
              rw [hm13, hm3]
              have := HN.out
              show n < fl.length
              omega
        · have e3 : decide (fl[j].due ≤ t) = false := decide_eq_false hd
          have HF : Hid (R = ({ s with tick := t, flight := fl, delivered := d, lost := l }, out, 0)) := hid (by rw [HG.out, delR_stop t { s with tick := t, flight := fl, delivered := d, lost := l } out h2 h1 hd])
          replace hd := hid hd
          clear HG hc hms hcs hT ho hrng h2
          generalize fl[j] = x at *
          obtain ⟨xd, xn, xm⟩ := x
          dsimp only at i0 e3
          have c0 := (hA).cell (j := 0) rfl
          have c1 := (hA).cell (j := 1) rfl
          have c2 := (hA).cell (j := 2) rfl
          have c3 := (hA).cell (j := 3) rfl
          have c4 := (hA).cell (j := 4) rfl
          have c5 := (hA).cell (j := 5) rfl
          have c6 := (hA).cell (j := 6) rfl
          have c7 := (hA).cell (j := 7) rfl
          have c8 := (hA).cell (j := 8) rfl
          have d0 := (hZ).cell (j := 0) rfl
          have d1 := (hZ).cell (j := 1) rfl
          have d2 := (hZ).cell (j := 2) rfl
          have d3 := (hZ).cell (j := 3) rfl
          have d4 := (hZ).cell (j := 4) rfl
          have d5 := (hZ).cell (j := 5) rfl
          have d6 := (hZ).cell (j := 6) rfl
          have d7 := (hZ).cell (j := 7) rfl
          have d8 := (hZ).cell (j := 8) rfl
          have f0 := (hZ).free (j := 0) (by simp)
          have f1 := (hZ).free (j := 1) (by simp)
          have f2 := (hZ).free (j := 2) (by simp)
          have f3 := (hZ).free (j := 3) (by simp)
          have f4 := (hZ).free (j := 4) (by simp)
          have f5 := (hZ).free (j := 5) (by simp)
          have f6 := (hZ).free (j := 6) (by simp)
          have f7 := (hZ).free (j := 7) (by simp)
          have f8 := (hZ).free (j := 8) (by simp)
          go_wp2
          refine bodyPost_ret (results_cell_bx3 rfl _ _ (b0 + 1) [.int .i64 s.reps, .int .i64 t, .slice Af s.fates.length cf, .slice (some ⟨g, oo, none⟩) fl.length cL, .slice Ac s.cuts.length cc, .int .i64 s.sent, .int .i64 d, .int .i64 l, .int .i64 s.made] _ rfl (hZ.all (cs := [.int .i64 s.reps, .int .i64 t, .slice Af s.fates.length cf, .slice (some ⟨g, oo, none⟩) fl.length cL, .slice Ac s.cuts.length cc, .int .i64 s.sent, .int .i64 d, .int .i64 l, .int .i64 s.made]) rfl).range Try.underlying66 rfl (by kernel_rfl)) rfl ?_
          have kF := Kp.setCells (by omega : w.heap.size ≤ b0 + 1) [.int .i64 s.reps, .int .i64 t, .slice Af s.fates.length cf, .slice (some ⟨g, oo, none⟩) fl.length cL, .slice Ac s.cuts.length cc, .int .i64 s.sent, .int .i64 d, .int .i64 l, .int .i64 s.made] 0 _ kr
          have kgF := Kg.setCells (g := b0 + 1) [.int .i64 s.reps, .int .i64 t, .slice Af s.fates.length cf, .slice (some ⟨g, oo, none⟩) fl.length cL, .slice Ac s.cuts.length cc, .int .i64 s.sent, .int .i64 d, .int .i64 l, .int .i64 s.made] 0 _ (Kg.refl wr (b0 + 1))
          have ownF := hown.kg kgF (by omega)
          obtain ⟨TF, hTF, hoF⟩ := FL.row
          exact ⟨_, _, by rw [HF.out]; rfl, by rw [HF.out]; exact ⟨_, _, _, _, rfl, XF.out, FL.len, FL.rd, (hoF.kg kgF fun hb => (hTF _ hb).2.1 rfl).mono fun i hi => by rcases (hTF i hi).2.2.2.2 with h | h; exact .inl h; exact .inr (by omega), (XC.out.kp kF).mono fun _ h => .inl h⟩, by rw [HF.out]; exact ⟨_, (ownF.owS.imp fun _ h => h.sl encC_len).mono fun i hi => by have := ownF.ge i hi; omega, HO.out.1, HO.out.2⟩, kF⟩
end Go.Proofs.Ytmokpnkpfodppaa
