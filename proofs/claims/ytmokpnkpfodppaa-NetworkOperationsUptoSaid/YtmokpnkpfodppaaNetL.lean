
/-
A call of a network, and whether calls are few: the walks.
-/
import Derived.Test.YtmokpnkpfodppaaNetK
import Derived.Test.YtmokpnkpfodppaaReliableWalk
namespace Go.Proofs.Ytmokpnkpfodppaa
set_option linter.unusedSimpArgs false
set_option linter.unusedVariables false
open Go.RowKit

structure Cmd where
  kind : Int
  tick : Int
  a : Int
  b : Int
  m : Message
instance : Inhabited Cmd := ⟨⟨0, 0, 0, 0, zM⟩⟩
/-- how a call's cells read -/
def rdCmd : Rd Cmd := fun w cs x => ∃ ms : List Value, cs = [.int .i64 x.kind, .int .i64 x.tick, .int .i64 x.a, .int .i64 x.b] ++ ms ∧ rdMsg w ms x.m
theorem rdCmd_stable : Stable rdCmd := fun _ _ _ _ k ⟨ms, e, h⟩ => ⟨ms, e, rdMsg_stable _ _ _ _ k h⟩
theorem rdCmd_one {w : World} {cs : List Value} {x : Cmd} (h : rdCmd w cs x) : cs.length = 22 ∧ ∀ u ∈ cs, u.oneCell' = true := by
  obtain ⟨ms, rfl, h⟩ := h
  obtain ⟨h1, h2⟩ := rdMsg_one h
  refine ⟨by simp [h1], fun u hu => ?_⟩
  rcases List.mem_append.1 hu with hu | hu
  · simp only [List.mem_cons, List.not_mem_nil, or_false] at hu
    rcases hu with rfl | rfl | rfl | rfl <;> rfl
  · exact h2 u hu
abbrev Cmds := Sl rdCmd 22
/-- a call: the network, what arrives, the error -/
def doN (N : Net) (x : Cmd) : Net × List Message × Int :=
  if x.kind = 0 then ((sendN N x.m x.tick).1, [], (sendN N x.m x.tick).2)
  else if x.kind = 1 then deliverN N x.tick
  else if x.kind = 2 then ((cutN N x.a x.b).1, [], (cutN N x.a x.b).2)
  else if x.kind = 3 then ((healN N x.a x.b).1, [], (healN N x.a x.b).2)
  else (N, [], 0)
def Qm (nb mb : Nat) (sv : Value) (k : Nat) : Prop := Qb nb sv k ∨ k = mb
/-- what a call leaves -/
def DoE (lo nb mb : Nat) (vf sv : Value) (w : World) (r : Net × List Message × Int) (e : Ending) (w' : World) : Prop :=
  ∃ v, e = .returned (.tuple #[v, .int .i64 r.2.2]) ∧ ∃ (sv' : Value) (top : Nat) (css : List (Elm 18)), NetW lo nb mb vf sv' w' r.1 ∧ Fr (Qm nb mb sv) w w' ∧ (∀ k, sv'.ownBlock = some k → sv.ownBlock = some k ∨ w.heap.size ≤ k) ∧ (∀ k, w.heap.size ≤ k → k < top → sv'.ownBlock ≠ some k) ∧
    Own encC 34 18 w.heap.size w' v css ∧ EmX rdMsg w.heap.size top w' v.ownBlock css r.2.1
theorem EmX.less {α : Type} {size : Nat} {R : Rd α} {base base' top : Nat} {w : World} {s : Option Nat} {css : List (Elm size)} {xs : List α} (h : EmX R base top w s css xs) (hb : base' ≤ base) : EmX R base' top w s css xs := by
  obtain ⟨h1, h2, h3, bs, ts, h4, h5⟩ := h
  refine ⟨h1, by omega, h3, bs, ts, h4, fun k k1 k2 => ?_⟩
  obtain ⟨a1, a2, a3, a4⟩ := h5 k k1 k2
  exact ⟨by omega, a2, a3, a4⟩
set_option maxRecDepth 8000 in
set_option maxHeartbeats 4000000 in
theorem doCmd_any (lo nb mb : Nat) (vf sv : Value) (N : Net) (x : Cmd) (cs : List Value) (w : World) (h : NetW lo nb mb vf sv w N) (hf : Few N) (hx : rdCmd w cs x) (hr : Room [] (numMessage x.m).length) :
    Calls Try.prog 20 #[.pointer (some ⟨nb, 0, none⟩), .agg cs.toArray] w (DoE lo nb mb vf sv w (doN N x)) := by
  obtain ⟨h22, h1c⟩ := rdCmd_one hx
  obtain ⟨ms, hcs, hm⟩ := hx
  have k0 := (Kp.refl w).alloc (.cells cs.toArray 59)
  have B0 : Bx (w.alloc (.cells cs.toArray 59)) w.heap.size cs := by simpa using Bx.new w cs.toArray 59
  have N0 := h.kp k0
  have hb0 := alloc_lt w (.cells cs.toArray 59)
  have hms := (rdMsg_one hm).1
  have hi : (Try.prog.info? 34).map (·.size) = some ms.length := by rw [hms]; kernel_rfl
  have V0 : MessageV (w.alloc (.cells cs.toArray 59)) (.agg ms.toArray) x.m := MessageV.kp hm k0
  have e0 := B0.cell (j := 0) (u := .int .i64 x.kind) (by rw [hcs]; rfl)
  have e1 := B0.cell (j := 1) (u := .int .i64 x.tick) (by rw [hcs]; rfl)
  have e2 := B0.cell (j := 2) (u := .int .i64 x.a) (by rw [hcs]; rfl)
  have e3 := B0.cell (j := 3) (u := .int .i64 x.b) (by rw [hcs]; rfl)
  have r4 : (w.alloc (.cells cs.toArray 59)).rangeAt w.heap.size 4 ms := fun j v hj => B0.cell (j := 4 + j) (by
    rw [hcs, List.getElem?_append_right (by simp)]
    simpa using hj)
  have HRR := hid hr
  have HFF := hid hf
  have hq := hid h.qb_lt
  generalize hR : doN N x = R
  have HR := hid hR
  clear hR h hm hms h22 h1c hcs hr hf B0
  have hkF := k0.fr (Qm nb mb sv)
  go_enter Try.func20, Try.ntmps20
  go_upto_region 1 with (fail)
  generalize w.alloc (.cells cs.toArray 59) = w0 at *
  generalize hbb : w.heap.size = b at *
  have HBB := hid hbb
  clear hbb
  obtain ⟨kd, tk, xa, xb, m⟩ := x
  dsimp only at e0 e1 e2 e3 V0 HRR
  by_cases h0 : kd = 0
  · obtain rfl : R = ((sendN N m tk).1, [], (sendN N m tk).2) := by rw [← HR.out, doN, if_pos h0]
    have q0 : (kd == 0) = true := by simpa using h0
    replace h0 := hid h0
    clear HR
    go_wp2_with (refine wpList_load_mid rfl 34 (.tmp 11) rfl b 4 rfl ms _ r4 Try.underlying34 rfl hi ?_)
    refine (nSend_any lo nb mb vf _ _ N m tk w0 N0 HFF.out V0 HRR.out).mono ?_
    rintro e w1 ⟨rfl, sv', N1, fr1, hs1⟩
    have hz := hid k0.size
    have hF1 : Fr (Qm nb mb sv) w w1 := (k0.fr _).trans (fr1.mono fun i hi => .inl hi)
    clear N0 r4 e0 e1 e2 e3 V0 fr1 k0 hkF
    go_wp2_with fail
    go_ret2
    exact ⟨_, rfl, sv', _, [], N1, hF1, fun k hk => by rcases hs1 k hk with h | h; exact .inl h; exact .inr (by have := HBB.out; omega), fun k h1 h2 => by omega, Own.nil _ _ _ _ _, EmX.nil _ _ _ _ _ hF1.size⟩
  · have q0 : (kd == 0) = false := beq_false_of_ne h0
    by_cases h1 : kd = 1
    · obtain rfl : R = deliverN N tk := by rw [← HR.out, doN, if_neg h0, if_pos h1]
      have q1 : (kd == 1) = true := by simpa using h1
      replace h0 := hid h0
      replace h1 := hid h1
      clear HR
      go_wp2_with fail
      refine (nDeliver_any lo nb mb vf _ N tk w0 N0 HFF.out).mono ?_
      rintro e w1 ⟨v, rfl, sv', top, css, N1, fr1, hs1, own1, em1⟩
      have hz : w.heap.size ≤ w0.heap.size := k0.size
      have O2 := own1.less hz
      have E2 := em1.less hz
      have hF1 : Fr (Qm nb mb sv) w w1 := (k0.fr _).trans (fr1.mono fun i hi => .inl hi)
      obtain ⟨A1, c1, rfl, hc1, hm1⟩ := own1.form
      clear N0 r4 e0 e1 e2 e3 V0 fr1 k0 hkF own1 em1
      go_wp2_with fail
      go_ret2
      exact ⟨_, rfl, sv', top, css, N1, hF1, fun k hk => .inl (hs1 k hk), fun k h1 h2 h => by have := hq.out k (.inr (hs1 k h)); have := HBB.out; omega, O2, E2⟩
    · have q1 : (kd == 1) = false := beq_false_of_ne h1
      by_cases h2 : kd = 2
      · obtain rfl : R = ((cutN N xa xb).1, [], (cutN N xa xb).2) := by rw [← HR.out, doN, if_neg h0, if_neg h1, if_pos h2]
        have q2 : (kd == 2) = true := by simpa using h2
        replace h0 := hid h0
        replace h1 := hid h1
        replace h2 := hid h2
        clear HR
        go_wp2_with fail
        refine (nCut_any lo nb mb vf _ N xa xb w0 N0).mono ?_
        rintro e w1 ⟨rfl, N1, kg1⟩
        have hF1 : Fr (Qm nb mb sv) w w1 := (k0.fr _).trans (kg1.fr (.inr rfl))
        clear N0 r4 e0 e1 e2 e3 V0 kg1 k0 hkF
        go_wp2_with fail
        go_ret2
        exact ⟨_, rfl, _, _, [], N1, hF1, fun k hk => .inl hk, fun k h1 h2 => by omega, Own.nil _ _ _ _ _, EmX.nil _ _ _ _ _ (Fr.size hF1)⟩
      · have q2 : (kd == 2) = false := beq_false_of_ne h2
        by_cases h3 : kd = 3
        · obtain rfl : R = ((healN N xa xb).1, [], (healN N xa xb).2) := by rw [← HR.out, doN, if_neg h0, if_neg h1, if_neg h2, if_pos h3]
          have q3 : (kd == 3) = true := by simpa using h3
          replace h0 := hid h0
          replace h1 := hid h1
          replace h2 := hid h2
          replace h3 := hid h3
          clear HR
          go_wp2_with fail
          refine (nHeal_any lo nb mb vf _ N xa xb w0 N0).mono ?_
          rintro e w1 ⟨rfl, N1, kg1⟩
          have hF1 : Fr (Qm nb mb sv) w w1 := (k0.fr _).trans (kg1.fr (.inr rfl))
          clear N0 r4 e0 e1 e2 e3 V0 kg1 k0 hkF
          go_wp2_with fail
          go_ret2
          exact ⟨_, rfl, _, _, [], N1, hF1, fun k hk => .inl hk, fun k h1 h2 => by omega, Own.nil _ _ _ _ _, EmX.nil _ _ _ _ _ (Fr.size hF1)⟩
        · obtain rfl : R = (N, [], 0) := by rw [← HR.out, doN, if_neg h0, if_neg h1, if_neg h2, if_neg h3]
          have q3 : (kd == 3) = false := beq_false_of_ne h3
          replace h0 := hid h0
          replace h1 := hid h1
          replace h2 := hid h2
          replace h3 := hid h3
          clear HR
          go_wp2_with fail
          go_ret2
          exact ⟨_, rfl, _, _, [], N0, hkF, fun k hk => .inl hk, fun k h1 h2 => by omega, Own.nil _ _ _ _ _, EmX.nil _ _ _ _ _ (Fr.size hkF)⟩
/-- an element's cells -/
theorem Sl.cmd {w : World} {A : Option Addr} {n c : Nat} {l : List Cmd} (h : Cmds w (.slice A n c) l) {k : Nat} (hk : k < l.length) :
    ∃ b o cs, A = some ⟨b, o, none⟩ ∧ b < w.heap.size ∧ cs.length = 22 ∧ w.rangeAt b (o + k * 22) cs ∧ rdCmd w cs l[k] := by
  obtain ⟨b, o, cs, hA, hb, hcs, hc, hr⟩ := h.at_ hk
  exact ⟨b, o, cs, hA, hb, hcs, fun j v hj => hc j v hj, hr⟩
def fewL (l : List Cmd) (n : Int) : Bool := l.all (fun x => decide ((numMessage x.m).length ≤ 100)) && decide ((l.length : Int) ≤ n)
set_option maxRecDepth 8000 in
set_option maxHeartbeats 1600000 in
theorem few50L_any (vl : Value) (l : List Cmd) (n : Int) (w : World) (hl : Cmds w vl l) (hb : ∀ x ∈ l, (numMessage x.m).length ≤ 1000000000) : Calls Try.prog 19 #[vl, .int .i64 n] w fun e w' => e = .returned (.bool (fewL l n)) ∧ Kp w w' := by
  obtain ⟨A, ca, rfl, hca, hma⟩ := hl.form
  have HB := hid hb
  clear hb
  generalize hR : fewL l n = R
  have HR : Hid (R = fewL l n) := hid hR.symm
  clear hR
  go_enter Try.func19, Try.ntmps19
  go_wp2
  go_loopw [5] (fun i wr => ∃ k : Nat, k ≤ l.length ∧ i = .int .i64 (k : Int) ∧ Hid (∀ x ∈ l.take k, (numMessage x.m).length ≤ 100) ∧ Kp w wr) (fun i _ => l.length - (intOf i).toNat)
  case atStart => exact ⟨0, Nat.zero_le _, rfl, hid fun x hx => by simp at hx, Kp.refl _⟩
  case round =>
    obtain ⟨k, hk, rfl, HS, hbel⟩ := hrel
    by_cases hlt : k < l.length
    · obtain ⟨g, o, cs, rfl, hg, hcs, hr, ms, hce, hv⟩ := (hl.keep rdCmd_stable hbel).cmd hlt
      have hx := hid (HB.out _ (List.getElem_mem hlt))
      have HT := hid (List.take_succ_eq_append_getElem hlt)
      have HM := hid (List.getElem_mem hlt)
      clear hl
      generalize l[k] = x at *
      have hlk : (k : Int) < (l.length : Int) := by omega
      have hms := (rdMsg_one hv).1
      have hi : (Try.prog.info? 34).map (·.size) = some ms.length := by rw [hms]; kernel_rfl
      have r4 : wr.rangeAt g (o + k * 22 + 4) ms := fun j v hj => by
        have := hr (4 + j) v (by rw [hce, List.getElem?_append_right (by simp)]; simpa using hj)
        rw [← Nat.add_assoc] at this
        exact this
      clear hms hce hr hcs
      go_wp2_with (refine wpList_load_mid rfl 34 (.tmp 15) rfl g (o + k * 22 + 4) rfl ms _ r4 Try.underlying34 rfl hi ?_)
      refine (nMessage_any _ x.m _ hv hx.out).mono ?_
      rintro e w3 ⟨v3, rfl, own3, k3⟩
      obtain ⟨A3, c3, rfl, hc3, hm3⟩ := own3.form
      have k9 := hbel.trans k3
      clear own3 r4 hv k3 hbel
      by_cases h100 : 100 < (numMessage x.m).length
      · have e3 : decide (100 < ((numMessage x.m).length : Int)) = true := decide_eq_true (by omega)
        have HF : Hid (R = false) := hid (by
          rw [HR.out, fewL]
          have : l.all (fun x => decide ((numMessage x.m).length ≤ 100)) = false := List.all_eq_false.2 ⟨x, HM.out, by simpa using h100⟩
          rw [this]
          rfl)
        go_wp2
        go_ret
        exact ⟨by rw [HF.out]; rfl, k9⟩
      · have e3 : decide (100 < ((numMessage x.m).length : Int)) = false := decide_eq_false (by omega)
        have HS2 : Hid (∀ y ∈ l.take (k + 1), (numMessage y.m).length ≤ 100) := hid fun y hy => by
          rw [HT.out] at hy
          rcases List.mem_append.1 hy with hy | hy
          · exact HS.out y hy
          · simp only [List.mem_singleton] at hy
            subst hy
            omega
        go_wp2_with fail
        go_roundw
        case rel => exact ⟨k + 1, by omega, by go_num, HS2, k9⟩
        case measure => simp [intOf]; omega
    · have hlk : ¬ (k : Int) < (l.length : Int) := by omega
      have HF : Hid (R = decide ((l.length : Int) ≤ n)) := hid (by
        have hk2 : k = l.length := by omega
        have hs := HS.out
        rw [hk2, List.take_length] at hs
        rw [HR.out, fewL, List.all_eq_true.2 (fun x hx => decide_eq_true (hs x hx))]
        simp)
      go_wp2
      go_ret
      exact ⟨by rw [HF.out]; rfl, hbel⟩
end Go.Proofs.Ytmokpnkpfodppaa
