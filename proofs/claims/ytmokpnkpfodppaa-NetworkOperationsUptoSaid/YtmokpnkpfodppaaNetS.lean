
/-
A network's Send: the walk.
-/
import Derived.Test.YtmokpnkpfodppaaNW
import Derived.Deep.Cut
namespace Go.Proofs.Ytmokpnkpfodppaa
set_option linter.unusedSimpArgs false
set_option linter.unusedVariables false
open Go.RowKit

/-- what Send leaves -/
def SendE (lo nb mb : Nat) (vf sv : Value) (w : World) (r : Net × Int) (e : Ending) (w' : World) : Prop :=
  e = .returned (.int .i64 r.2) ∧ ∃ sv', NetW lo nb mb vf sv' w' r.1 ∧ Fr (Qb nb sv) w w' ∧ ∀ k, sv'.ownBlock = some k → sv.ownBlock = some k ∨ w.heap.size ≤ k
theorem NetW.svForm {lo nb mb : Nat} {vf sv : Value} {w : World} {N : Net} (h : NetW lo nb mb vf sv w N) : ∃ A c, sv = .slice A N.fly.length c := by
  obtain ⟨Q, own, hp⟩ := h.fl
  obtain ⟨A, c, rfl, -, -⟩ := own.form
  exact ⟨A, c, by rw [hp.perm.length_eq]⟩
set_option maxRecDepth 8000 in
set_option maxHeartbeats 4000000 in
theorem nSend_any (lo nb mb : Nat) (vf sv val : Value) (N : Net) (m : Message) (t : Int) (w : World) (h : NetW lo nb mb vf sv w N) (hf : Few N) (hv : MessageV w val m) (hr : Room [] (numMessage m).length) :
    Calls Try.prog 11 #[.pointer (some ⟨nb, 0, none⟩), val, .int .i64 t] w (SendE lo nb mb vf sv w (sendN N m t)) := by
  obtain ⟨cs, rfl, hcs, h1c, hm1, hm2⟩ := hv.cells2
  obtain ⟨A0, cA, rfl⟩ := h.svForm
  generalize hR : sendN N m t = R
  have HR := hid hR
  clear hR
  have k0 := (Kp.refl w).alloc (.cells cs.toArray 34)
  have B0 : Bx (w.alloc (.cells cs.toArray 34)) w.heap.size cs := by simpa using Bx.new w cs.toArray 34
  have N0 := h.kp k0
  have V0 : MessageV _ _ m := hv.kp k0
  have hi : (Try.prog.info? 34).map (·.size) = some cs.length := by rw [hcs]; kernel_rfl
  have hb0 := alloc_lt w (.cells cs.toArray 34)
  have hnbw := h.lt
  have hsvw : ∀ k, (Value.slice A0 N.fly.length cA).ownBlock = some k → k < w.heap.size := fun k hk => by
    obtain ⟨Q, own, -⟩ := h.fl
    exact own.blk_lt k hk
  have hok := h.ok
  have hrr := hid hr
  have hff := hid hf
  have HOK := hid hok
  have HSV := hid hsvw
  unfold SendE
  clear h hv hr hf hok hsvw
  go_enter Try.func11, Try.ntmps11
  go_upto_region 1 with (fail)
  have HM1 := hid hm1
  have HM2 := hid hm2
  have HCS := hid hcs
  have H1C := hid h1c
  clear hm1 hm2 hcs h1c
  generalize w.alloc (.cells cs.toArray 34) = w0 at *
  generalize hbb : w.heap.size = b at *
  have hbw := hid hbb
  clear hbb
  have c0 := (N0).box.cell (j := 0) rfl
  have c1 := (N0).box.cell (j := 1) rfl
  have c2 := (N0).box.cell (j := 2) rfl
  have c3 := (N0).box.cell (j := 3) rfl
  have c4 := (N0).box.cell (j := 4) rfl
  have c5 := (N0).box.cell (j := 5) rfl
  have c6 := (N0).box.cell (j := 6) rfl
  have c7 := (N0).box.cell (j := 7) rfl
  have c8 := (N0).box.cell (j := 8) rfl
  have e1 := B0.cell HM1.out
  have e2 := B0.cell HM2.out
  go_wp2_with fail
  refine (nPair_any nb _ _ _ _ c0).mono ?_
  rintro e w1 ⟨rfl, rfl⟩
  cases hp : pairB N.reps m.sender m.to with
  | false =>
    have HF : Hid (R = (N, 1)) := hid (by rw [← HR.out, sendN, if_pos hp])
    obtain rfl := HF.out
    go_wp2
    go_ret
    exact ⟨rfl, _, N0, k0.fr _, fun k hk => .inl hk⟩
  | true =>
    go_wp2_with fail
    refine (nLate_any nb _ _ _ c1).mono ?_
    rintro e w1 ⟨rfl, rfl⟩
    cases hlt : lateB N.tick t with
    | true =>
      have HF : Hid (R = (N, 2)) := hid (by rw [← HR.out, sendN, if_neg (by rw [hp]; simp), if_pos hlt])
      obtain rfl := HF.out
      go_wp2
      go_ret
      exact ⟨rfl, _, N0, k0.fr _, fun k hk => .inl hk⟩
    | false =>
      go_wp2_with (refine wpList_load_mid rfl 34 (.tmp 4) rfl b 0 rfl cs _ B0.range Try.underlying34 rfl hi ?_)
      refine (EncodeMessage_any _ m _ V0 hrr.out).mono ?_
      rintro e w2 ⟨rfl, k2⟩
      have HG : Hid (R = if (encE (numMessage m)).2 ≠ 0 then (N, (encE (numMessage m)).2) else if fullB N m then (N, 8) else if lostB N m then ({ sent1 N t with lost := N.lost + 1 }, 0) else ([(fateOf N).delay, (fateOf N).again].foldl (addC t m (encE (numMessage m)).1) (sent1 N t), 0)) := hid (by rw [← HR.out, sendN, if_neg (by rw [hp]; simp), if_neg (by rw [hlt]; simp)])
      clear HR
      generalize encE (numMessage m) = r at *
      obtain ⟨data, er⟩ := r
      dsimp only at HG
      have N2 := N0.kp k2
      have B2 := B0.keep (k2.block hb0)
      have K2 := k0.trans k2
      have hb2 := Nat.lt_of_lt_of_le hb0 k2.size
      clear N0 B0 V0 c0 c1 c2 c3 c4 c5 c6 c7 c8 e1 e2 k2 k0 hb0
      by_cases he : er = 0
      · subst he
        have HG2 := hid (HG.out.trans (if_neg (by simp)))
        clear HG
        go_wp2_with fail
        refine (nFate_any lo nb mb vf _ _ N N2).mono ?_
        rintro e w3 ⟨rfl, k3⟩
        have N3 := N2.kp k3
        have B3 := B2.keep (k3.block hb2)
        have K3 := K2.trans k3
        have hb3 := Nat.lt_of_lt_of_le hb2 k3.size
        clear N2 B2 K2 hb2 k3
        have HV := hid (validF_bounds (fateOf_valid HOK.out))
        have HL : Hid (lostB N m = ((fateOf N).drop || !linkedB N.reps N.cuts m.sender m.to)) := hid rfl
        have HU : Hid (fullB N m = (decide (1024 ≤ N.fly.length) || (decide (N.fly.length = 1023) && !decide ((fateOf N).again = 0) && !lostB N m))) := hid rfl
        generalize fateOf N = f at *
        obtain ⟨d, y, g⟩ := f
        dsimp only at HG2 HV HL HU
        have k4 := (Kp.refl w3).alloc (.cells #[.bool d, .int .i64 y, .int .i64 g] 47)
        have F4 := Bx.new w3 #[.bool d, .int .i64 y, .int .i64 g] 47
        have N4 := N3.kp k4
        have B4 := B3.keep (k4.block hb3)
        have K4 := K3.trans k4
        have hb4 := Nat.lt_of_lt_of_le hb3 k4.size
        have hf4 := alloc_lt w3 (.cells #[.bool d, .int .i64 y, .int .i64 g] 47)
        clear N3 B3 K3
        have HT : Hid (0 ≤ t ∧ t ≤ 1048576) := hid (by
          have := HOK.out.tick
          simp only [lateB, Bool.or_eq_false_iff, decide_eq_false_iff_not] at hlt
          omega)
        go_upto_region 9 with (fail)
        generalize w3.alloc (.cells #[.bool d, .int .i64 y, .int .i64 g] 47) = w4 at *
        generalize hbb : w3.heap.size = bf at *
        have hbfw := hid hbb
        clear hbb
        have c0 := (N4).box.cell (j := 0) rfl
        have c1 := (N4).box.cell (j := 1) rfl
        have c2 := (N4).box.cell (j := 2) rfl
        have c3 := (N4).box.cell (j := 3) rfl
        have c4 := (N4).box.cell (j := 4) rfl
        have c5 := (N4).box.cell (j := 5) rfl
        have c6 := (N4).box.cell (j := 6) rfl
        have c7 := (N4).box.cell (j := 7) rfl
        have c8 := (N4).box.cell (j := 8) rfl
        have e1 := B4.cell HM1.out
        have e2 := B4.cell HM2.out
        have f0 := F4.cell (j := 0) rfl
        have f1 := F4.cell (j := 1) rfl
        have f2 := F4.cell (j := 2) rfl
        have hsb := hff.out.2.1
        have hsb0 := HOK.out.pos.2.1
        have hlb := hff.out.2.2.2
        have hlb0 := HOK.out.pos.2.2.2
        have hnb4 := N4.lt
        have ff0 := N4.box.free (j := 1) (by simp)
        have ff1 := N4.box.free (j := 6) (by simp)
        have ff2 := N4.box.free (j := 8) (by simp)
        clear hp hlt
        cases d with
        | true =>
          have N5 := N4
          have K5 := K4
          obtain ⟨w5, rfl⟩ : ∃ w5 : World, w5 = w4 := ⟨_, rfl⟩
          by_cases h1 : 1024 ≤ N.fly.length
          · have e4 : decide (1024 ≤ (N.fly.length : Int)) = true := decide_eq_true (by omega)
            have hF : fullB N m = true := by rw [HU.out, HL.out]; simp [*]
            obtain rfl := HG2.out.trans (if_pos hF)
            clear hF
            try replace h2 := hid h2
            go_wp2_with fail
            go_ret
            exact ⟨rfl, _, N5, K5.fr _, fun k hk => .inl hk⟩
          · have e4 : decide (1024 ≤ (N.fly.length : Int)) = false := decide_eq_false (by omega)
            by_cases h2 : N.fly.length = 1023
            · have e5 : ((N.fly.length : Int) == 1023) = true := by rw [h2]; rfl
              have e6 : (N.fly.length == 1023) = true := by rw [h2]; rfl
              by_cases h3 : g = 0
              · have e7 : (g != 0) = false := by rw [h3]; rfl
                have hF : fullB N m = false := by rw [HU.out, HL.out]; simp [*]
                have hl : lostB N m = true := by rw [HL.out]; simp [*]
                obtain rfl := HG2.out.trans ((if_neg (by rw [hF]; simp)).trans (if_pos hl))
                clear hF hl
                try replace h2 := hid h2
                have hkS := (((Kg.refl w5 nb).set (p := ⟨nb, 6, none⟩) (.inl rfl) (.int .i64 (N.sent + 1))).set (p := ⟨nb, 1, none⟩) (.inl rfl) (.int .i64 t)).set (p := ⟨nb, 8, none⟩) (.inl rfl) (.int .i64 (N.lost + 1))
                have N6 : NetW lo nb mb vf _ _ { sent1 N t with lost := N.lost + 1 } := N5.updB hkS (((N5.box.set (j := 6) (by simp) (.int .i64 (N.sent + 1))).set (j := 1) (by simp) (.int .i64 t)).set (j := 8) (by simp) (.int .i64 (N.lost + 1))) rfl rfl rfl ((HOK.out.sent1 HT.out).lost1)
                go_wp2_with fail
                go_ret
                exact ⟨rfl, _, N6, (K5.fr _).trans (hkS.fr (.inl rfl)), fun k hk => .inl hk⟩
              · have e7 : (g != 0) = true := by simpa using h3
                have hF : fullB N m = false := by rw [HU.out, HL.out]; simp [*]
                have hl : lostB N m = true := by rw [HL.out]; simp [*]
                obtain rfl := HG2.out.trans ((if_neg (by rw [hF]; simp)).trans (if_pos hl))
                clear hF hl
                try replace h2 := hid h2
                have hkS := (((Kg.refl w5 nb).set (p := ⟨nb, 6, none⟩) (.inl rfl) (.int .i64 (N.sent + 1))).set (p := ⟨nb, 1, none⟩) (.inl rfl) (.int .i64 t)).set (p := ⟨nb, 8, none⟩) (.inl rfl) (.int .i64 (N.lost + 1))
                have N6 : NetW lo nb mb vf _ _ { sent1 N t with lost := N.lost + 1 } := N5.updB hkS (((N5.box.set (j := 6) (by simp) (.int .i64 (N.sent + 1))).set (j := 1) (by simp) (.int .i64 t)).set (j := 8) (by simp) (.int .i64 (N.lost + 1))) rfl rfl rfl ((HOK.out.sent1 HT.out).lost1)
                go_wp2_with fail
                go_ret
                exact ⟨rfl, _, N6, (K5.fr _).trans (hkS.fr (.inl rfl)), fun k hk => .inl hk⟩
            · have e5 : ((N.fly.length : Int) == 1023) = false := beq_false_of_ne (by omega)
              have e6 : (N.fly.length == 1023) = false := beq_false_of_ne h2
              have hF : fullB N m = false := by rw [HU.out, HL.out]; simp [*]
              have hl : lostB N m = true := by rw [HL.out]; simp [*]
              obtain rfl := HG2.out.trans ((if_neg (by rw [hF]; simp)).trans (if_pos hl))
              clear hF hl
              try replace h2 := hid h2
              have hkS := (((Kg.refl w5 nb).set (p := ⟨nb, 6, none⟩) (.inl rfl) (.int .i64 (N.sent + 1))).set (p := ⟨nb, 1, none⟩) (.inl rfl) (.int .i64 t)).set (p := ⟨nb, 8, none⟩) (.inl rfl) (.int .i64 (N.lost + 1))
              have N6 : NetW lo nb mb vf _ _ { sent1 N t with lost := N.lost + 1 } := N5.updB hkS (((N5.box.set (j := 6) (by simp) (.int .i64 (N.sent + 1))).set (j := 1) (by simp) (.int .i64 t)).set (j := 8) (by simp) (.int .i64 (N.lost + 1))) rfl rfl rfl ((HOK.out.sent1 HT.out).lost1)
              go_wp2_with fail
              go_ret
              exact ⟨rfl, _, N6, (K5.fr _).trans (hkS.fr (.inl rfl)), fun k hk => .inl hk⟩
        | false =>
          obtain ⟨es, clock, hmp, hmo⟩ := N4.mp
          go_wp2_with fail
          refine (nLinked_any nb mb clock _ _ _ es _ _ c0 c3 hmp hmo).mono ?_
          rintro e w5 ⟨rfl, k5⟩
          have N5 := N4.kp k5
          have B5 := B4.keep (k5.block hb4)
          have F5 := F4.kp k5 hf4
          have K5 := K4.trans k5
          have hb5 := Nat.lt_of_lt_of_le hb4 k5.size
          have hbf5 := Nat.lt_of_lt_of_le hf4 k5.size
          clear N4 B4 F4 K4 c0 c1 c2 c3 c4 c5 c6 c7 c8 e1 e2 f0 f1 f2 ff0 ff1 ff2 hmp hmo hnb4 hb4 hf4 k5 k4
          have c0 := (N5).box.cell (j := 0) rfl
          have c1 := (N5).box.cell (j := 1) rfl
          have c2 := (N5).box.cell (j := 2) rfl
          have c3 := (N5).box.cell (j := 3) rfl
          have c4 := (N5).box.cell (j := 4) rfl
          have c5 := (N5).box.cell (j := 5) rfl
          have c6 := (N5).box.cell (j := 6) rfl
          have c7 := (N5).box.cell (j := 7) rfl
          have c8 := (N5).box.cell (j := 8) rfl
          have e1 := B5.cell HM1.out
          have e2 := B5.cell HM2.out
          have f0 := F5.cell (j := 0) rfl
          have f1 := F5.cell (j := 1) rfl
          have f2 := F5.cell (j := 2) rfl
          have hnb4 := N5.lt
          have ff0 := N5.box.free (j := 1) (by simp)
          have ff1 := N5.box.free (j := 6) (by simp)
          have ff2 := N5.box.free (j := 8) (by simp)
          generalize linkedB N.reps N.cuts m.sender m.to = lk at *
          cases lk with
          | false =>
            by_cases h1 : 1024 ≤ N.fly.length
            · have e4 : decide (1024 ≤ (N.fly.length : Int)) = true := decide_eq_true (by omega)
              have hF : fullB N m = true := by rw [HU.out, HL.out]; simp [*]
              obtain rfl := HG2.out.trans (if_pos hF)
              clear hF
              try replace h2 := hid h2
              go_wp2_with fail
              go_ret
              exact ⟨rfl, _, N5, K5.fr _, fun k hk => .inl hk⟩
            · have e4 : decide (1024 ≤ (N.fly.length : Int)) = false := decide_eq_false (by omega)
              by_cases h2 : N.fly.length = 1023
              · have e5 : ((N.fly.length : Int) == 1023) = true := by rw [h2]; rfl
                have e6 : (N.fly.length == 1023) = true := by rw [h2]; rfl
                by_cases h3 : g = 0
                · have e7 : (g != 0) = false := by rw [h3]; rfl
                  have hF : fullB N m = false := by rw [HU.out, HL.out]; simp [*]
                  have hl : lostB N m = true := by rw [HL.out]; simp [*]
                  obtain rfl := HG2.out.trans ((if_neg (by rw [hF]; simp)).trans (if_pos hl))
                  clear hF hl
                  try replace h2 := hid h2
                  have hkS := (((Kg.refl w5 nb).set (p := ⟨nb, 6, none⟩) (.inl rfl) (.int .i64 (N.sent + 1))).set (p := ⟨nb, 1, none⟩) (.inl rfl) (.int .i64 t)).set (p := ⟨nb, 8, none⟩) (.inl rfl) (.int .i64 (N.lost + 1))
                  have N6 : NetW lo nb mb vf _ _ { sent1 N t with lost := N.lost + 1 } := N5.updB hkS (((N5.box.set (j := 6) (by simp) (.int .i64 (N.sent + 1))).set (j := 1) (by simp) (.int .i64 t)).set (j := 8) (by simp) (.int .i64 (N.lost + 1))) rfl rfl rfl ((HOK.out.sent1 HT.out).lost1)
                  go_wp2_with fail
                  go_ret
                  exact ⟨rfl, _, N6, (K5.fr _).trans (hkS.fr (.inl rfl)), fun k hk => .inl hk⟩
                · have e7 : (g != 0) = true := by simpa using h3
                  have hF : fullB N m = false := by rw [HU.out, HL.out]; simp [*]
                  have hl : lostB N m = true := by rw [HL.out]; simp [*]
                  obtain rfl := HG2.out.trans ((if_neg (by rw [hF]; simp)).trans (if_pos hl))
                  clear hF hl
                  try replace h2 := hid h2
                  have hkS := (((Kg.refl w5 nb).set (p := ⟨nb, 6, none⟩) (.inl rfl) (.int .i64 (N.sent + 1))).set (p := ⟨nb, 1, none⟩) (.inl rfl) (.int .i64 t)).set (p := ⟨nb, 8, none⟩) (.inl rfl) (.int .i64 (N.lost + 1))
                  have N6 : NetW lo nb mb vf _ _ { sent1 N t with lost := N.lost + 1 } := N5.updB hkS (((N5.box.set (j := 6) (by simp) (.int .i64 (N.sent + 1))).set (j := 1) (by simp) (.int .i64 t)).set (j := 8) (by simp) (.int .i64 (N.lost + 1))) rfl rfl rfl ((HOK.out.sent1 HT.out).lost1)
                  go_wp2_with fail
                  go_ret
                  exact ⟨rfl, _, N6, (K5.fr _).trans (hkS.fr (.inl rfl)), fun k hk => .inl hk⟩
              · have e5 : ((N.fly.length : Int) == 1023) = false := beq_false_of_ne (by omega)
                have e6 : (N.fly.length == 1023) = false := beq_false_of_ne h2
                have hF : fullB N m = false := by rw [HU.out, HL.out]; simp [*]
                have hl : lostB N m = true := by rw [HL.out]; simp [*]
                obtain rfl := HG2.out.trans ((if_neg (by rw [hF]; simp)).trans (if_pos hl))
                clear hF hl
                try replace h2 := hid h2
                have hkS := (((Kg.refl w5 nb).set (p := ⟨nb, 6, none⟩) (.inl rfl) (.int .i64 (N.sent + 1))).set (p := ⟨nb, 1, none⟩) (.inl rfl) (.int .i64 t)).set (p := ⟨nb, 8, none⟩) (.inl rfl) (.int .i64 (N.lost + 1))
                have N6 : NetW lo nb mb vf _ _ { sent1 N t with lost := N.lost + 1 } := N5.updB hkS (((N5.box.set (j := 6) (by simp) (.int .i64 (N.sent + 1))).set (j := 1) (by simp) (.int .i64 t)).set (j := 8) (by simp) (.int .i64 (N.lost + 1))) rfl rfl rfl ((HOK.out.sent1 HT.out).lost1)
                go_wp2_with fail
                go_ret
                exact ⟨rfl, _, N6, (K5.fr _).trans (hkS.fr (.inl rfl)), fun k hk => .inl hk⟩
          | true =>
            by_cases h1 : 1024 ≤ N.fly.length
            · have e4 : decide (1024 ≤ (N.fly.length : Int)) = true := decide_eq_true (by omega)
              have hF : fullB N m = true := by rw [HU.out, HL.out]; simp [*]
              obtain rfl := HG2.out.trans (if_pos hF)
              clear hF
              try replace h2 := hid h2
              go_wp2_with fail
              go_ret
              exact ⟨rfl, _, N5, K5.fr _, fun k hk => .inl hk⟩
            · have e4 : decide (1024 ≤ (N.fly.length : Int)) = false := decide_eq_false (by omega)
              by_cases h2 : N.fly.length = 1023
              · have e5 : ((N.fly.length : Int) == 1023) = true := by rw [h2]; rfl
                have e6 : (N.fly.length == 1023) = true := by rw [h2]; rfl
                by_cases h3 : g = 0
                · have e7 : (g != 0) = false := by rw [h3]; rfl
                  have hroom : N.fly.length + 1 ≤ 1024 ∧ (g ≠ 0 → N.fly.length + 2 ≤ 1024) := ⟨by omega, fun h => absurd h3 h⟩
                  have hF : fullB N m = false := by rw [HU.out, HL.out]; simp [*]
                  have hl : lostB N m = false := by rw [HL.out]; simp [*]
                  obtain rfl := HG2.out.trans ((if_neg (by rw [hF]; simp)).trans (if_neg (by rw [hl]; simp)))
                  clear hF hl
                  try replace h2 := hid h2
                  try replace h3 := hid h3
                  have hkS := ((Kg.refl w5 nb).set (p := ⟨nb, 6, none⟩) (.inl rfl) (.int .i64 (N.sent + 1))).set (p := ⟨nb, 1, none⟩) (.inl rfl) (.int .i64 t)
                  have N6 : NetW lo nb mb vf _ _ (sent1 N t) := N5.updB hkS ((N5.box.set (j := 6) (by simp) (.int .i64 (N.sent + 1))).set (j := 1) (by simp) (.int .i64 t)) rfl rfl rfl (HOK.out.sent1 HT.out)
                  have B6 := B5.kg hkS hb5 (by have := hbw.out; omega)
                  have F6 := F5.kg hkS hbf5 (by have := hbfw.out; omega)
                  have K6 := (K5.fr (Qb nb (.slice A0 N.fly.length cA))).trans (hkS.fr (.inl rfl))
                  go_upto_region 17 with (fail)
                  generalize (w5.setCell ⟨nb, 6, none⟩ (.int .i64 (N.sent + 1))).setCell ⟨nb, 1, none⟩ (.int .i64 t) = w6 at *
                  have hb6 := Nat.lt_of_lt_of_le hb5 hkS.size
                  have hbs6 := hid hb6
                  have hz6 := K6.size
                  clear hkS N5 B5 F5 K5 c0 c1 c2 c3 c4 c5 c6 c7 c8 e1 e2 f0 f1 f2 ff0 ff1 ff2 hnb4 hsb hsb0 hlb hlb0 hb5 hbf5 e4 e5 e6 h1
                  try clear e7
                  have f1 := F6.cell (j := 1) rfl
                  have f2 := F6.cell (j := 2) rfl
                  have k7 := (Kp.refl w6).alloc (.cells #[.int .i64 y, .int .i64 g] 3)
                  have L7 := Bx.new w6 #[.int .i64 y, .int .i64 g] 3
                  have N7 := N6.kp k7
                  have B7 := B6.keep (k7.block hb6)
                  have K7 := K6.kp k7
                  have hb7 := Nat.lt_of_lt_of_le hb6 k7.size
                  have hl7 := alloc_lt w6 (.cells #[.int .i64 y, .int .i64 g] 3)
                  clear N6 B6 K6 k7
                  go_wp2_with fail
                  generalize w6.alloc (.cells #[.int .i64 y, .int .i64 g] 3) = w7 at *
                  generalize hbb : w6.heap.size = b2 at *
                  have hb2w := hid hbb
                  clear hbb f1 f2 F6 hb6
                  have HV2 := hid HV.out
                  have HRM := hid hroom
                  clear hroom HV HG2 HU HL
                  go_loopw [94] (fun iv wr => ∃ k : Nat, ∃ sv', k ≤ 2 ∧ iv = .int .i64 (k : Int) ∧ NetW lo nb mb vf sv' wr (([y, g].take k).foldl (addC t m data) (sent1 N t)) ∧ Fr (Qb nb (.slice A0 N.fly.length cA)) w wr ∧ Bx wr b cs ∧ Bx wr b2 [.int .i64 y, .int .i64 g] ∧ Hid (b < wr.heap.size ∧ b2 < wr.heap.size ∧ ∀ q, sv'.ownBlock = some q → q ≠ b ∧ q ≠ b2 ∧ ((Value.slice A0 N.fly.length cA).ownBlock = some q ∨ w.heap.size ≤ q))) (fun iv _ => 2 - (intOf iv).toNat)
                  case atStart =>
                    refine ⟨0, _, by omega, rfl, N7, K7, B7, L7, hid ⟨hb7, hl7, fun q hq => ⟨?_, ?_, .inl hq⟩⟩⟩
                    · have := HSV.out q hq
                      have := hbw.out
                      omega
                    · have := HSV.out q hq
                      have := hb2w.out
                      have := hbs6.out
                      omega
                  case round =>
                    clear N7 K7 B7 L7 hb7 hl7
                    obtain ⟨k, sv', hk, rfl, NK, KK, BK, LK, HKB⟩ := hrel
                    by_cases hk2 : k < 2
                    · have HS := hid (foldl_take_succ (addC t m data) [y, g] k (sent1 N t) hk2)
                      have HA := hid (addK_facts t m data ([y, g].take k) (sent1 N t))
                      have HTL : Hid (([y, g].take k).length = k) := hid (by simp; omega)
                      generalize ([y, g].take k).foldl (addC t m data) (sent1 N t) = Nk at *
                      have hcell : ∃ dl : Int, [y, g][k] = dl ∧ wr.cell? ⟨b2, k, none⟩ = some (.int .i64 dl) ∧ 0 ≤ dl ∧ dl ≤ 1024 ∧ (dl ≠ 0 → Nk.fly.length + 1 ≤ 1024) := by
                        have hA := HA.out.2.2.1
                        rw [HTL.out] at hA
                        have hs1 : (sent1 N t).fly.length = N.fly.length := rfl
                        rw [hs1] at hA
                        obtain ⟨v1, v2, v3, v4, -⟩ := HV2.out
                        obtain ⟨r1, r2⟩ := HRM.out
                        have hk3 : k = 0 ∨ k = 1 := by omega
                        rcases hk3 with rfl | rfl
                        · exact ⟨y, rfl, LK.cell rfl, v1, v2, fun _ => by omega⟩
                        · exact ⟨g, rfl, LK.cell rfl, v3, v4, fun h => by have := r2 h; omega⟩
                      obtain ⟨dl, hdl, cdl, hd0, hd1, hdr⟩ := hcell
                      rw [hdl] at HS
                      replace HS := hid HS.out
                      clear hdl
                      have hkl : (k : Int) < 2 := by omega
                      obtain ⟨es, clock, hmp, hmo⟩ := NK.mp
                      obtain ⟨A1, cB, rfl⟩ := NK.svForm
                      have hlb2 := HKB.out.2.1
                      have hcp : 0 ≤ Nk.copies ∧ Nk.copies ≤ 1000002 := by
                        have h1 := HA.out.1
                        have h2 := HA.out.2.1
                        rw [HTL.out] at h2
                        have h3 : (sent1 N t).copies = N.copies := rfl
                        rw [h3] at h1 h2
                        have h4 := hff.out.1
                        have h5 := HOK.out.pos.1
                        omega
                      by_cases hz : dl = 0
                      · have e3 : (dl != 0) = false := by rw [hz]; rfl
                        have HZ : Hid (addC t m data Nk dl = Nk) := hid (by rw [addC, if_neg (by simpa using hz)])
                        replace hz := hid hz
                        clear hmp hmo
                        go_wp2_with fail
                        go_roundw
                        case rel => exact ⟨k + 1, _, by omega, by go_num, by rw [HS.out, HZ.out]; exact NK, KK, BK, LK, HKB⟩
                        case measure => simp [intOf]; omega
                      · have e3 : (dl != 0) = true := by simpa using hz
                        have hz2 := hid hz
                        obtain ⟨Q, own, hp⟩ := NK.fl
                        have hQl := hid hp.perm.length_eq
                        have hnums := hid NK.ok.nums
                        have hpush := hid (heap_push (p := ⟨t + dl, Nk.copies, m.sender, m.to, data⟩) hp (fun q hq => by have := NK.ok.nums q hq; show Nk.copies ≠ q.num; omega))
                        have c0 := (NK).box.cell (j := 0) rfl
                        have c1 := (NK).box.cell (j := 1) rfl
                        have c2 := (NK).box.cell (j := 2) rfl
                        have c3 := (NK).box.cell (j := 3) rfl
                        have c4 := (NK).box.cell (j := 4) rfl
                        have c5 := (NK).box.cell (j := 5) rfl
                        have c6 := (NK).box.cell (j := 6) rfl
                        have c7 := (NK).box.cell (j := 7) rfl
                        have c8 := (NK).box.cell (j := 8) rfl
                        have e1 := BK.cell HM1.out
                        have e2 := BK.cell HM2.out
                        have hnbk := NK.lt
                        have ht0 := HT.out.1
                        have ht1 := HT.out.2
                        have hQ2 : Q.length + 1 ≤ 2000 := by rw [hQl.out]; have := NK.ok.len; omega
                        have hNB := hid NK.box
                        have hOK := hid (NK.ok.addC (t := t) (m := m) (data := data) (dl := dl) hdr)
                        have hNK := hid NK
                        clear hz hmp hmo hp NK hdr
                        go_upto_region 21 with (fail)
                        have kk := Kp.refl wr
                        refine G2.wp_region_growG Kp [] 18 127 (G2.pvL [G2.eqv (.pointer (some ⟨nb, 0, none⟩)), G2.eqv (.pointer (some ⟨nb, 0, none⟩)), G2.eqv (.pointer (some ⟨nb, 4, none⟩)), G2.eqv (.iface 103 (.pointer (some ⟨nb, 4, none⟩))), G2.eqv (.int .i64 t), G2.eqv (.int .i64 dl), G2.eqv (.int .i64 (t + dl)), G2.eqv (.pointer (some ⟨nb, 0, none⟩)), G2.eqv (.pointer (some ⟨nb, 0, none⟩)), G2.eqv (.pointer (some ⟨nb, 5, none⟩)), G2.eqv (.int .i64 Nk.copies), G2.eqv (.pointer (some ⟨b, 1, none⟩)), G2.eqv (.int .i64 m.sender), G2.eqv (.pointer (some ⟨b, 2, none⟩)), G2.eqv (.int .i64 m.to), G2.eqv (strV data), G2.eqv (.agg (encPar ⟨t + dl, Nk.copies, m.sender, m.to, data⟩).toArray), G2.eqv (.iface 105 (.agg (encPar ⟨t + dl, Nk.copies, m.sender, m.to, data⟩).toArray))]) (by kernel_rfl) (by kernel_rfl) rfl (fun x => Kp.refl x) (fun _ _ _ h k => h.trans k) (Kp.refl _).drew (fun _ _ _ _ _ h => h) (G2.pvL_keep (G2.stabL_cons (G2.stab_eq _) (G2.stabL_cons (G2.stab_eq _) (G2.stabL_cons (G2.stab_eq _) (G2.stabL_cons (G2.stab_eq _) (G2.stabL_cons (G2.stab_eq _) (G2.stabL_cons (G2.stab_eq _) (G2.stabL_cons (G2.stab_eq _) (G2.stabL_cons (G2.stab_eq _) (G2.stabL_cons (G2.stab_eq _) (G2.stabL_cons (G2.stab_eq _) (G2.stabL_cons (G2.stab_eq _) (G2.stabL_cons (G2.stab_eq _) (G2.stabL_cons (G2.stab_eq _) (G2.stabL_cons (G2.stab_eq _) (G2.stabL_cons (G2.stab_eq _) (G2.stabL_cons (G2.stab_eq _) (G2.stabL_cons (G2.stab_eq _) (G2.stabL_cons (G2.stab_eq _) (G2.stabL_nil)))))))))))))))))))) ?_ ?_ ?_
                        · intro i0 hi0
                          have hi' : i0 = 0 ∨ i0 = 1 ∨ i0 = 2 ∨ i0 = 3 ∨ i0 = 4 ∨ i0 = 5 ∨ i0 = 6 ∨ i0 = 7 ∨ i0 = 8 ∨ i0 = 9 ∨ i0 = 10 ∨ i0 = 11 ∨ i0 = 12 ∨ i0 = 13 ∨ i0 = 14 ∨ i0 = 15 ∨ i0 = 16 ∨ i0 = 17 := by omega
                          rcases hi' with rfl | rfl | rfl | rfl | rfl | rfl | rfl | rfl | rfl | rfl | rfl | rfl | rfl | rfl | rfl | rfl | rfl | rfl
                          · intro a w' hk hF hD K hK
                            simp only [List.getElem?_toArray, List.getElem?_cons_zero, List.getElem?_cons_succ, Option.map_some, Option.getD_some]
                            have h0 : a.tmps[0]?.getD undef = .pointer (some ⟨nb, 0, none⟩) := hF 0 (by kernel_rfl)
                            clear hF hD
                            go_simp
                            exact hK.out _ _ (Kp.refl _) rfl
                          · intro a w' hk hF hD K hK
                            simp only [List.getElem?_toArray, List.getElem?_cons_zero, List.getElem?_cons_succ, Option.map_some, Option.getD_some]
                            have h100 : a.tmps[100]?.getD undef = .pointer (some ⟨nb, 0, none⟩) := hD 0 (by kernel_rfl)
                            clear hF hD
                            go_simp
                            exact hK.out _ _ (Kp.refl _) rfl
                          · intro a w' hk hF hD K hK
                            simp only [List.getElem?_toArray, List.getElem?_cons_zero, List.getElem?_cons_succ, Option.map_some, Option.getD_some]
                            have h101 : a.tmps[101]?.getD undef = .pointer (some ⟨nb, 0, none⟩) := hD 1 (by kernel_rfl)
                            clear hF hD
                            go_simp
                            exact hK.out _ _ (Kp.refl _) rfl
                          · intro a w' hk hF hD K hK
                            simp only [List.getElem?_toArray, List.getElem?_cons_zero, List.getElem?_cons_succ, Option.map_some, Option.getD_some]
                            have h102 : a.tmps[102]?.getD undef = .pointer (some ⟨nb, 4, none⟩) := hD 2 (by kernel_rfl)
                            clear hF hD
                            go_simp
                            exact hK.out _ _ (Kp.refl _) rfl
                          · intro a w' hk hF hD K hK
                            simp only [List.getElem?_toArray, List.getElem?_cons_zero, List.getElem?_cons_succ, Option.map_some, Option.getD_some]
                            have h2 : a.tmps[2]?.getD undef = .int .i64 t := hF 2 (by kernel_rfl)
                            clear hF hD
                            go_simp
                            exact hK.out _ _ (Kp.refl _) rfl
                          · intro a w' hk hF hD K hK
                            simp only [List.getElem?_toArray, List.getElem?_cons_zero, List.getElem?_cons_succ, Option.map_some, Option.getD_some]
                            have h12 : a.tmps[12]?.getD undef = .int .i64 dl := hF 12 (by kernel_rfl)
                            clear hF hD
                            go_simp
                            exact hK.out _ _ (Kp.refl _) rfl
                          · intro a w' hk hF hD K hK
                            simp only [List.getElem?_toArray, List.getElem?_cons_zero, List.getElem?_cons_succ, Option.map_some, Option.getD_some]
                            have h104 : a.tmps[104]?.getD undef = .int .i64 t := hD 4 (by kernel_rfl)
                            have h105 : a.tmps[105]?.getD undef = .int .i64 dl := hD 5 (by kernel_rfl)
                            clear hF hD
                            have z1 : IntKind.i64.wrap (t + dl) = t + dl := IntWalk.i64_in _ (by omega)
                            have z2 : wrap64 (t + dl) = t + dl := IntWalk.wrap64_in _ (by omega)
                            go_simp
                            exact hK.out _ _ (Kp.refl _) rfl
                          · intro a w' hk hF hD K hK
                            simp only [List.getElem?_toArray, List.getElem?_cons_zero, List.getElem?_cons_succ, Option.map_some, Option.getD_some]
                            have h0 : a.tmps[0]?.getD undef = .pointer (some ⟨nb, 0, none⟩) := hF 0 (by kernel_rfl)
                            clear hF hD
                            go_simp
                            exact hK.out _ _ (Kp.refl _) rfl
                          · intro a w' hk hF hD K hK
                            simp only [List.getElem?_toArray, List.getElem?_cons_zero, List.getElem?_cons_succ, Option.map_some, Option.getD_some]
                            have h107 : a.tmps[107]?.getD undef = .pointer (some ⟨nb, 0, none⟩) := hD 7 (by kernel_rfl)
                            clear hF hD
                            go_simp
                            exact hK.out _ _ (Kp.refl _) rfl
                          · intro a w' hk hF hD K hK
                            simp only [List.getElem?_toArray, List.getElem?_cons_zero, List.getElem?_cons_succ, Option.map_some, Option.getD_some]
                            have h108 : a.tmps[108]?.getD undef = .pointer (some ⟨nb, 0, none⟩) := hD 8 (by kernel_rfl)
                            clear hF hD
                            go_simp
                            exact hK.out _ _ (Kp.refl _) rfl
                          · intro a w' hk hF hD K hK
                            simp only [List.getElem?_toArray, List.getElem?_cons_zero, List.getElem?_cons_succ, Option.map_some, Option.getD_some]
                            have h109 : a.tmps[109]?.getD undef = .pointer (some ⟨nb, 5, none⟩) := hD 9 (by kernel_rfl)
                            clear hF hD
                            have z1 := hk.cellS c5
                            go_simp
                            exact hK.out _ _ (Kp.refl _) rfl
                          · intro a w' hk hF hD K hK
                            simp only [List.getElem?_toArray, List.getElem?_cons_zero, List.getElem?_cons_succ, Option.map_some, Option.getD_some]
                            have h4 : a.tmps[4]?.getD undef = .pointer (some ⟨b, 0, none⟩) := hF 4 (by kernel_rfl)
                            clear hF hD
                            go_simp
                            exact hK.out _ _ (Kp.refl _) rfl
                          · intro a w' hk hF hD K hK
                            simp only [List.getElem?_toArray, List.getElem?_cons_zero, List.getElem?_cons_succ, Option.map_some, Option.getD_some]
                            have h111 : a.tmps[111]?.getD undef = .pointer (some ⟨b, 1, none⟩) := hD 11 (by kernel_rfl)
                            clear hF hD
                            have z1 := hk.cellS e1
                            go_simp
                            exact hK.out _ _ (Kp.refl _) rfl
                          · intro a w' hk hF hD K hK
                            simp only [List.getElem?_toArray, List.getElem?_cons_zero, List.getElem?_cons_succ, Option.map_some, Option.getD_some]
                            have h4 : a.tmps[4]?.getD undef = .pointer (some ⟨b, 0, none⟩) := hF 4 (by kernel_rfl)
                            clear hF hD
                            go_simp
                            exact hK.out _ _ (Kp.refl _) rfl
                          · intro a w' hk hF hD K hK
                            simp only [List.getElem?_toArray, List.getElem?_cons_zero, List.getElem?_cons_succ, Option.map_some, Option.getD_some]
                            have h113 : a.tmps[113]?.getD undef = .pointer (some ⟨b, 2, none⟩) := hD 13 (by kernel_rfl)
                            clear hF hD
                            have z1 := hk.cellS e2
                            go_simp
                            exact hK.out _ _ (Kp.refl _) rfl
                          · intro a w' hk hF hD K hK
                            simp only [List.getElem?_toArray, List.getElem?_cons_zero, List.getElem?_cons_succ, Option.map_some, Option.getD_some]
                            have h7 : a.tmps[7]?.getD undef = strV data := hF 7 (by kernel_rfl)
                            clear hF hD
                            go_simp
                            exact hK.out _ _ (Kp.refl _) rfl
                          · intro a w' hk hF hD K hK
                            simp only [List.getElem?_toArray, List.getElem?_cons_zero, List.getElem?_cons_succ, Option.map_some, Option.getD_some]
                            have h106 : a.tmps[106]?.getD undef = .int .i64 (t + dl) := hD 6 (by kernel_rfl)
                            have h110 : a.tmps[110]?.getD undef = .int .i64 Nk.copies := hD 10 (by kernel_rfl)
                            have h112 : a.tmps[112]?.getD undef = .int .i64 m.sender := hD 12 (by kernel_rfl)
                            have h114 : a.tmps[114]?.getD undef = .int .i64 m.to := hD 14 (by kernel_rfl)
                            have h115 : a.tmps[115]?.getD undef = strV data := hD 15 (by kernel_rfl)
                            clear hF hD
                            go_simp
                            exact hK.out _ _ (Kp.refl _) rfl
                          · intro a w' hk hF hD K hK
                            simp only [List.getElem?_toArray, List.getElem?_cons_zero, List.getElem?_cons_succ, Option.map_some, Option.getD_some]
                            have h116 : a.tmps[116]?.getD undef = .agg (encPar ⟨t + dl, Nk.copies, m.sender, m.to, data⟩).toArray := hD 16 (by kernel_rfl)
                            clear hF hD
                            go_simp
                            exact hK.out _ _ (Kp.refl _) rfl
                        · exact fun i0 hi0 => by simp at hi0
                        intro v w9 k9 hv
                        have v3 : v 3 = .iface 103 (.pointer (some ⟨nb, 4, none⟩)) := hv 3 (by omega)
                        have v17 : v 17 = .iface 105 (.agg (encPar ⟨t + dl, Nk.copies, m.sender, m.to, data⟩).toArray) := hv 17 (by omega)
                        clear hv
                        simp only [G2.growPut, G2.gSlot, List.getElem?_toArray, List.getElem?_cons_zero, List.getElem?_cons_succ, Option.bind_some, List.setIfInBounds_toArray, List.set_cons_zero, List.set_cons_succ, List.drop_succ_cons, List.drop_zero, v3, v17]
                        go_wp2_with fail
                        have NB9 := hNB.out.kp k9 hnbk
                        refine (hPush_any nb _ _ Q ⟨t + dl, Nk.copies, m.sender, m.to, data⟩ _ NB9 rfl (own.kp k9) hQ2).mono ?_
                        rintro e w10 ⟨rfl, gg, cg, own10, NB10, hfr10, hat10⟩
                        have hat := hid hat10
                        clear hat10
                        have d5 := NB10.cell (j := 5) rfl
                        have df := NB10.free (j := 5) (by simp)
                        have hnb10 := block_lt_of_cell d5
                        have hA1 := hid (show addC t m data Nk dl = { Nk with fly := insP ⟨t + dl, Nk.copies, m.sender, m.to, data⟩ Nk.fly, copies := Nk.copies + 1 } from if_pos hz2.out)
                        have hcp0 := hcp.1
                        have hcp1 := hcp.2
                        have hkS := (Kg.refl w10 nb).set (p := ⟨nb, 5, none⟩) (.inl rfl) (.int .i64 (Nk.copies + 1))
                        have hfr11 := (k9.fr _).trans (hfr10.trans (hkS.fr (.inl rfl)))
                        have own11 := own10.kg hkS (Nat.lt_succ_self _)
                        have NB11 := NB10.set (j := 5) (by simp) (.int .i64 (Nk.copies + 1))
                        have hz9 := k9.size
                        have hKKs := KK.size
                        have hQb : ∀ i, Qb nb (.slice A1 Nk.fly.length cB) i → i ≠ b ∧ i ≠ b2 ∧ (i < w.heap.size → Qb nb (.slice A0 N.fly.length cA) i) := fun i hi => by
                          have h1 := hbw.out
                          have h2 := hbs6.out
                          have h3 := hb2w.out
                          rcases hi with rfl | hi
                          · exact ⟨by omega, by omega, fun _ => .inl rfl⟩
                          · obtain ⟨q1, q2, q3⟩ := HKB.out.2.2 i hi
                            exact ⟨q1, q2, fun hlt => .inr (by rcases q3 with h | h; exact h; omega)⟩
                        have NK1 : NetW lo nb mb vf (.slice (some ⟨gg, 0, none⟩) (Q.length + 1) cg) (w10.setCell ⟨nb, 5, none⟩ (.int .i64 (Nk.copies + 1))) (addC t m data Nk dl) := by
                          have ok1 := hOK.out
                          rw [hA1.out] at ok1 ⊢
                          exact hNK.out.upd hfr11 NB11 rfl rfl ⟨_, own11, hpush.out⟩ ok1
                        have KK1 := KK.trans2 hfr11 fun i hi hlt => (hQb i hi).2.2 hlt
                        have BK1 := BK.keep (hfr11.block b HKB.out.1 fun h => (hQb b h).1 rfl)
                        have LK1 := LK.keep (hfr11.block b2 HKB.out.2.1 fun h => (hQb b2 h).2.1 rfl)
                        have HKB1 : Hid (b < (w10.setCell ⟨nb, 5, none⟩ (.int .i64 (Nk.copies + 1))).heap.size ∧ b2 < (w10.setCell ⟨nb, 5, none⟩ (.int .i64 (Nk.copies + 1))).heap.size ∧ ∀ q, (Value.slice (some ⟨gg, 0, none⟩) (Q.length + 1) cg).ownBlock = some q → q ≠ b ∧ q ≠ b2 ∧ ((Value.slice A0 N.fly.length cA).ownBlock = some q ∨ w.heap.size ≤ q)) := hid (by
                          have hs := hfr11.size
                          obtain ⟨g1, g2, g3⟩ := HKB.out
                          refine ⟨by omega, by omega, fun q hq => ?_⟩
                          have hq2 : gg = q := by
                            have : (Value.slice (some ⟨gg, 0, none⟩) (Q.length + 1) cg).ownBlock = some gg := rfl
                            rw [this] at hq
                            injection hq
                          subst hq2
                          rcases hat.out with h | h
                          · exact g3 gg h
                          · exact ⟨by omega, by omega, .inr (by have := hbw.out; omega)⟩)
                        clear c0 c1 c2 c3 c4 c5 c6 c7 c8 e1 e2 own NB9 NB10 own10 hcp hkS hQb NB11 own11 hfr11 hfr10 KK BK LK HKB hpush hOK hA1
                        go_wp2_with fail
                        go_roundw
                        case rel => exact ⟨k + 1, _, by omega, by go_num, by rw [HS.out]; exact NK1, KK1, BK1, LK1, HKB1⟩
                        case measure => simp [intOf]; omega
                    · have hkl : ¬ (k : Int) < 2 := by omega
                      have HE : Hid ([y, g].take k = [y, g]) := hid (List.take_of_length_le (by simp; omega))
                      rw [HE.out] at NK
                      go_wp2_with fail
                      go_ret
                      exact ⟨rfl, _, NK, KK, fun q hq => (HKB.out.2.2 q hq).2.2⟩
                · have e7 : (g != 0) = true := by simpa using h3
                  have hF : fullB N m = true := by rw [HU.out, HL.out]; simp [*]
                  obtain rfl := HG2.out.trans (if_pos hF)
                  clear hF
                  try replace h2 := hid h2
                  go_wp2_with fail
                  go_ret
                  exact ⟨rfl, _, N5, K5.fr _, fun k hk => .inl hk⟩
              · have e5 : ((N.fly.length : Int) == 1023) = false := beq_false_of_ne (by omega)
                have e6 : (N.fly.length == 1023) = false := beq_false_of_ne h2
                have hroom : N.fly.length + 1 ≤ 1024 ∧ (g ≠ 0 → N.fly.length + 2 ≤ 1024) := ⟨by omega, fun _ => by omega⟩
                have hF : fullB N m = false := by rw [HU.out, HL.out]; simp [*]
                have hl : lostB N m = false := by rw [HL.out]; simp [*]
                obtain rfl := HG2.out.trans ((if_neg (by rw [hF]; simp)).trans (if_neg (by rw [hl]; simp)))
                clear hF hl
                try replace h2 := hid h2
                try replace h3 := hid h3
                have hkS := ((Kg.refl w5 nb).set (p := ⟨nb, 6, none⟩) (.inl rfl) (.int .i64 (N.sent + 1))).set (p := ⟨nb, 1, none⟩) (.inl rfl) (.int .i64 t)
                have N6 : NetW lo nb mb vf _ _ (sent1 N t) := N5.updB hkS ((N5.box.set (j := 6) (by simp) (.int .i64 (N.sent + 1))).set (j := 1) (by simp) (.int .i64 t)) rfl rfl rfl (HOK.out.sent1 HT.out)
                have B6 := B5.kg hkS hb5 (by have := hbw.out; omega)
                have F6 := F5.kg hkS hbf5 (by have := hbfw.out; omega)
                have K6 := (K5.fr (Qb nb (.slice A0 N.fly.length cA))).trans (hkS.fr (.inl rfl))
                go_upto_region 17 with (fail)
                generalize (w5.setCell ⟨nb, 6, none⟩ (.int .i64 (N.sent + 1))).setCell ⟨nb, 1, none⟩ (.int .i64 t) = w6 at *
                have hb6 := Nat.lt_of_lt_of_le hb5 hkS.size
                have hbs6 := hid hb6
                have hz6 := K6.size
                clear hkS N5 B5 F5 K5 c0 c1 c2 c3 c4 c5 c6 c7 c8 e1 e2 f0 f1 f2 ff0 ff1 ff2 hnb4 hsb hsb0 hlb hlb0 hb5 hbf5 e4 e5 e6 h1
                try clear e7
                have f1 := F6.cell (j := 1) rfl
                have f2 := F6.cell (j := 2) rfl
                have k7 := (Kp.refl w6).alloc (.cells #[.int .i64 y, .int .i64 g] 3)
                have L7 := Bx.new w6 #[.int .i64 y, .int .i64 g] 3
                have N7 := N6.kp k7
                have B7 := B6.keep (k7.block hb6)
                have K7 := K6.kp k7
                have hb7 := Nat.lt_of_lt_of_le hb6 k7.size
                have hl7 := alloc_lt w6 (.cells #[.int .i64 y, .int .i64 g] 3)
                clear N6 B6 K6 k7
                go_wp2_with fail
                generalize w6.alloc (.cells #[.int .i64 y, .int .i64 g] 3) = w7 at *
                generalize hbb : w6.heap.size = b2 at *
                have hb2w := hid hbb
                clear hbb f1 f2 F6 hb6
                have HV2 := hid HV.out
                have HRM := hid hroom
                clear hroom HV HG2 HU HL
                go_loopw [94] (fun iv wr => ∃ k : Nat, ∃ sv', k ≤ 2 ∧ iv = .int .i64 (k : Int) ∧ NetW lo nb mb vf sv' wr (([y, g].take k).foldl (addC t m data) (sent1 N t)) ∧ Fr (Qb nb (.slice A0 N.fly.length cA)) w wr ∧ Bx wr b cs ∧ Bx wr b2 [.int .i64 y, .int .i64 g] ∧ Hid (b < wr.heap.size ∧ b2 < wr.heap.size ∧ ∀ q, sv'.ownBlock = some q → q ≠ b ∧ q ≠ b2 ∧ ((Value.slice A0 N.fly.length cA).ownBlock = some q ∨ w.heap.size ≤ q))) (fun iv _ => 2 - (intOf iv).toNat)
                case atStart =>
                  refine ⟨0, _, by omega, rfl, N7, K7, B7, L7, hid ⟨hb7, hl7, fun q hq => ⟨?_, ?_, .inl hq⟩⟩⟩
                  · have := HSV.out q hq
                    have := hbw.out
                    omega
                  · have := HSV.out q hq
                    have := hb2w.out
                    have := hbs6.out
                    omega
                case round =>
                  clear N7 K7 B7 L7 hb7 hl7
                  obtain ⟨k, sv', hk, rfl, NK, KK, BK, LK, HKB⟩ := hrel
                  by_cases hk2 : k < 2
                  · have HS := hid (foldl_take_succ (addC t m data) [y, g] k (sent1 N t) hk2)
                    have HA := hid (addK_facts t m data ([y, g].take k) (sent1 N t))
                    have HTL : Hid (([y, g].take k).length = k) := hid (by simp; omega)
                    generalize ([y, g].take k).foldl (addC t m data) (sent1 N t) = Nk at *
                    have hcell : ∃ dl : Int, [y, g][k] = dl ∧ wr.cell? ⟨b2, k, none⟩ = some (.int .i64 dl) ∧ 0 ≤ dl ∧ dl ≤ 1024 ∧ (dl ≠ 0 → Nk.fly.length + 1 ≤ 1024) := by
                      have hA := HA.out.2.2.1
                      rw [HTL.out] at hA
                      have hs1 : (sent1 N t).fly.length = N.fly.length := rfl
                      rw [hs1] at hA
                      obtain ⟨v1, v2, v3, v4, -⟩ := HV2.out
                      obtain ⟨r1, r2⟩ := HRM.out
                      have hk3 : k = 0 ∨ k = 1 := by omega
                      rcases hk3 with rfl | rfl
                      · exact ⟨y, rfl, LK.cell rfl, v1, v2, fun _ => by omega⟩
                      · exact ⟨g, rfl, LK.cell rfl, v3, v4, fun h => by have := r2 h; omega⟩
                    obtain ⟨dl, hdl, cdl, hd0, hd1, hdr⟩ := hcell
                    rw [hdl] at HS
                    replace HS := hid HS.out
                    clear hdl
                    have hkl : (k : Int) < 2 := by omega
                    obtain ⟨es, clock, hmp, hmo⟩ := NK.mp
                    obtain ⟨A1, cB, rfl⟩ := NK.svForm
                    have hlb2 := HKB.out.2.1
                    have hcp : 0 ≤ Nk.copies ∧ Nk.copies ≤ 1000002 := by
                      have h1 := HA.out.1
                      have h2 := HA.out.2.1
                      rw [HTL.out] at h2
                      have h3 : (sent1 N t).copies = N.copies := rfl
                      rw [h3] at h1 h2
                      have h4 := hff.out.1
                      have h5 := HOK.out.pos.1
                      omega
                    by_cases hz : dl = 0
                    · have e3 : (dl != 0) = false := by rw [hz]; rfl
                      have HZ : Hid (addC t m data Nk dl = Nk) := hid (by rw [addC, if_neg (by simpa using hz)])
                      replace hz := hid hz
                      clear hmp hmo
                      go_wp2_with fail
                      go_roundw
                      case rel => exact ⟨k + 1, _, by omega, by go_num, by rw [HS.out, HZ.out]; exact NK, KK, BK, LK, HKB⟩
                      case measure => simp [intOf]; omega
                    · have e3 : (dl != 0) = true := by simpa using hz
                      have hz2 := hid hz
                      obtain ⟨Q, own, hp⟩ := NK.fl
                      have hQl := hid hp.perm.length_eq
                      have hnums := hid NK.ok.nums
                      have hpush := hid (heap_push (p := ⟨t + dl, Nk.copies, m.sender, m.to, data⟩) hp (fun q hq => by have := NK.ok.nums q hq; show Nk.copies ≠ q.num; omega))
                      have c0 := (NK).box.cell (j := 0) rfl
                      have c1 := (NK).box.cell (j := 1) rfl
                      have c2 := (NK).box.cell (j := 2) rfl
                      have c3 := (NK).box.cell (j := 3) rfl
                      have c4 := (NK).box.cell (j := 4) rfl
                      have c5 := (NK).box.cell (j := 5) rfl
                      have c6 := (NK).box.cell (j := 6) rfl
                      have c7 := (NK).box.cell (j := 7) rfl
                      have c8 := (NK).box.cell (j := 8) rfl
                      have e1 := BK.cell HM1.out
                      have e2 := BK.cell HM2.out
                      have hnbk := NK.lt
                      have ht0 := HT.out.1
                      have ht1 := HT.out.2
                      have hQ2 : Q.length + 1 ≤ 2000 := by rw [hQl.out]; have := NK.ok.len; omega
                      have hNB := hid NK.box
                      have hOK := hid (NK.ok.addC (t := t) (m := m) (data := data) (dl := dl) hdr)
                      have hNK := hid NK
                      clear hz hmp hmo hp NK hdr
                      go_upto_region 21 with (fail)
                      have kk := Kp.refl wr
                      refine G2.wp_region_growG Kp [] 18 127 (G2.pvL [G2.eqv (.pointer (some ⟨nb, 0, none⟩)), G2.eqv (.pointer (some ⟨nb, 0, none⟩)), G2.eqv (.pointer (some ⟨nb, 4, none⟩)), G2.eqv (.iface 103 (.pointer (some ⟨nb, 4, none⟩))), G2.eqv (.int .i64 t), G2.eqv (.int .i64 dl), G2.eqv (.int .i64 (t + dl)), G2.eqv (.pointer (some ⟨nb, 0, none⟩)), G2.eqv (.pointer (some ⟨nb, 0, none⟩)), G2.eqv (.pointer (some ⟨nb, 5, none⟩)), G2.eqv (.int .i64 Nk.copies), G2.eqv (.pointer (some ⟨b, 1, none⟩)), G2.eqv (.int .i64 m.sender), G2.eqv (.pointer (some ⟨b, 2, none⟩)), G2.eqv (.int .i64 m.to), G2.eqv (strV data), G2.eqv (.agg (encPar ⟨t + dl, Nk.copies, m.sender, m.to, data⟩).toArray), G2.eqv (.iface 105 (.agg (encPar ⟨t + dl, Nk.copies, m.sender, m.to, data⟩).toArray))]) (by kernel_rfl) (by kernel_rfl) rfl (fun x => Kp.refl x) (fun _ _ _ h k => h.trans k) (Kp.refl _).drew (fun _ _ _ _ _ h => h) (G2.pvL_keep (G2.stabL_cons (G2.stab_eq _) (G2.stabL_cons (G2.stab_eq _) (G2.stabL_cons (G2.stab_eq _) (G2.stabL_cons (G2.stab_eq _) (G2.stabL_cons (G2.stab_eq _) (G2.stabL_cons (G2.stab_eq _) (G2.stabL_cons (G2.stab_eq _) (G2.stabL_cons (G2.stab_eq _) (G2.stabL_cons (G2.stab_eq _) (G2.stabL_cons (G2.stab_eq _) (G2.stabL_cons (G2.stab_eq _) (G2.stabL_cons (G2.stab_eq _) (G2.stabL_cons (G2.stab_eq _) (G2.stabL_cons (G2.stab_eq _) (G2.stabL_cons (G2.stab_eq _) (G2.stabL_cons (G2.stab_eq _) (G2.stabL_cons (G2.stab_eq _) (G2.stabL_cons (G2.stab_eq _) (G2.stabL_nil)))))))))))))))))))) ?_ ?_ ?_
                      · intro i0 hi0
                        have hi' : i0 = 0 ∨ i0 = 1 ∨ i0 = 2 ∨ i0 = 3 ∨ i0 = 4 ∨ i0 = 5 ∨ i0 = 6 ∨ i0 = 7 ∨ i0 = 8 ∨ i0 = 9 ∨ i0 = 10 ∨ i0 = 11 ∨ i0 = 12 ∨ i0 = 13 ∨ i0 = 14 ∨ i0 = 15 ∨ i0 = 16 ∨ i0 = 17 := by omega
                        rcases hi' with rfl | rfl | rfl | rfl | rfl | rfl | rfl | rfl | rfl | rfl | rfl | rfl | rfl | rfl | rfl | rfl | rfl | rfl
                        · intro a w' hk hF hD K hK
                          simp only [List.getElem?_toArray, List.getElem?_cons_zero, List.getElem?_cons_succ, Option.map_some, Option.getD_some]
                          have h0 : a.tmps[0]?.getD undef = .pointer (some ⟨nb, 0, none⟩) := hF 0 (by kernel_rfl)
                          clear hF hD
                          go_simp
                          exact hK.out _ _ (Kp.refl _) rfl
                        · intro a w' hk hF hD K hK
                          simp only [List.getElem?_toArray, List.getElem?_cons_zero, List.getElem?_cons_succ, Option.map_some, Option.getD_some]
                          have h100 : a.tmps[100]?.getD undef = .pointer (some ⟨nb, 0, none⟩) := hD 0 (by kernel_rfl)
                          clear hF hD
                          go_simp
                          exact hK.out _ _ (Kp.refl _) rfl
                        · intro a w' hk hF hD K hK
                          simp only [List.getElem?_toArray, List.getElem?_cons_zero, List.getElem?_cons_succ, Option.map_some, Option.getD_some]
                          have h101 : a.tmps[101]?.getD undef = .pointer (some ⟨nb, 0, none⟩) := hD 1 (by kernel_rfl)
                          clear hF hD
                          go_simp
                          exact hK.out _ _ (Kp.refl _) rfl
                        · intro a w' hk hF hD K hK
                          simp only [List.getElem?_toArray, List.getElem?_cons_zero, List.getElem?_cons_succ, Option.map_some, Option.getD_some]
                          have h102 : a.tmps[102]?.getD undef = .pointer (some ⟨nb, 4, none⟩) := hD 2 (by kernel_rfl)
                          clear hF hD
                          go_simp
                          exact hK.out _ _ (Kp.refl _) rfl
                        · intro a w' hk hF hD K hK
                          simp only [List.getElem?_toArray, List.getElem?_cons_zero, List.getElem?_cons_succ, Option.map_some, Option.getD_some]
                          have h2 : a.tmps[2]?.getD undef = .int .i64 t := hF 2 (by kernel_rfl)
                          clear hF hD
                          go_simp
                          exact hK.out _ _ (Kp.refl _) rfl
                        · intro a w' hk hF hD K hK
                          simp only [List.getElem?_toArray, List.getElem?_cons_zero, List.getElem?_cons_succ, Option.map_some, Option.getD_some]
                          have h12 : a.tmps[12]?.getD undef = .int .i64 dl := hF 12 (by kernel_rfl)
                          clear hF hD
                          go_simp
                          exact hK.out _ _ (Kp.refl _) rfl
                        · intro a w' hk hF hD K hK
                          simp only [List.getElem?_toArray, List.getElem?_cons_zero, List.getElem?_cons_succ, Option.map_some, Option.getD_some]
                          have h104 : a.tmps[104]?.getD undef = .int .i64 t := hD 4 (by kernel_rfl)
                          have h105 : a.tmps[105]?.getD undef = .int .i64 dl := hD 5 (by kernel_rfl)
                          clear hF hD
                          have z1 : IntKind.i64.wrap (t + dl) = t + dl := IntWalk.i64_in _ (by omega)
                          have z2 : wrap64 (t + dl) = t + dl := IntWalk.wrap64_in _ (by omega)
                          go_simp
                          exact hK.out _ _ (Kp.refl _) rfl
                        · intro a w' hk hF hD K hK
                          simp only [List.getElem?_toArray, List.getElem?_cons_zero, List.getElem?_cons_succ, Option.map_some, Option.getD_some]
                          have h0 : a.tmps[0]?.getD undef = .pointer (some ⟨nb, 0, none⟩) := hF 0 (by kernel_rfl)
                          clear hF hD
                          go_simp
                          exact hK.out _ _ (Kp.refl _) rfl
                        · intro a w' hk hF hD K hK
                          simp only [List.getElem?_toArray, List.getElem?_cons_zero, List.getElem?_cons_succ, Option.map_some, Option.getD_some]
                          have h107 : a.tmps[107]?.getD undef = .pointer (some ⟨nb, 0, none⟩) := hD 7 (by kernel_rfl)
                          clear hF hD
                          go_simp
                          exact hK.out _ _ (Kp.refl _) rfl
                        · intro a w' hk hF hD K hK
                          simp only [List.getElem?_toArray, List.getElem?_cons_zero, List.getElem?_cons_succ, Option.map_some, Option.getD_some]
                          have h108 : a.tmps[108]?.getD undef = .pointer (some ⟨nb, 0, none⟩) := hD 8 (by kernel_rfl)
                          clear hF hD
                          go_simp
                          exact hK.out _ _ (Kp.refl _) rfl
                        · intro a w' hk hF hD K hK
                          simp only [List.getElem?_toArray, List.getElem?_cons_zero, List.getElem?_cons_succ, Option.map_some, Option.getD_some]
                          have h109 : a.tmps[109]?.getD undef = .pointer (some ⟨nb, 5, none⟩) := hD 9 (by kernel_rfl)
                          clear hF hD
                          have z1 := hk.cellS c5
                          go_simp
                          exact hK.out _ _ (Kp.refl _) rfl
                        · intro a w' hk hF hD K hK
                          simp only [List.getElem?_toArray, List.getElem?_cons_zero, List.getElem?_cons_succ, Option.map_some, Option.getD_some]
                          have h4 : a.tmps[4]?.getD undef = .pointer (some ⟨b, 0, none⟩) := hF 4 (by kernel_rfl)
                          clear hF hD
                          go_simp
                          exact hK.out _ _ (Kp.refl _) rfl
                        · intro a w' hk hF hD K hK
                          simp only [List.getElem?_toArray, List.getElem?_cons_zero, List.getElem?_cons_succ, Option.map_some, Option.getD_some]
                          have h111 : a.tmps[111]?.getD undef = .pointer (some ⟨b, 1, none⟩) := hD 11 (by kernel_rfl)
                          clear hF hD
                          have z1 := hk.cellS e1
                          go_simp
                          exact hK.out _ _ (Kp.refl _) rfl
                        · intro a w' hk hF hD K hK
                          simp only [List.getElem?_toArray, List.getElem?_cons_zero, List.getElem?_cons_succ, Option.map_some, Option.getD_some]
                          have h4 : a.tmps[4]?.getD undef = .pointer (some ⟨b, 0, none⟩) := hF 4 (by kernel_rfl)
                          clear hF hD
                          go_simp
                          exact hK.out _ _ (Kp.refl _) rfl
                        · intro a w' hk hF hD K hK
                          simp only [List.getElem?_toArray, List.getElem?_cons_zero, List.getElem?_cons_succ, Option.map_some, Option.getD_some]
                          have h113 : a.tmps[113]?.getD undef = .pointer (some ⟨b, 2, none⟩) := hD 13 (by kernel_rfl)
                          clear hF hD
                          have z1 := hk.cellS e2
                          go_simp
                          exact hK.out _ _ (Kp.refl _) rfl
                        · intro a w' hk hF hD K hK
                          simp only [List.getElem?_toArray, List.getElem?_cons_zero, List.getElem?_cons_succ, Option.map_some, Option.getD_some]
                          have h7 : a.tmps[7]?.getD undef = strV data := hF 7 (by kernel_rfl)
                          clear hF hD
                          go_simp
                          exact hK.out _ _ (Kp.refl _) rfl
                        · intro a w' hk hF hD K hK
                          simp only [List.getElem?_toArray, List.getElem?_cons_zero, List.getElem?_cons_succ, Option.map_some, Option.getD_some]
                          have h106 : a.tmps[106]?.getD undef = .int .i64 (t + dl) := hD 6 (by kernel_rfl)
                          have h110 : a.tmps[110]?.getD undef = .int .i64 Nk.copies := hD 10 (by kernel_rfl)
                          have h112 : a.tmps[112]?.getD undef = .int .i64 m.sender := hD 12 (by kernel_rfl)
                          have h114 : a.tmps[114]?.getD undef = .int .i64 m.to := hD 14 (by kernel_rfl)
                          have h115 : a.tmps[115]?.getD undef = strV data := hD 15 (by kernel_rfl)
                          clear hF hD
                          go_simp
                          exact hK.out _ _ (Kp.refl _) rfl
                        · intro a w' hk hF hD K hK
                          simp only [List.getElem?_toArray, List.getElem?_cons_zero, List.getElem?_cons_succ, Option.map_some, Option.getD_some]
                          have h116 : a.tmps[116]?.getD undef = .agg (encPar ⟨t + dl, Nk.copies, m.sender, m.to, data⟩).toArray := hD 16 (by kernel_rfl)
                          clear hF hD
                          go_simp
                          exact hK.out _ _ (Kp.refl _) rfl
                      · exact fun i0 hi0 => by simp at hi0
                      intro v w9 k9 hv
                      have v3 : v 3 = .iface 103 (.pointer (some ⟨nb, 4, none⟩)) := hv 3 (by omega)
                      have v17 : v 17 = .iface 105 (.agg (encPar ⟨t + dl, Nk.copies, m.sender, m.to, data⟩).toArray) := hv 17 (by omega)
                      clear hv
                      simp only [G2.growPut, G2.gSlot, List.getElem?_toArray, List.getElem?_cons_zero, List.getElem?_cons_succ, Option.bind_some, List.setIfInBounds_toArray, List.set_cons_zero, List.set_cons_succ, List.drop_succ_cons, List.drop_zero, v3, v17]
                      go_wp2_with fail
                      have NB9 := hNB.out.kp k9 hnbk
                      refine (hPush_any nb _ _ Q ⟨t + dl, Nk.copies, m.sender, m.to, data⟩ _ NB9 rfl (own.kp k9) hQ2).mono ?_
                      rintro e w10 ⟨rfl, gg, cg, own10, NB10, hfr10, hat10⟩
                      have hat := hid hat10
                      clear hat10
                      have d5 := NB10.cell (j := 5) rfl
                      have df := NB10.free (j := 5) (by simp)
                      have hnb10 := block_lt_of_cell d5
                      have hA1 := hid (show addC t m data Nk dl = { Nk with fly := insP ⟨t + dl, Nk.copies, m.sender, m.to, data⟩ Nk.fly, copies := Nk.copies + 1 } from if_pos hz2.out)
                      have hcp0 := hcp.1
                      have hcp1 := hcp.2
                      have hkS := (Kg.refl w10 nb).set (p := ⟨nb, 5, none⟩) (.inl rfl) (.int .i64 (Nk.copies + 1))
                      have hfr11 := (k9.fr _).trans (hfr10.trans (hkS.fr (.inl rfl)))
                      have own11 := own10.kg hkS (Nat.lt_succ_self _)
                      have NB11 := NB10.set (j := 5) (by simp) (.int .i64 (Nk.copies + 1))
                      have hz9 := k9.size
                      have hKKs := KK.size
                      have hQb : ∀ i, Qb nb (.slice A1 Nk.fly.length cB) i → i ≠ b ∧ i ≠ b2 ∧ (i < w.heap.size → Qb nb (.slice A0 N.fly.length cA) i) := fun i hi => by
                        have h1 := hbw.out
                        have h2 := hbs6.out
                        have h3 := hb2w.out
                        rcases hi with rfl | hi
                        · exact ⟨by omega, by omega, fun _ => .inl rfl⟩
                        · obtain ⟨q1, q2, q3⟩ := HKB.out.2.2 i hi
                          exact ⟨q1, q2, fun hlt => .inr (by rcases q3 with h | h; exact h; omega)⟩
                      have NK1 : NetW lo nb mb vf (.slice (some ⟨gg, 0, none⟩) (Q.length + 1) cg) (w10.setCell ⟨nb, 5, none⟩ (.int .i64 (Nk.copies + 1))) (addC t m data Nk dl) := by
                        have ok1 := hOK.out
                        rw [hA1.out] at ok1 ⊢
                        exact hNK.out.upd hfr11 NB11 rfl rfl ⟨_, own11, hpush.out⟩ ok1
                      have KK1 := KK.trans2 hfr11 fun i hi hlt => (hQb i hi).2.2 hlt
                      have BK1 := BK.keep (hfr11.block b HKB.out.1 fun h => (hQb b h).1 rfl)
                      have LK1 := LK.keep (hfr11.block b2 HKB.out.2.1 fun h => (hQb b2 h).2.1 rfl)
                      have HKB1 : Hid (b < (w10.setCell ⟨nb, 5, none⟩ (.int .i64 (Nk.copies + 1))).heap.size ∧ b2 < (w10.setCell ⟨nb, 5, none⟩ (.int .i64 (Nk.copies + 1))).heap.size ∧ ∀ q, (Value.slice (some ⟨gg, 0, none⟩) (Q.length + 1) cg).ownBlock = some q → q ≠ b ∧ q ≠ b2 ∧ ((Value.slice A0 N.fly.length cA).ownBlock = some q ∨ w.heap.size ≤ q)) := hid (by
                        have hs := hfr11.size
                        obtain ⟨g1, g2, g3⟩ := HKB.out
                        refine ⟨by omega, by omega, fun q hq => ?_⟩
                        have hq2 : gg = q := by
                          have : (Value.slice (some ⟨gg, 0, none⟩) (Q.length + 1) cg).ownBlock = some gg := rfl
                          rw [this] at hq
                          injection hq
                        subst hq2
                        rcases hat.out with h | h
                        · exact g3 gg h
                        · exact ⟨by omega, by omega, .inr (by have := hbw.out; omega)⟩)
                      clear c0 c1 c2 c3 c4 c5 c6 c7 c8 e1 e2 own NB9 NB10 own10 hcp hkS hQb NB11 own11 hfr11 hfr10 KK BK LK HKB hpush hOK hA1
                      go_wp2_with fail
                      go_roundw
                      case rel => exact ⟨k + 1, _, by omega, by go_num, by rw [HS.out]; exact NK1, KK1, BK1, LK1, HKB1⟩
                      case measure => simp [intOf]; omega
                  · have hkl : ¬ (k : Int) < 2 := by omega
                    have HE : Hid ([y, g].take k = [y, g]) := hid (List.take_of_length_le (by simp; omega))
                    rw [HE.out] at NK
                    go_wp2_with fail
                    go_ret
                    exact ⟨rfl, _, NK, KK, fun q hq => (HKB.out.2.2 q hq).2.2⟩
      · have HF : Hid (R = (N, er)) := hid (HG.out.trans (if_pos he))
        have e3 : (er != 0) = true := by simpa using he
        obtain rfl := HF.out
        go_wp2
        go_ret
        exact ⟨rfl, _, N2, K2.fr _, fun k hk => .inl hk⟩
end Go.Proofs.Ytmokpnkpfodppaa
