
/-
The example of the chapter: the walk.
-/
import Derived.Test.YtcddllaljgfjbaaRcA
namespace Go.Proofs.Ytcddllaljgfjbaa
set_option linter.unusedSimpArgs false
set_option linter.unusedVariables false
open Go.RowKit

def ev1 : Ev := ⟨0, 1, 1, [0, 0], 0, 0, ((0, 0, 0), 0), 0, 0, 1⟩
def ev2 : Ev := ⟨0, 2, 2, [1, 0], 0, 0, ((0, 0, 0), 0), 0, 0, 2⟩
theorem ex_add2 : addE ([0, 0], []) ev2 = (([0, 0], [ev2]), [], 0) := by rfl
theorem ex_miss : missE ([0, 0], [ev2]) = [(0, 1, 1)] := by rfl
theorem ex_add1 : addE ([0, 0], [ev2]) ev1 = (([2, 0], []), [ev1, ev2], 0) := by rfl
theorem ex_valid : validC [0, 0] = true := by rfl
theorem esl_evs {w : World} {v : Value} {xs : List EvS} (h : EsL w v xs) (hp : ∀ x ∈ xs, Ints w x.v x.e.past) : Evs w v (xs.map (·.e)) := by
  obtain ⟨A, c, rfl, h1, h2, h3⟩ := h
  refine ⟨A, c, by simp, by simpa using h1, h2, fun k hk => ?_⟩
  have hk' : k < xs.length := by simpa using hk
  obtain ⟨b, o, cs, hA, had, hcs, hc, hr⟩ := h3 k hk'
  refine ⟨b, o, cs, hA, had, hcs, hc, xs[k].v, ?_, ?_⟩
  · unfold Pl at hr
    rw [hr, List.getElem_map]
    rfl
  · rw [List.getElem_map]
    exact hp _ (List.getElem_mem hk')
theorem EsR.evs {base : Nat} {w : World} {v : Value} {ys : List EvS} (h : EsR base w v ys) : Evs w v (ys.map (·.e)) := esl_evs (h.own.sl encEs_len) fun x hx => (h.pst x hx).1.sl encInt_len
theorem EsR.len {base : Nat} {w : World} {v : Value} {ys : List EvS} {l : List Ev} (h : EsR base w v ys) (hl : ys.map (·.e) = l) : ∃ A c, v = .slice A l.length c ∧ Evs w v l := by
  obtain ⟨A, c, rfl, -, -⟩ := h.own.form
  have h1 := h.evs
  rw [hl] at h1
  exact ⟨A, c, by rw [← hl, List.length_map], h1⟩
theorem okv2 : BfOk [0, 0] [] := ⟨by rfl, List.Pairwise.nil, by unfold NamesU; simp, by simp, by simp⟩
theorem okv3 : BfOk [0, 0] [ev2] := okv2.insert (e := ev2) (by rfl) rfl (by simp) (by simp)
theorem okv4 : BfOk [2, 0] [] := ⟨by rfl, List.Pairwise.nil, by unfold NamesU; simp, by simp, by simp⟩
set_option maxRecDepth 8000 in
set_option maxHeartbeats 4000000 in
theorem awake33_any (w : World) : Calls Try.prog 9 #[] w fun x w' => x = .returned (.bool true) ∧ Kp w w' := by
  have hI := (Own.lit (base := w.heap.size) encInt (e := 3) (size := 1) w #[.int .i64 0, .int .i64 0] [0, 0] (Nat.le_refl _) (by simp) rfl rfl).sl encInt_len
  have k0 := (Kp.refl w).alloc (.cells #[.int .i64 0, .int .i64 0] 3)
  have C1 := hid (bNew_any [0, 0] _ _ hI)
  go_enter Try.func9, Try.ntmps9
  go_wp2_with fail
  refine C1.out.mono ?_
  rintro z w1 ⟨k1, ⟨hv, rfl⟩ | ⟨hv, b, cb, cc, mb, rfl, hb⟩⟩
  · rw [ex_valid] at hv; cases hv
  have kw := k0.trans k1
  have hge : w.heap.size ≤ (w.alloc (.cells #[.int .i64 0, .int .i64 0] 3)).heap.size := k0.size
  have hlc := hb.lb
  have hlm := hb.lm
  have hlcb := hb.clk.ge cb rfl
  clear hI k0 k1 C1 hv
  generalize (w.alloc (.cells #[.int .i64 0, .int .i64 0] 3)).heap.size = base at *
  obtain ⟨x, hx⟩ : ∃ x, w1.heap.size = x := ⟨_, rfl⟩
  have hbl := hb.blt
  have hcl := hb.clt
  have hml := hb.mlt
  rw [hx] at hbl hcl hml
  have y1 := Own.lit (base := x) encInt (e := 3) (size := 1) w1 #[.int .i64 0, .int .i64 0] [0, 0] (Nat.le_of_eq hx.symm) (by simp) rfl rfl
  have kA := (Kp.refl w1).alloc (.cells #[.int .i64 0, .int .i64 0] 3)
  have zA : (w1.alloc (.cells #[.int .i64 0, .int .i64 0] 3)).heap.size = x + 1 := by rw [World.size_alloc, hx]
  have y2 := Own.lit (base := x) encInt (e := 3) (size := 1) (w1.alloc (.cells #[.int .i64 0, .int .i64 0] 3)) #[.int .i64 1, .int .i64 0] [1, 0] (by omega) (by simp) rfl rfl
  rw [hx] at y1
  rw [zA] at y2
  go_wp2_with fail
  generalize w1.alloc (.cells #[.int .i64 0, .int .i64 0] 3) = wA at *
  have kB := (Kp.refl wA).alloc (.cells #[.int .i64 1, .int .i64 0] 3)
  have zB : (wA.alloc (.cells #[.int .i64 1, .int .i64 0] 3)).heap.size = x + 2 := by rw [World.size_alloc, zA]
  have y1B := y1.kp kB
  generalize wA.alloc (.cells #[.int .i64 1, .int .i64 0] 3) = wB at *
  have kC := (Kp.refl wB).alloc (.cells #[.int .i64 0, .int .i64 1, .int .i64 1, .slice (some ⟨x, 0, none⟩) 2 2, .int .i64 0, .int .i64 0, .int .i64 0, .int .i64 0, .int .i64 0, .int .i64 0, .int .i64 0, .int .i64 0, .int .i64 1] 33)
  have bC := Bx.new wB #[.int .i64 0, .int .i64 1, .int .i64 1, .slice (some ⟨x, 0, none⟩) 2 2, .int .i64 0, .int .i64 0, .int .i64 0, .int .i64 0, .int .i64 0, .int .i64 0, .int .i64 0, .int .i64 0, .int .i64 1] 33
  have zC : (wB.alloc (.cells #[.int .i64 0, .int .i64 1, .int .i64 1, .slice (some ⟨x, 0, none⟩) 2 2, .int .i64 0, .int .i64 0, .int .i64 0, .int .i64 0, .int .i64 0, .int .i64 0, .int .i64 0, .int .i64 0, .int .i64 1] 33)).heap.size = x + 3 := by rw [World.size_alloc, zB]
  rw [zB] at bC
  generalize wB.alloc (.cells #[.int .i64 0, .int .i64 1, .int .i64 1, .slice (some ⟨x, 0, none⟩) 2 2, .int .i64 0, .int .i64 0, .int .i64 0, .int .i64 0, .int .i64 0, .int .i64 0, .int .i64 0, .int .i64 0, .int .i64 1] 33) = wC at *
  have kD := (Kp.refl wC).alloc (.cells #[.int .i64 0, .int .i64 2, .int .i64 2, .slice (some ⟨x + 1, 0, none⟩) 2 2, .int .i64 0, .int .i64 0, .int .i64 0, .int .i64 0, .int .i64 0, .int .i64 0, .int .i64 0, .int .i64 0, .int .i64 2] 33)
  have bD := Bx.new wC #[.int .i64 0, .int .i64 2, .int .i64 2, .slice (some ⟨x + 1, 0, none⟩) 2 2, .int .i64 0, .int .i64 0, .int .i64 0, .int .i64 0, .int .i64 0, .int .i64 0, .int .i64 0, .int .i64 0, .int .i64 2] 33
  have zD : (wC.alloc (.cells #[.int .i64 0, .int .i64 2, .int .i64 2, .slice (some ⟨x + 1, 0, none⟩) 2 2, .int .i64 0, .int .i64 0, .int .i64 0, .int .i64 0, .int .i64 0, .int .i64 0, .int .i64 0, .int .i64 0, .int .i64 2] 33)).heap.size = x + 4 := by rw [World.size_alloc, zC]
  rw [zC] at bD
  have bC2 := bC.kp kD (by omega)
  generalize wC.alloc (.cells #[.int .i64 0, .int .i64 2, .int .i64 2, .slice (some ⟨x + 1, 0, none⟩) 2 2, .int .i64 0, .int .i64 0, .int .i64 0, .int .i64 0, .int .i64 0, .int .i64 0, .int .i64 0, .int .i64 0, .int .i64 2] 33) = w2 at *
  have k12 := ((kA.trans kB).trans kC).trans kD
  have Y1 := (y1B.kp kC).kp kD
  have Y2 := (y2.kp kC).kp kD
  have hb2 := hb.kp k12
  clear kA kB kC kD zA zB zC y1 y2 y1B bC hb
  have hS : ∀ q, q = b ∨ q = cb ∨ q = mb → q < x := by omega
  have C2 := bAdd_any hb2 (fun q hq => by have := hS q hq; omega) (H := []) (List.Perm.refl _) okv2 ev2 (.slice (some ⟨x + 1, 0, none⟩) 2 2) ((Y2.owF (X := fun q => q = b ∨ q = cb ∨ q = mb) hS).imp fun W h => h.sl encInt_len) (by simp [ev2])
  rw [ex_add2] at C2
  refine C2.mono ?_
  rintro z w3 ⟨v3, o3, M3, S3, cb3, cc3, B3, rfl, hb3, hp3, hE3, ho3, fx3, hS3, hz3, hz3'⟩
  obtain ⟨A3, c3, rfl, -⟩ := hE3.len ho3
  have bC3 := bC2.fx fx3 (by omega) (fun h => by have := hS _ h; omega)
  have bD3 := bD.fx fx3 (by omega) (fun h => by have := hS _ h; omega)
  have Y13 := Y1.fx fx3 (fun q hq h => by have := hS _ h; have := Y1.ge q hq; omega)
  have Y23 := Y2.fx fx3 (fun q hq h => by have := hS _ h; have := Y2.ge q hq; omega)
  have k3 : Kp w w3 := by
    refine ((((kw.trans k12).fx _).trans fx3)).kp fun q hq h => ?_
    rcases h with h | h | h <;> omega
  clear C2
  have C3 := hid (bMissing_any hb3 hp3 okv3)
  rw [ex_miss] at C3
  go_wp2_with fail
  refine C3.out.mono ?_
  rintro z w4 ⟨v4, rfl, own4, k4⟩
  clear C3
  obtain ⟨g, c4, rfl, -, -, hg1, hg2⟩ := own4.row (by simp)
  have m0 := own4.cellAt encSn_len rfl (k := 0) (j := 0) (by simp) (by omega)
  have m1 := own4.cellAt encSn_len rfl (k := 0) (j := 1) (by simp) (by omega)
  have m2 := own4.cellAt encSn_len rfl (k := 0) (j := 2) (by simp) (by omega)
  simp [encSn] at m0 m1 m2
  have hb4 := hb3.kp k4
  have C4 := hid (bHeld_any hb4 hp3 okv3)
  clear own4
  go_wp2_with fail
  refine C4.out.mono ?_
  rintro z w5 ⟨v5, o5, rfl, hE5, ho5, k5⟩
  clear C4
  obtain ⟨A5, c5, rfl, -⟩ := hE5.len ho5
  have m0 := k5.cellS m0
  have m1 := k5.cellS m1
  have m2 := k5.cellS m2
  have hg5 := Nat.lt_of_lt_of_le hg2 k5.size
  have k45 := k4.trans k5
  have hb5 := hb4.kp k5
  have bC5 := bC3.kp k45 (by have := fx3.size; omega)
  have bD5 := bD3.kp k45 (by have := fx3.size; omega)
  have Y15 := Y13.kp k45
  have Y25 := Y23.kp k45
  have kw5 := k3.trans k45
  have r1 := bC5.range
  have hx5 : x + 2 < w5.heap.size := bC5.lt (by simp)
  have zx3 := fx3.size
  have zx5 := k45.size
  clear hE5 ho5 o5 hb4 k4 k5
  go_wp2_with (refine wpList_load_mid rfl 33 (.tmp 3) rfl (x + 2) 0 rfl _ _ r1 Try.underlying33 rfl (by kernel_rfl) ?_)
  have hS5 : ∀ q, S3 q → base ≤ q ∧ q < w3.heap.size ∧ q ≠ x ∧ q ≠ x + 1 ∧ q ≠ x + 2 ∧ q ≠ x + 3 := fun q hq => by
    rcases hS3 q hq with h | h
    · have h1 := hS q h
      rcases h with h | h | h <;> omega
    · omega
  have hown : ∀ p q : Nat, (Value.slice (some ⟨p, 0, none⟩) 2 2).ownBlock = some q → p = q := fun p q h => by simpa [Value.ownBlock] using h
  have C5 := bAdd_any hb5 (fun q hq => by have := hS5 q hq; omega) hp3 okv3 ev1 (.slice (some ⟨x, 0, none⟩) 2 2) (fun W k => (Y15.fx k (fun q hq h => by have := hS5 q h; have := hown _ _ hq; omega)).sl encInt_len) (by simp [ev1])
  rw [ex_add1] at C5
  refine C5.mono ?_
  rintro z w6 ⟨v6, o6, M6, S6, cb6, cc6, B6, rfl, hb6, hp6, hE6, ho6, fx6, hS6, hz6, hz6'⟩
  clear C5
  obtain ⟨A6, c6, rfl, hV6⟩ := hE6.len ho6
  have bC6 := bC5.fx fx6 (by omega) (fun h => by have := hS5 _ h; omega)
  have bD6 := bD5.fx fx6 (by omega) (fun h => by have := hS5 _ h; omega)
  have Y16 := Y15.fx fx6 (fun q hq h => by have := hS5 q h; have := hown _ _ hq; omega)
  have Y26 := Y25.fx fx6 (fun q hq h => by have := hS5 q h; have := hown _ _ hq; omega)
  have k6 : Kp w w6 := ((kw5.fx S3).trans fx6).kp fun q hq h => by have := hS5 q h; omega
  have r1 := bC6.range
  have r2 := bD6.range
  have hx6 : x + 2 < w6.heap.size := bC6.lt (by simp)
  have hx6' : x + 3 < w6.heap.size := bD6.lt (by simp)
  clear m0 m1 m2 bC5 bD5 bC3 bD3 Y15 Y25 Y13 Y23 bC2 bD Y1 Y2 hb2 hb3
  have kE := (Kp.refl w6).alloc (.cells #[.int .i64 0, .int .i64 1, .int .i64 1, .slice (some ⟨x, 0, none⟩) 2 2, .int .i64 0, .int .i64 0, .int .i64 0, .int .i64 0, .int .i64 0, .int .i64 0, .int .i64 0, .int .i64 0, .int .i64 1, .int .i64 0, .int .i64 2, .int .i64 2, .slice (some ⟨x + 1, 0, none⟩) 2 2, .int .i64 0, .int .i64 0, .int .i64 0, .int .i64 0, .int .i64 0, .int .i64 0, .int .i64 0, .int .i64 0, .int .i64 2] 33)
  have LE := (Own.lit (base := w6.heap.size) encEs (e := 33) (size := 13) w6 #[.int .i64 0, .int .i64 1, .int .i64 1, .slice (some ⟨x, 0, none⟩) 2 2, .int .i64 0, .int .i64 0, .int .i64 0, .int .i64 0, .int .i64 0, .int .i64 0, .int .i64 0, .int .i64 0, .int .i64 1, .int .i64 0, .int .i64 2, .int .i64 2, .slice (some ⟨x + 1, 0, none⟩) 2 2, .int .i64 0, .int .i64 0, .int .i64 0, .int .i64 0, .int .i64 0, .int .i64 0, .int .i64 0, .int .i64 0, .int .i64 2] [⟨ev1, some ⟨x, 0, none⟩, 2, 2⟩, ⟨ev2, some ⟨x + 1, 0, none⟩, 2, 2⟩] (Nat.le_refl _) (by simp) rfl rfl).sl encEs_len
  have LV := esl_evs LE (fun z hz => by
    simp only [List.mem_cons, List.mem_singleton, List.not_mem_nil, or_false] at hz
    rcases hz with rfl | rfl
    · exact (Y16.kp kE).sl encInt_len
    · exact (Y26.kp kE).sl encInt_len)
  have C6 := hid (rSame_refl [ev1, ev2] _ _ _ (hV6.keep rdEv_stable kE) LV)
  obtain ⟨xc, hxc⟩ : ∃ xc, xc = x + 1 + 1 := ⟨_, rfl⟩
  obtain ⟨xd, hxd⟩ : ∃ xd, xd = xc + 1 := ⟨_, rfl⟩
  rw [← hxc, ← hxd]
  rw [show x + 2 = xc by omega] at bC6 hx6
  rw [show x + 3 = xd by omega] at bD6 hx6'
  replace hxc := hid hxc
  replace hxd := hid hxd
  have p0 := (bC6).cell (j := 0) rfl
  have p1 := (bC6).cell (j := 1) rfl
  have p2 := (bC6).cell (j := 2) rfl
  have p3 := (bC6).cell (j := 3) rfl
  have p4 := (bC6).cell (j := 4) rfl
  have p5 := (bC6).cell (j := 5) rfl
  have p6 := (bC6).cell (j := 6) rfl
  have p7 := (bC6).cell (j := 7) rfl
  have p8 := (bC6).cell (j := 8) rfl
  have p9 := (bC6).cell (j := 9) rfl
  have p10 := (bC6).cell (j := 10) rfl
  have p11 := (bC6).cell (j := 11) rfl
  have p12 := (bC6).cell (j := 12) rfl
  have q0 := (bD6).cell (j := 0) rfl
  have q1 := (bD6).cell (j := 1) rfl
  have q2 := (bD6).cell (j := 2) rfl
  have q3 := (bD6).cell (j := 3) rfl
  have q4 := (bD6).cell (j := 4) rfl
  have q5 := (bD6).cell (j := 5) rfl
  have q6 := (bD6).cell (j := 6) rfl
  have q7 := (bD6).cell (j := 7) rfl
  have q8 := (bD6).cell (j := 8) rfl
  have q9 := (bD6).cell (j := 9) rfl
  have q10 := (bD6).cell (j := 10) rfl
  have q11 := (bD6).cell (j := 11) rfl
  have q12 := (bD6).cell (j := 12) rfl
  go_wp2_with fail
  refine C6.out.mono ?_
  rintro z w7 ⟨rfl, k7⟩
  have hb7 := (hb6.kp kE).kp k7
  have C7 := hid (bHeld_any hb7 hp6 okv4)
  have kw7 := (k6.trans kE).trans k7
  clear LE LV C6 kE k7 bC6 bD6 r1 r2 Y16 Y26
  go_wp2_with fail
  refine C7.out.mono ?_
  rintro z w8 ⟨v8, o8, rfl, hE8, ho8, k8⟩
  obtain ⟨A8, c8, rfl, -⟩ := hE8.len ho8
  have hb8 := hb7.kp k8
  have C8 := hid (bClock_any hb8 (by simp))
  have kw8 := kw7.trans k8
  clear C7 hE8 ho8
  go_wp2_with fail
  refine C8.out.mono ?_
  rintro z w9 ⟨v9, rfl, own9, k9⟩
  have k10 := (Kp.refl w9).alloc (.cells #[.int .i64 2, .int .i64 0] 3)
  have LI := (Own.lit (base := w9.heap.size) encInt (e := 3) (size := 1) w9 #[.int .i64 2, .int .i64 0] [2, 0] (Nat.le_refl _) (by simp) rfl rfl).sl encInt_len
  have C9 := hid (EqualI_any _ _ [2, 0] [2, 0] _ ((own9.kp k10).sl encInt_len) LI)
  have kw10 := (kw8.trans k9).trans k10
  clear own9 LI C8
  go_wp2_with fail
  refine C9.out.mono ?_
  rintro z w11 ⟨rfl, k11⟩
  go_wp2
  go_ret
  exact ⟨by simp, kw10.trans k11⟩
end Go.Proofs.Ytcddllaljgfjbaa
