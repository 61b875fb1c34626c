
/-
What the laws' own example of chapter 50 returns: true.
-/
import Derived.Test.YtmokpnkpfodppaaNetE
namespace Go.Proofs.Ytmokpnkpfodppaa
set_option linter.unusedSimpArgs false
set_option linter.unusedVariables false
open Go.RowKit

section
variable {lo nb mb : Nat} {vf sv : Value} {w : World} {N : Net}
theorem NetW.qb_lt (h : NetW lo nb mb vf sv w N) : ∀ i, Qb nb sv i → i < w.heap.size := fun i hi => by
  obtain ⟨Q, own, -⟩ := h.fl
  rcases hi with rfl | hi
  · exact h.lt
  · exact own.blk_lt i hi
theorem NetW.qb_ge (h : NetW lo nb mb vf sv w N) : ∀ i, Qb nb sv i → lo ≤ i := fun i hi => by
  obtain ⟨Q, own, -⟩ := h.fl
  have h1 := h.mlo
  have h2 := h.mlt
  rcases hi with rfl | hi
  · omega
  · have := own.ge i hi
    omega
end
theorem litFates (w : World) (t : TypeId) (l : List Fate) (cs : Array Value) (h : cs.toList = flat encFate l) (hl : l.length ≤ 1000) (n : Nat) (hn : n = l.length) : Fates (w.alloc (.cells cs t)) (.slice (some ⟨w.heap.size, 0, none⟩) n n) l := by
  subst hn
  exact (Own.lit (base := w.heap.size) encFate (e := t) (size := 3) w cs l (Nat.le_refl _) (by omega) (by have h2 := congrArg List.length h; rw [flat_length encFate_len] at h2; simpa using h2) h).sl encFate_len
theorem rdMsg_term {w : World} {cs : List Value} {x : Message} (h : rdMsg w cs x) : cs[12]? = some (.int .i64 x.term) := by
  obtain ⟨v3, v4, v5, v6, v7, e, -⟩ := h
  injection e with e
  have := congrArg (fun a : Array Value => a[12]?) e
  simpa using this
/-- one message: where its term stands -/
theorem del_one {base top : Nat} {w : World} {v : Value} {css : List (Elm 18)} {xs : List Message} {n : Int} (own : Own encC 34 18 base w v css) (em : EmX rdMsg base top w v.ownBlock css xs) (h : xs.map (·.term) = [n]) :
    ∃ g c, v = .slice (some ⟨g, 0, none⟩) 1 c ∧ 1 ≤ c ∧ c ≤ 9223372036854775807 ∧ base ≤ g ∧ g < w.heap.size ∧ w.cell? ⟨g, 12, none⟩ = some (.int .i64 n) := by
  have hl : xs.length = 1 := by have := congrArg List.length h; simpa using this
  have hs := (em.fin own).here
  obtain ⟨g, c, hv, h1, h2, h3, h4⟩ := own.row (by rw [em.1]; omega)
  rw [em.1, hl] at hv h1
  subst hv
  obtain ⟨b, o, cs, hA, hb, hcs, hc, hr⟩ := hs.at_ (k := 0) (by omega)
  injection hA with hA
  injection hA with e1 e2
  subst e1 e2
  have h5 := hc 12 _ (rdMsg_term hr)
  have h6 : xs[0].term = n := by
    cases xs with
    | nil => simp at hl
    | cons x xs => simp at h; exact h.1
  rw [h6] at h5
  exact ⟨g, c, rfl, h1, h2, h3, h4, by simpa using h5⟩
theorem qb_sub {lo nb mb g : Nat} {vf sv sv' : Value} {w : World} {N : Net} (hq : ∀ k, sv'.ownBlock = some k → sv.ownBlock = some k) (h : NetW lo nb mb vf sv w N) (hg : w.heap.size ≤ g) : ¬ Qb nb sv' g := fun hh => by
  have := h.qb_lt g (by rcases hh with h | h; exact .inl h; exact .inr (hq _ h))
  omega
set_option maxRecDepth 8000 in
set_option maxHeartbeats 4000000 in
theorem awake50_any (w : World) : Calls Try.prog 8 #[] w fun e w' => e = .returned (.bool true) ∧ Kp w w' := by
  have kA := (Kp.refl w).alloc (.cells #[.bool false, .int .i64 3, .int .i64 0, .bool false, .int .i64 1, .int .i64 2] 47)
  have hS := litFates w 47 awF #[.bool false, .int .i64 3, .int .i64 0, .bool false, .int .i64 1, .int .i64 2] rfl (by decide) 2 rfl
  have hzA := kA.size
  go_enter Try.func8, Try.ntmps8
  go_wp2_with fail
  generalize w.alloc (.cells #[.bool false, .int .i64 3, .int .i64 0, .bool false, .int .i64 1, .int .i64 2] 47) = wA at *
  refine (nNew_any 2 _ awF wA hS (by decide)).mono ?_
  rintro e w1 ⟨hr, k1⟩
  rcases hr with ⟨hb, -⟩ | ⟨-, nb, mb, vf, rfl, N1⟩
  · rw [aw_new] at hb
    cases hb
  clear hS
  replace k1 := kA.trans k1
  go_wp2_with fail
  refine (nSend_any _ nb mb vf _ _ _ (awM 1) 0 w1 N1 aw_few.1 ⟨_, _, _, _, _, rfl, Sl.nil _ _ _, Sl.nil _ _ _, Sl.nil _ _ _, Sl.nil _ _ _, Sl.nil _ _ _⟩ (by unfold Room; decide +kernel)).mono ?_
  rintro e w2 ⟨rfl, sv2, N2, fr2, -⟩
  rw [aw_s1]
  replace N2 : NetW wA.heap.size nb mb vf sv2 w2 aw1 := N2
  have k2 := fr2.to_kp k1 fun i hi => Nat.le_trans hzA (N1.qb_ge i hi)
  clear N1 fr2 k1
  go_wp2_with fail
  refine (nSend_any _ nb mb vf _ _ _ (awM 2) 0 w2 N2 aw_few.2.1 ⟨_, _, _, _, _, rfl, Sl.nil _ _ _, Sl.nil _ _ _, Sl.nil _ _ _, Sl.nil _ _ _, Sl.nil _ _ _⟩ (by unfold Room; decide +kernel)).mono ?_
  rintro e w3 ⟨rfl, sv3, N3, fr3, -⟩
  rw [aw_s2]
  replace N3 : NetW wA.heap.size nb mb vf sv3 w3 aw2 := N3
  have k3 := fr3.to_kp k2 fun i hi => Nat.le_trans hzA (N2.qb_ge i hi)
  clear N2 fr3 k2
  go_wp2_with fail
  refine (nInFlight_any _ nb mb vf _ _ _ N3).mono ?_
  rintro e w4 ⟨rfl, rfl⟩
  rw [aw_l2]
  obtain ⟨es, clock, hmp, hmo⟩ := N3.mp
  have c0 := N3.box.cell (j := 0) rfl
  have c3 := N3.box.cell (j := 3) rfl
  go_wp2_with fail
  refine (nLinked_any nb mb clock _ _ _ es _ _ c0 c3 hmp hmo).mono ?_
  rintro e w5 ⟨rfl, k5⟩
  rw [aw_k2]
  have N5 := N3.kp k5
  replace k5 := k3.trans k5
  clear c0 c3 hmp hmo N3 k3
  go_wp2_with fail
  refine (nDeliver_any _ nb mb vf _ aw2 1 w5 N5 aw_few.2.2.1).mono ?_
  rintro e w6 ⟨va, rfl, sv6, top6, css6, N6, fr6, hq6, own6, em6⟩
  rw [aw_d1]
  replace N6 : NetW wA.heap.size nb mb vf sv6 w6 aw3 := N6
  obtain ⟨ga, ca, rfl, ha1, ha2, ha3, ha4, ha5⟩ := del_one own6 em6 aw_o1
  have hga := qb_sub hq6 N5 ha3
  have k6 := fr6.to_kp k5 fun i hi => Nat.le_trans hzA (N5.qb_ge i hi)
  clear N5 fr6 k5 own6 em6 hq6
  go_wp2_with fail
  refine (nDeliver_any _ nb mb vf _ aw3 2 w6 N6 aw_few.2.2.2.1).mono ?_
  rintro e w7 ⟨vb, rfl, sv7, top7, css7, N7, fr7, hq7, own7, em7⟩
  rw [aw_d2]
  replace N7 : NetW wA.heap.size nb mb vf sv7 w7 aw4 := N7
  obtain ⟨gb, cb, rfl, hb1, hb2, hb3, hb4, hb5⟩ := del_one own7 em7 aw_o2
  have hgb := qb_sub hq7 N6 hb3
  have ha6 := fr7.cellS ha5 hga
  have hga2 : ¬ Qb nb sv7 ga := fun h => hga (by rcases h with h | h; exact .inl h; exact .inr (hq7 _ h))
  have k7 := fr7.to_kp k6 fun i hi => Nat.le_trans hzA (N6.qb_ge i hi)
  clear N6 fr7 k6 own7 em7 hq7 ha5 hga ha4
  go_wp2_with fail
  refine (nDeliver_any _ nb mb vf _ aw4 3 w7 N7 aw_few.2.2.2.2).mono ?_
  rintro e w8 ⟨vc, rfl, sv8, top8, css8, N8, fr8, hq8, own8, em8⟩
  rw [aw_d3]
  replace N8 : NetW wA.heap.size nb mb vf sv8 w8 aw5 := N8
  obtain ⟨gc, cc, rfl, hc1, hc2, hc3, hc4, hc5⟩ := del_one own8 em8 aw_o3
  have ha7 := fr8.cellS ha6 hga2
  have hb7 := fr8.cellS hb5 hgb
  have k8 := fr8.to_kp k7 fun i hi => Nat.le_trans hzA (N7.qb_ge i hi)
  clear N7 fr8 k7 own8 em8 hq8 ha6 hga2 hb5 hgb hb4
  have hga := block_lt_of_cell ha7
  have hgb := block_lt_of_cell hb7
  go_wp2_with fail
  refine (nInFlight_any _ nb mb vf _ _ _ N8).mono ?_
  rintro e w9 ⟨rfl, rfl⟩
  rw [aw_l5]
  go_wp2_with fail
  go_ret
  exact ⟨rfl, k8⟩
end Go.Proofs.Ytmokpnkpfodppaa
