
/-
No proper prefix of an encoding, nor an encoding with further bytes behind it, is one: the walk.
-/
import Derived.Test.YtmeafoakbkjifaaPrefix1
namespace Go.Proofs.Ytmeafoakbkjifaa
set_option linter.unusedSimpArgs false
set_option linter.unusedVariables false
open Go.RowKit

theorem ba_take (bs : List UInt8) (k : Nat) : (⟨bs.toArray⟩ : ByteArray).extract 0 k = ⟨(bs.take k).toArray⟩ := by
  apply ByteArray.ext
  simp [ByteArray.data_extract]
theorem ba_append (a b : List UInt8) : (⟨a.toArray⟩ : ByteArray) ++ ⟨b.toArray⟩ = ⟨(a ++ b).toArray⟩ := by
  apply ByteArray.ext
  simp [ByteArray.data_append]
theorem ba_ne {mo : List UInt8} (h : mo ≠ []) : (mo == []) = false ∧ mo.isEmpty = false ∧ decide (mo = []) = false := by
  cases mo with
  | nil => exact absurd rfl h
  | cons a l => exact ⟨by simp, rfl, decide_eq_false h⟩
theorem ba_size (bs : List UInt8) : (⟨bs.toArray⟩ : ByteArray).size = bs.length := by simp [ByteArray.size]
set_option maxRecDepth 100000 in
set_option maxHeartbeats 16000000 in
theorem prefix_walk (va vb vc : Value) (x : Event) (y : Record) (z : Message) (c : Int) (mo : List UInt8) (w : World) (hx : EventV w va x) (hy : RecordV w vb y) (hz : MessageV w vc z) (lx : (numEvent x).length ≤ 1000000000) (sy : ShortR y) (lz : (numMessage z).length ≤ 1000000000) (hc0 : 0 ≤ c) (hc1 : c ≤ 65535) :
    Calls Try.prog 9 #[va, vb, vc, .int .u16 c, strV mo] w fun e w' => e = .returned (.bool true) ∧ Kp w w' := by
  have hpx : x.past.length ≤ 1000000000 := by
    have h1 := numIs_len x.past
    simp only [numEvent, List.length_append, List.length_cons, List.length_nil] at lx
    omega
  have hpy := sy.past
  have hvy := sy.voters
  obtain ⟨ca, rfl, hca⟩ := hx.cells
  obtain ⟨cb, aE, aB, aN, rfl, hcb, la, lb, lc, vy1, vy2, vy3⟩ := hy.parts
  obtain ⟨cc, rfl, hcc⟩ := hz.cells
  replace hcb := hid hcb
  have kk := (((Kp.refl w).alloc (.cells ca.toArray 37)).alloc (.cells cb.toArray 46)).alloc (.cells cc.toArray 78)
  have r0 := (((Kp.refl _).alloc (.cells cb.toArray 46)).alloc (.cells cc.toArray 78)).range (range_box w ca 37)
  have q0 := ((Kp.refl _).alloc (.cells cc.toArray 78)).range (range_box (w.alloc (.cells ca.toArray 37)) cb 46)
  have m0 := range_box ((w.alloc (.cells ca.toArray 37)).alloc (.cells cb.toArray 46)) cc 78
  rw [World.size_alloc] at q0
  rw [World.size_alloc, World.size_alloc] at m0
  have hia : (Try.prog.info? 37).map (·.size) = some ca.length := by rw [hca]; kernel_rfl
  have iE := info_len (t := 37) la (by kernel_rfl)
  have iB := info_len (t := 42) lb (by kernel_rfl)
  have iN := info_len (t := 44) lc (by kernel_rfl)
  have iR : (Try.prog.info? 46).map (·.size) = some cb.length := by rw [hcb.out]; simp only [List.length_cons, List.length_append, la, lb, lc]; kernel_rfl
  have iM : (Try.prog.info? 78).map (·.size) = some cc.length := by rw [hcc]; kernel_rfl
  have hx0 := hx.kp kk
  have hy0 := hy.kp kk
  have hz0 := hz.kp kk
  have xa1 := vy1.kp kk
  have xa2 := vy2.kp kk
  have xa3 := vy3.kp kk
  clear hx hy hz vy1 vy2 vy3
  have HC := hid (show c.tmod 1 = 0 by simp)
  clear HC
  go_enter Try.func9, Try.ntmps9
  go_wp2_with fail
  generalize ((w.alloc (.cells ca.toArray 37)).alloc (.cells cb.toArray 46)).alloc (.cells cc.toArray 78) = w0 at *
  try simp only [World.size_alloc] at *
  generalize w.heap.size + 1 + 1 = bz at *
  generalize w.heap.size + 1 = bb at *
  generalize w.heap.size = b at *
  have hp := q0
  rw [hcb.out] at hp
  replace hp := hid (box_parts la lb hp)
  refine (awake_any _).mono ?_
  rintro e w1 ⟨rfl, k1⟩
  go_wp2_with fail
  have hS : ∀ W, Kp w0 W → (W.rangeAt b 0 ca ∧ W.rangeAt bb 1 aE ∧ W.rangeAt bb 14 aB ∧ W.rangeAt bb 24 aN ∧ W.rangeAt bz 0 cc ∧ Kp w0 W) := fun W hk => ⟨hk.range r0, hk.range hp.out.2.2.2.2.1, hk.range hp.out.2.2.2.2.2.1, hk.range hp.out.2.2.2.2.2.2, hk.range m0, hk⟩
  refine wp_region_held_drew (S := fun W => W.rangeAt b 0 ca ∧ W.rangeAt bb 1 aE ∧ W.rangeAt bb 14 aB ∧ W.rangeAt bb 24 aN ∧ W.rangeAt bz 0 cc ∧ Kp w0 W) (by kernel_rfl) (hS _ k1.drew) (fun hHeld => ?_)
  have hle := lx
  refine take_at 0 31 (v := _) rfl rfl (by kernel_rfl) (by kernel_rfl) (by kernel_rfl) (fun _ _ _ h => h) hHeld (yieldsIf_load_mid (by kernel_rfl) 37 _ rfl _ 0 rfl ca _ (fun _ h => h.1) Try.underlying37 rfl (by assumption)) ?_
  simp only [Act.put, List.setIfInBounds_toArray, List.set_cons_zero, List.set_cons_succ]
  refine wpAnyH_ready (rs := [1]) (by kernel_rfl) (by simp) ?_
  refine AllReadyH.cons (o := _) rfl (fun K hK => ?_) AllReadyH.nil
  go_simp
  refine (nEvent_any _ x _ (hx0.kp hHeld.2.2.2.2.2) hpx).mono ?_
  rintro e wq1 ⟨vq1, rfl, own1, h1⟩
  obtain ⟨D1, z1, rfl, zz1, zf1⟩ := own1.form
  refine hK.out _ _ (hS _ (hHeld.2.2.2.2.2.trans h1)) (fun hHeld2 => ?_)
  clear hK K hHeld
  have hHeld := hHeld2
  clear hHeld2
  clear own1 h1
  refine take_at 2 33 (v := ?_) rfl rfl (by kernel_rfl) (by kernel_rfl) (by kernel_rfl) (fun _ _ _ h => h) hHeld (Or.inl ⟨by kernel_rfl, ?_⟩) ?_
  rotate_left
  · intro w hSw; (try dsimp only at hSw); go_simp; try with_reducible rfl
  simp only [Act.put, List.setIfInBounds_toArray, List.set_cons_zero, List.set_cons_succ]
  by_cases hA : 200 < (numEvent x).length
  · have eA : decide ((200 : Int) < ((numEvent x).length : Int)) = true := decide_eq_true (by omega)
    refine take_at 3 34 (v := ?_) rfl rfl (by kernel_rfl) (by kernel_rfl) (by kernel_rfl) (fun _ _ _ h => h) hHeld (Or.inl ⟨by kernel_rfl, ?_⟩) ?_
    rotate_left
    · intro w hSw; (try dsimp only at hSw); go_simp; try with_reducible rfl
    simp only [Act.put, List.setIfInBounds_toArray, List.set_cons_zero, List.set_cons_succ]
    refine take_at 4 35 (v := ?_) rfl rfl (by kernel_rfl) (by kernel_rfl) (by kernel_rfl) (fun _ _ _ h => h) hHeld (Or.inl ⟨by kernel_rfl, ?_⟩) ?_
    rotate_left
    · intro w hSw; (try dsimp only at hSw); go_simp; try with_reducible rfl
    simp only [Act.put, List.setIfInBounds_toArray, List.set_cons_zero, List.set_cons_succ]
    refine take_at 5 36 (v := undef) rfl rfl (by kernel_rfl) (by kernel_rfl) (by kernel_rfl) (fun _ _ _ h => h) hHeld (Or.inr ⟨by kernel_rfl, rfl⟩) ?_
    simp only [Act.put, List.setIfInBounds_toArray, List.set_cons_zero, List.set_cons_succ]
    refine take_at 6 37 (v := undef) rfl rfl (by kernel_rfl) (by kernel_rfl) (by kernel_rfl) (fun _ _ _ h => h) hHeld (Or.inr ⟨by kernel_rfl, rfl⟩) ?_
    simp only [Act.put, List.setIfInBounds_toArray, List.set_cons_zero, List.set_cons_succ]
    refine take_at 7 38 (v := undef) rfl rfl (by kernel_rfl) (by kernel_rfl) (by kernel_rfl) (fun _ _ _ h => h) hHeld (Or.inr ⟨by kernel_rfl, rfl⟩) ?_
    simp only [Act.put, List.setIfInBounds_toArray, List.set_cons_zero, List.set_cons_succ]
    refine take_at 8 39 (v := undef) rfl rfl (by kernel_rfl) (by kernel_rfl) (by kernel_rfl) (fun _ _ _ h => h) hHeld (Or.inr ⟨by kernel_rfl, rfl⟩) ?_
    simp only [Act.put, List.setIfInBounds_toArray, List.set_cons_zero, List.set_cons_succ]
    refine take_at 9 40 (v := undef) rfl rfl (by kernel_rfl) (by kernel_rfl) (by kernel_rfl) (fun _ _ _ h => h) hHeld (Or.inr ⟨by kernel_rfl, rfl⟩) ?_
    simp only [Act.put, List.setIfInBounds_toArray, List.set_cons_zero, List.set_cons_succ]
    refine take_at 10 41 (v := undef) rfl rfl (by kernel_rfl) (by kernel_rfl) (by kernel_rfl) (fun _ _ _ h => h) hHeld (Or.inr ⟨by kernel_rfl, rfl⟩) ?_
    simp only [Act.put, List.setIfInBounds_toArray, List.set_cons_zero, List.set_cons_succ]
    refine take_at 11 42 (v := undef) rfl rfl (by kernel_rfl) (by kernel_rfl) (by kernel_rfl) (fun _ _ _ h => h) hHeld (Or.inr ⟨by kernel_rfl, rfl⟩) ?_
    simp only [Act.put, List.setIfInBounds_toArray, List.set_cons_zero, List.set_cons_succ]
    refine take_at 12 43 (v := undef) rfl rfl (by kernel_rfl) (by kernel_rfl) (by kernel_rfl) (fun _ _ _ h => h) hHeld (Or.inr ⟨by kernel_rfl, rfl⟩) ?_
    simp only [Act.put, List.setIfInBounds_toArray, List.set_cons_zero, List.set_cons_succ]
    refine take_at 13 44 (v := undef) rfl rfl (by kernel_rfl) (by kernel_rfl) (by kernel_rfl) (fun _ _ _ h => h) hHeld (Or.inr ⟨by kernel_rfl, rfl⟩) ?_
    simp only [Act.put, List.setIfInBounds_toArray, List.set_cons_zero, List.set_cons_succ]
    refine take_at 14 45 (v := undef) rfl rfl (by kernel_rfl) (by kernel_rfl) (by kernel_rfl) (fun _ _ _ h => h) hHeld (Or.inr ⟨by kernel_rfl, rfl⟩) ?_
    simp only [Act.put, List.setIfInBounds_toArray, List.set_cons_zero, List.set_cons_succ]
    refine take_at 15 46 (v := undef) rfl rfl (by kernel_rfl) (by kernel_rfl) (by kernel_rfl) (fun _ _ _ h => h) hHeld (Or.inr ⟨by kernel_rfl, rfl⟩) ?_
    simp only [Act.put, List.setIfInBounds_toArray, List.set_cons_zero, List.set_cons_succ]
    refine take_at 16 47 (v := undef) rfl rfl (by kernel_rfl) (by kernel_rfl) (by kernel_rfl) (fun _ _ _ h => h) hHeld (Or.inr ⟨by kernel_rfl, rfl⟩) ?_
    simp only [Act.put, List.setIfInBounds_toArray, List.set_cons_zero, List.set_cons_succ]
    refine take_at 17 48 (v := undef) rfl rfl (by kernel_rfl) (by kernel_rfl) (by kernel_rfl) (fun _ _ _ h => h) hHeld (Or.inr ⟨by kernel_rfl, rfl⟩) ?_
    simp only [Act.put, List.setIfInBounds_toArray, List.set_cons_zero, List.set_cons_succ]
    refine take_at 18 49 (v := undef) rfl rfl (by kernel_rfl) (by kernel_rfl) (by kernel_rfl) (fun _ _ _ h => h) hHeld (Or.inr ⟨by kernel_rfl, rfl⟩) ?_
    simp only [Act.put, List.setIfInBounds_toArray, List.set_cons_zero, List.set_cons_succ]
    refine take_at 19 50 (v := undef) rfl rfl (by kernel_rfl) (by kernel_rfl) (by kernel_rfl) (fun _ _ _ h => h) hHeld (Or.inr ⟨by kernel_rfl, rfl⟩) ?_
    simp only [Act.put, List.setIfInBounds_toArray, List.set_cons_zero, List.set_cons_succ]
    refine take_at 20 51 (v := ?_) rfl rfl (by kernel_rfl) (by kernel_rfl) (by kernel_rfl) (fun _ _ _ h => h) hHeld (Or.inl ⟨by kernel_rfl, ?_⟩) ?_
    rotate_left
    · intro w hSw; (try dsimp only at hSw); go_simp; try with_reducible rfl
    simp only [Act.put, List.setIfInBounds_toArray, List.set_cons_zero, List.set_cons_succ]
    refine take_at 21 52 (v := ?_) rfl rfl (by kernel_rfl) (by kernel_rfl) (by kernel_rfl) (fun _ _ _ h => h) hHeld (Or.inl ⟨by kernel_rfl, ?_⟩) ?_
    rotate_left
    · intro w hSw; (try dsimp only at hSw); go_simp; try with_reducible rfl
    simp only [Act.put, List.setIfInBounds_toArray, List.set_cons_zero, List.set_cons_succ]
    refine take_at 22 53 (v := undef) rfl rfl (by kernel_rfl) (by kernel_rfl) (by kernel_rfl) (fun _ _ _ h => h) hHeld (Or.inr ⟨by kernel_rfl, rfl⟩) ?_
    simp only [Act.put, List.setIfInBounds_toArray, List.set_cons_zero, List.set_cons_succ]
    refine take_at 23 54 (v := undef) rfl rfl (by kernel_rfl) (by kernel_rfl) (by kernel_rfl) (fun _ _ _ h => h) hHeld (Or.inr ⟨by kernel_rfl, rfl⟩) ?_
    simp only [Act.put, List.setIfInBounds_toArray, List.set_cons_zero, List.set_cons_succ]
    refine take_at 24 55 (v := undef) rfl rfl (by kernel_rfl) (by kernel_rfl) (by kernel_rfl) (fun _ _ _ h => h) hHeld (Or.inr ⟨by kernel_rfl, rfl⟩) ?_
    simp only [Act.put, List.setIfInBounds_toArray, List.set_cons_zero, List.set_cons_succ]
    refine take_at 25 56 (v := undef) rfl rfl (by kernel_rfl) (by kernel_rfl) (by kernel_rfl) (fun _ _ _ h => h) hHeld (Or.inr ⟨by kernel_rfl, rfl⟩) ?_
    simp only [Act.put, List.setIfInBounds_toArray, List.set_cons_zero, List.set_cons_succ]
    refine take_at 26 57 (v := ?_) rfl rfl (by kernel_rfl) (by kernel_rfl) (by kernel_rfl) (fun _ _ _ h => h) hHeld (Or.inl ⟨by kernel_rfl, ?_⟩) ?_
    rotate_left
    · intro w hSw; (try dsimp only at hSw); go_simp; try with_reducible rfl
    simp only [Act.put, List.setIfInBounds_toArray, List.set_cons_zero, List.set_cons_succ]
    refine take_at 27 58 (v := ?_) rfl rfl (by kernel_rfl) (by kernel_rfl) (by kernel_rfl) (fun _ _ _ h => h) hHeld (Or.inl ⟨by kernel_rfl, ?_⟩) ?_
    rotate_left
    · intro w hSw; (try dsimp only at hSw); go_simp; try with_reducible rfl
    simp only [Act.put, List.setIfInBounds_toArray, List.set_cons_zero, List.set_cons_succ]
    refine take_at 28 59 (v := undef) rfl rfl (by kernel_rfl) (by kernel_rfl) (by kernel_rfl) (fun _ _ _ h => h) hHeld (Or.inr ⟨by kernel_rfl, rfl⟩) ?_
    simp only [Act.put, List.setIfInBounds_toArray, List.set_cons_zero, List.set_cons_succ]
    refine take_at 29 60 (v := undef) rfl rfl (by kernel_rfl) (by kernel_rfl) (by kernel_rfl) (fun _ _ _ h => h) hHeld (Or.inr ⟨by kernel_rfl, rfl⟩) ?_
    simp only [Act.put, List.setIfInBounds_toArray, List.set_cons_zero, List.set_cons_succ]
    refine take_at 30 61 (v := undef) rfl rfl (by kernel_rfl) (by kernel_rfl) (by kernel_rfl) (fun _ _ _ h => h) hHeld (Or.inr ⟨by kernel_rfl, rfl⟩) ?_
    simp only [Act.put, List.setIfInBounds_toArray, List.set_cons_zero, List.set_cons_succ]
    refine take_at 31 62 (v := ?_) rfl rfl (by kernel_rfl) (by kernel_rfl) (by kernel_rfl) (fun _ _ _ h => h) hHeld (Or.inl ⟨by kernel_rfl, ?_⟩) ?_
    rotate_left
    · intro w hSw; (try dsimp only at hSw); go_simp; try with_reducible rfl
    simp only [Act.put, List.setIfInBounds_toArray, List.set_cons_zero, List.set_cons_succ]
    refine wpAnyH_done (by kernel_rfl) ?_ _
    have k9 := kk.trans hHeld.2.2.2.2.2
    go_wp2
    go_ret
    exact ⟨rfl, k9⟩
  have eA : decide ((200 : Int) < ((numEvent x).length : Int)) = false := decide_eq_false (by omega)
  refine take_at 3 34 (v := ?_) rfl rfl (by kernel_rfl) (by kernel_rfl) (by kernel_rfl) (fun _ _ _ h => h) hHeld (Or.inl ⟨by kernel_rfl, ?_⟩) ?_
  rotate_left
  · intro w hSw; (try dsimp only at hSw); go_simp; try with_reducible rfl
  simp only [Act.put, List.setIfInBounds_toArray, List.set_cons_zero, List.set_cons_succ]
  refine take_at 4 35 (v := ?_) rfl rfl (by kernel_rfl) (by kernel_rfl) (by kernel_rfl) (fun _ _ _ h => h) hHeld (Or.inl ⟨by kernel_rfl, ?_⟩) ?_
  rotate_left
  · intro w hSw; (try dsimp only at hSw); go_simp; try with_reducible rfl
  simp only [Act.put, List.setIfInBounds_toArray, List.set_cons_zero, List.set_cons_succ]
  refine take_at 5 36 (v := ?_) rfl rfl (by kernel_rfl) (by kernel_rfl) (by kernel_rfl) (fun _ _ _ h => h) hHeld (Or.inl ⟨by kernel_rfl, ?_⟩) ?_
  rotate_left
  · intro w hSw; (try dsimp only at hSw); go_simp; try with_reducible rfl
  simp only [Act.put, List.setIfInBounds_toArray, List.set_cons_zero, List.set_cons_succ]
  refine take_at 6 37 (v := _) rfl rfl (by kernel_rfl) (by kernel_rfl) (by kernel_rfl) (fun _ _ _ h => h) hHeld (yieldsIf_load_mid (by kernel_rfl) 37 _ rfl _ 1 rfl aE _ (fun _ h => h.2.1) Try.underlying37 rfl (by assumption)) ?_
  simp only [Act.put, List.setIfInBounds_toArray, List.set_cons_zero, List.set_cons_succ]
  refine take_at 9 40 (v := ?_) rfl rfl (by kernel_rfl) (by kernel_rfl) (by kernel_rfl) (fun _ _ _ h => h) hHeld (Or.inl ⟨by kernel_rfl, ?_⟩) ?_
  rotate_left
  · intro w hSw; (try dsimp only at hSw); go_simp; try with_reducible rfl
  simp only [Act.put, List.setIfInBounds_toArray, List.set_cons_zero, List.set_cons_succ]
  refine take_at 10 41 (v := _) rfl rfl (by kernel_rfl) (by kernel_rfl) (by kernel_rfl) (fun _ _ _ h => h) hHeld (yieldsIf_load_mid (by kernel_rfl) 42 _ rfl _ 14 rfl aB _ (fun _ h => h.2.2.1) Try.underlying42 rfl (by assumption)) ?_
  simp only [Act.put, List.setIfInBounds_toArray, List.set_cons_zero, List.set_cons_succ]
  refine take_at 14 45 (v := ?_) rfl rfl (by kernel_rfl) (by kernel_rfl) (by kernel_rfl) (fun _ _ _ h => h) hHeld (Or.inl ⟨by kernel_rfl, ?_⟩) ?_
  rotate_left
  · intro w hSw; (try dsimp only at hSw); go_simp; try with_reducible rfl
  simp only [Act.put, List.setIfInBounds_toArray, List.set_cons_zero, List.set_cons_succ]
  refine take_at 15 46 (v := _) rfl rfl (by kernel_rfl) (by kernel_rfl) (by kernel_rfl) (fun _ _ _ h => h) hHeld (yieldsIf_load_mid (by kernel_rfl) 44 _ rfl _ 24 rfl aN _ (fun _ h => h.2.2.2.1) Try.underlying44 rfl (by assumption)) ?_
  simp only [Act.put, List.setIfInBounds_toArray, List.set_cons_zero, List.set_cons_succ]
  refine wpAnyH_ready (rs := [7]) (by kernel_rfl) (by simp) ?_
  refine AllReadyH.cons (o := _) rfl (fun K hK => ?_) AllReadyH.nil
  go_simp
  refine (nEvent_any _ y.event _ (xa1.kp hHeld.2.2.2.2.2) hpy).mono ?_
  rintro e wq2 ⟨vq2, rfl, own2, h2⟩
  obtain ⟨D2, z2, rfl, zz2, zf2⟩ := own2.form
  refine hK.out _ _ (hS _ (hHeld.2.2.2.2.2.trans h2)) (fun hHeld2 => ?_)
  clear hK K hHeld
  have hHeld := hHeld2
  clear hHeld2
  clear own2 h2
  refine take_at 8 39 (v := ?_) rfl rfl (by kernel_rfl) (by kernel_rfl) (by kernel_rfl) (fun _ _ _ h => h) hHeld (Or.inl ⟨by kernel_rfl, ?_⟩) ?_
  rotate_left
  · intro w hSw; (try dsimp only at hSw); go_simp; try with_reducible rfl
  simp only [Act.put, List.setIfInBounds_toArray, List.set_cons_zero, List.set_cons_succ]
  refine wpAnyH_ready (rs := [11]) (by kernel_rfl) (by simp) ?_
  refine AllReadyH.cons (o := _) rfl (fun K hK => ?_) AllReadyH.nil
  go_simp
  refine (nBase_any _ y.base _ (xa2.kp hHeld.2.2.2.2.2) sy.2.1).mono ?_
  rintro e wq3 ⟨vq3, rfl, own3, h3⟩
  obtain ⟨D3, z3, rfl, zz3, zf3⟩ := own3.form
  refine hK.out _ _ (hS _ (hHeld.2.2.2.2.2.trans h3)) (fun hHeld2 => ?_)
  clear hK K hHeld
  have hHeld := hHeld2
  clear hHeld2
  clear own3 h3
  refine take_at 12 43 (v := ?_) rfl rfl (by kernel_rfl) (by kernel_rfl) (by kernel_rfl) (fun _ _ _ h => h) hHeld (Or.inl ⟨by kernel_rfl, ?_⟩) ?_
  rotate_left
  · intro w hSw; (try dsimp only at hSw); go_simp; try with_reducible rfl
  simp only [Act.put, List.setIfInBounds_toArray, List.set_cons_zero, List.set_cons_succ]
  have hs1 := sy.1
  have hs2 := sy.2.1
  have hs3 := sy.2.2
  have eS1 : IntKind.i64.wrap (((numEvent y.event).length : Int) + ((numBase y.base).length : Int)) = ((numEvent y.event).length : Int) + ((numBase y.base).length : Int) := IntWalk.i64_in _ (by omega)
  have eS2 : IntKind.i64.wrap (((numEvent y.event).length : Int) + ((numBase y.base).length : Int) + ((numEntry y.entry).length : Int)) = ((numEvent y.event).length : Int) + ((numBase y.base).length : Int) + ((numEntry y.entry).length : Int) := IntWalk.i64_in _ (by omega)
  refine take_at 13 44 (v := .int .i64 (((numEvent y.event).length : Int) + ((numBase y.base).length : Int))) rfl rfl (by kernel_rfl) (by kernel_rfl) (by kernel_rfl) (fun _ _ _ h => h) hHeld (Or.inl ⟨by kernel_rfl, ?_⟩) ?_
  · intro w hSw; (try dsimp only at hSw); go_simp; try rfl
  simp only [Act.put, List.setIfInBounds_toArray, List.set_cons_zero, List.set_cons_succ]
  refine wpAnyH_ready (rs := [16]) (by kernel_rfl) (by simp) ?_
  refine AllReadyH.cons (o := _) rfl (fun K hK => ?_) AllReadyH.nil
  go_simp
  refine (nEntry_any _ y.entry _ (xa3.kp hHeld.2.2.2.2.2) hvy).mono ?_
  rintro e wq4 ⟨vq4, rfl, own4, h4⟩
  obtain ⟨D4, z4, rfl, zz4, zf4⟩ := own4.form
  refine hK.out _ _ (hS _ (hHeld.2.2.2.2.2.trans h4)) (fun hHeld2 => ?_)
  clear hK K hHeld
  have hHeld := hHeld2
  clear hHeld2
  clear own4 h4
  refine take_at 17 48 (v := ?_) rfl rfl (by kernel_rfl) (by kernel_rfl) (by kernel_rfl) (fun _ _ _ h => h) hHeld (Or.inl ⟨by kernel_rfl, ?_⟩) ?_
  rotate_left
  · intro w hSw; (try dsimp only at hSw); go_simp; try with_reducible rfl
  simp only [Act.put, List.setIfInBounds_toArray, List.set_cons_zero, List.set_cons_succ]
  refine take_at 18 49 (v := .int .i64 (((numEvent y.event).length : Int) + ((numBase y.base).length : Int) + ((numEntry y.entry).length : Int))) rfl rfl (by kernel_rfl) (by kernel_rfl) (by kernel_rfl) (fun _ _ _ h => h) hHeld (Or.inl ⟨by kernel_rfl, ?_⟩) ?_
  · intro w hSw; (try dsimp only at hSw); go_simp; try rfl
  simp only [Act.put, List.setIfInBounds_toArray, List.set_cons_zero, List.set_cons_succ]
  clear eS1 eS2 eA
  by_cases hB : 200 < (numEvent y.event).length + (numBase y.base).length + (numEntry y.entry).length
  · have eA : decide ((200 : Int) < ((numEvent y.event).length : Int) + ((numBase y.base).length : Int) + ((numEntry y.entry).length : Int)) = true := decide_eq_true (by omega)
    refine take_at 19 50 (v := ?_) rfl rfl (by kernel_rfl) (by kernel_rfl) (by kernel_rfl) (fun _ _ _ h => h) hHeld (Or.inl ⟨by kernel_rfl, ?_⟩) ?_
    rotate_left
    · intro w hSw; (try dsimp only at hSw); go_simp; try with_reducible rfl
    simp only [Act.put, List.setIfInBounds_toArray, List.set_cons_zero, List.set_cons_succ]
    refine take_at 20 51 (v := ?_) rfl rfl (by kernel_rfl) (by kernel_rfl) (by kernel_rfl) (fun _ _ _ h => h) hHeld (Or.inl ⟨by kernel_rfl, ?_⟩) ?_
    rotate_left
    · intro w hSw; (try dsimp only at hSw); go_simp; try with_reducible rfl
    simp only [Act.put, List.setIfInBounds_toArray, List.set_cons_zero, List.set_cons_succ]
    refine take_at 21 52 (v := ?_) rfl rfl (by kernel_rfl) (by kernel_rfl) (by kernel_rfl) (fun _ _ _ h => h) hHeld (Or.inl ⟨by kernel_rfl, ?_⟩) ?_
    rotate_left
    · intro w hSw; (try dsimp only at hSw); go_simp; try with_reducible rfl
    simp only [Act.put, List.setIfInBounds_toArray, List.set_cons_zero, List.set_cons_succ]
    refine take_at 22 53 (v := undef) rfl rfl (by kernel_rfl) (by kernel_rfl) (by kernel_rfl) (fun _ _ _ h => h) hHeld (Or.inr ⟨by kernel_rfl, rfl⟩) ?_
    simp only [Act.put, List.setIfInBounds_toArray, List.set_cons_zero, List.set_cons_succ]
    refine take_at 23 54 (v := undef) rfl rfl (by kernel_rfl) (by kernel_rfl) (by kernel_rfl) (fun _ _ _ h => h) hHeld (Or.inr ⟨by kernel_rfl, rfl⟩) ?_
    simp only [Act.put, List.setIfInBounds_toArray, List.set_cons_zero, List.set_cons_succ]
    refine take_at 24 55 (v := undef) rfl rfl (by kernel_rfl) (by kernel_rfl) (by kernel_rfl) (fun _ _ _ h => h) hHeld (Or.inr ⟨by kernel_rfl, rfl⟩) ?_
    simp only [Act.put, List.setIfInBounds_toArray, List.set_cons_zero, List.set_cons_succ]
    refine take_at 25 56 (v := undef) rfl rfl (by kernel_rfl) (by kernel_rfl) (by kernel_rfl) (fun _ _ _ h => h) hHeld (Or.inr ⟨by kernel_rfl, rfl⟩) ?_
    simp only [Act.put, List.setIfInBounds_toArray, List.set_cons_zero, List.set_cons_succ]
    refine take_at 26 57 (v := ?_) rfl rfl (by kernel_rfl) (by kernel_rfl) (by kernel_rfl) (fun _ _ _ h => h) hHeld (Or.inl ⟨by kernel_rfl, ?_⟩) ?_
    rotate_left
    · intro w hSw; (try dsimp only at hSw); go_simp; try with_reducible rfl
    simp only [Act.put, List.setIfInBounds_toArray, List.set_cons_zero, List.set_cons_succ]
    refine take_at 27 58 (v := ?_) rfl rfl (by kernel_rfl) (by kernel_rfl) (by kernel_rfl) (fun _ _ _ h => h) hHeld (Or.inl ⟨by kernel_rfl, ?_⟩) ?_
    rotate_left
    · intro w hSw; (try dsimp only at hSw); go_simp; try with_reducible rfl
    simp only [Act.put, List.setIfInBounds_toArray, List.set_cons_zero, List.set_cons_succ]
    refine take_at 28 59 (v := undef) rfl rfl (by kernel_rfl) (by kernel_rfl) (by kernel_rfl) (fun _ _ _ h => h) hHeld (Or.inr ⟨by kernel_rfl, rfl⟩) ?_
    simp only [Act.put, List.setIfInBounds_toArray, List.set_cons_zero, List.set_cons_succ]
    refine take_at 29 60 (v := undef) rfl rfl (by kernel_rfl) (by kernel_rfl) (by kernel_rfl) (fun _ _ _ h => h) hHeld (Or.inr ⟨by kernel_rfl, rfl⟩) ?_
    simp only [Act.put, List.setIfInBounds_toArray, List.set_cons_zero, List.set_cons_succ]
    refine take_at 30 61 (v := undef) rfl rfl (by kernel_rfl) (by kernel_rfl) (by kernel_rfl) (fun _ _ _ h => h) hHeld (Or.inr ⟨by kernel_rfl, rfl⟩) ?_
    simp only [Act.put, List.setIfInBounds_toArray, List.set_cons_zero, List.set_cons_succ]
    refine take_at 31 62 (v := ?_) rfl rfl (by kernel_rfl) (by kernel_rfl) (by kernel_rfl) (fun _ _ _ h => h) hHeld (Or.inl ⟨by kernel_rfl, ?_⟩) ?_
    rotate_left
    · intro w hSw; (try dsimp only at hSw); go_simp; try with_reducible rfl
    simp only [Act.put, List.setIfInBounds_toArray, List.set_cons_zero, List.set_cons_succ]
    refine wpAnyH_done (by kernel_rfl) ?_ _
    have k9 := kk.trans hHeld.2.2.2.2.2
    go_wp2
    go_ret
    exact ⟨rfl, k9⟩
  have eA : decide ((200 : Int) < ((numEvent y.event).length : Int) + ((numBase y.base).length : Int) + ((numEntry y.entry).length : Int)) = false := decide_eq_false (by omega)
  refine take_at 19 50 (v := ?_) rfl rfl (by kernel_rfl) (by kernel_rfl) (by kernel_rfl) (fun _ _ _ h => h) hHeld (Or.inl ⟨by kernel_rfl, ?_⟩) ?_
  rotate_left
  · intro w hSw; (try dsimp only at hSw); go_simp; try with_reducible rfl
  simp only [Act.put, List.setIfInBounds_toArray, List.set_cons_zero, List.set_cons_succ]
  refine take_at 20 51 (v := ?_) rfl rfl (by kernel_rfl) (by kernel_rfl) (by kernel_rfl) (fun _ _ _ h => h) hHeld (Or.inl ⟨by kernel_rfl, ?_⟩) ?_
  rotate_left
  · intro w hSw; (try dsimp only at hSw); go_simp; try with_reducible rfl
  simp only [Act.put, List.setIfInBounds_toArray, List.set_cons_zero, List.set_cons_succ]
  refine take_at 21 52 (v := ?_) rfl rfl (by kernel_rfl) (by kernel_rfl) (by kernel_rfl) (fun _ _ _ h => h) hHeld (Or.inl ⟨by kernel_rfl, ?_⟩) ?_
  rotate_left
  · intro w hSw; (try dsimp only at hSw); go_simp; try with_reducible rfl
  simp only [Act.put, List.setIfInBounds_toArray, List.set_cons_zero, List.set_cons_succ]
  refine take_at 22 53 (v := _) rfl rfl (by kernel_rfl) (by kernel_rfl) (by kernel_rfl) (fun _ _ _ h => h) hHeld (yieldsIf_load_mid (by kernel_rfl) 78 _ rfl _ 0 rfl cc _ (fun _ h => h.2.2.2.2.1) Try.underlying78 rfl (by assumption)) ?_
  simp only [Act.put, List.setIfInBounds_toArray, List.set_cons_zero, List.set_cons_succ]
  refine wpAnyH_ready (rs := [23]) (by kernel_rfl) (by simp) ?_
  refine AllReadyH.cons (o := _) rfl (fun K hK => ?_) AllReadyH.nil
  go_simp
  refine (nMessage_any _ z _ (hz0.kp hHeld.2.2.2.2.2) lz).mono ?_
  rintro e wq5 ⟨vq5, rfl, own5, h5⟩
  obtain ⟨D5, z5, rfl, zz5, zf5⟩ := own5.form
  refine hK.out _ _ (hS _ (hHeld.2.2.2.2.2.trans h5)) (fun hHeld2 => ?_)
  clear hK K hHeld
  have hHeld := hHeld2
  clear hHeld2
  clear own5 h5
  refine take_at 24 55 (v := ?_) rfl rfl (by kernel_rfl) (by kernel_rfl) (by kernel_rfl) (fun _ _ _ h => h) hHeld (Or.inl ⟨by kernel_rfl, ?_⟩) ?_
  rotate_left
  · intro w hSw; (try dsimp only at hSw); go_simp; try with_reducible rfl
  simp only [Act.put, List.setIfInBounds_toArray, List.set_cons_zero, List.set_cons_succ]
  clear eA
  by_cases hD : 200 < (numMessage z).length
  · have eA : decide ((200 : Int) < ((numMessage z).length : Int)) = true := decide_eq_true (by omega)
    refine take_at 25 56 (v := ?_) rfl rfl (by kernel_rfl) (by kernel_rfl) (by kernel_rfl) (fun _ _ _ h => h) hHeld (Or.inl ⟨by kernel_rfl, ?_⟩) ?_
    rotate_left
    · intro w hSw; (try dsimp only at hSw); go_simp; try with_reducible rfl
    simp only [Act.put, List.setIfInBounds_toArray, List.set_cons_zero, List.set_cons_succ]
    refine take_at 26 57 (v := ?_) rfl rfl (by kernel_rfl) (by kernel_rfl) (by kernel_rfl) (fun _ _ _ h => h) hHeld (Or.inl ⟨by kernel_rfl, ?_⟩) ?_
    rotate_left
    · intro w hSw; (try dsimp only at hSw); go_simp; try with_reducible rfl
    simp only [Act.put, List.setIfInBounds_toArray, List.set_cons_zero, List.set_cons_succ]
    refine take_at 27 58 (v := ?_) rfl rfl (by kernel_rfl) (by kernel_rfl) (by kernel_rfl) (fun _ _ _ h => h) hHeld (Or.inl ⟨by kernel_rfl, ?_⟩) ?_
    rotate_left
    · intro w hSw; (try dsimp only at hSw); go_simp; try with_reducible rfl
    simp only [Act.put, List.setIfInBounds_toArray, List.set_cons_zero, List.set_cons_succ]
    refine take_at 28 59 (v := undef) rfl rfl (by kernel_rfl) (by kernel_rfl) (by kernel_rfl) (fun _ _ _ h => h) hHeld (Or.inr ⟨by kernel_rfl, rfl⟩) ?_
    simp only [Act.put, List.setIfInBounds_toArray, List.set_cons_zero, List.set_cons_succ]
    refine take_at 29 60 (v := undef) rfl rfl (by kernel_rfl) (by kernel_rfl) (by kernel_rfl) (fun _ _ _ h => h) hHeld (Or.inr ⟨by kernel_rfl, rfl⟩) ?_
    simp only [Act.put, List.setIfInBounds_toArray, List.set_cons_zero, List.set_cons_succ]
    refine take_at 30 61 (v := undef) rfl rfl (by kernel_rfl) (by kernel_rfl) (by kernel_rfl) (fun _ _ _ h => h) hHeld (Or.inr ⟨by kernel_rfl, rfl⟩) ?_
    simp only [Act.put, List.setIfInBounds_toArray, List.set_cons_zero, List.set_cons_succ]
    refine take_at 31 62 (v := ?_) rfl rfl (by kernel_rfl) (by kernel_rfl) (by kernel_rfl) (fun _ _ _ h => h) hHeld (Or.inl ⟨by kernel_rfl, ?_⟩) ?_
    rotate_left
    · intro w hSw; (try dsimp only at hSw); go_simp; try with_reducible rfl
    simp only [Act.put, List.setIfInBounds_toArray, List.set_cons_zero, List.set_cons_succ]
    refine wpAnyH_done (by kernel_rfl) ?_ _
    have k9 := kk.trans hHeld.2.2.2.2.2
    go_wp2
    go_ret
    exact ⟨rfl, k9⟩
  have eA : decide ((200 : Int) < ((numMessage z).length : Int)) = false := decide_eq_false (by omega)
  refine take_at 25 56 (v := ?_) rfl rfl (by kernel_rfl) (by kernel_rfl) (by kernel_rfl) (fun _ _ _ h => h) hHeld (Or.inl ⟨by kernel_rfl, ?_⟩) ?_
  rotate_left
  · intro w hSw; (try dsimp only at hSw); go_simp; try with_reducible rfl
  simp only [Act.put, List.setIfInBounds_toArray, List.set_cons_zero, List.set_cons_succ]
  refine take_at 26 57 (v := ?_) rfl rfl (by kernel_rfl) (by kernel_rfl) (by kernel_rfl) (fun _ _ _ h => h) hHeld (Or.inl ⟨by kernel_rfl, ?_⟩) ?_
  rotate_left
  · intro w hSw; (try dsimp only at hSw); go_simp; try with_reducible rfl
  simp only [Act.put, List.setIfInBounds_toArray, List.set_cons_zero, List.set_cons_succ]
  refine take_at 27 58 (v := ?_) rfl rfl (by kernel_rfl) (by kernel_rfl) (by kernel_rfl) (fun _ _ _ h => h) hHeld (Or.inl ⟨by kernel_rfl, ?_⟩) ?_
  rotate_left
  · intro w hSw; (try dsimp only at hSw); go_simp; try with_reducible rfl
  simp only [Act.put, List.setIfInBounds_toArray, List.set_cons_zero, List.set_cons_succ]
  clear eA
  have hsm := ba_size mo
  refine take_at 28 59 (v := ?_) rfl rfl (by kernel_rfl) (by kernel_rfl) (by kernel_rfl) (fun _ _ _ h => h) hHeld (Or.inl ⟨by kernel_rfl, ?_⟩) ?_
  rotate_left
  · intro w hSw; (try dsimp only at hSw); go_simp; try with_reducible rfl
  simp only [Act.put, List.setIfInBounds_toArray, List.set_cons_zero, List.set_cons_succ]
  refine take_at 29 60 (v := .int .i64 (mo.length : Int)) rfl rfl (by kernel_rfl) (by kernel_rfl) (by kernel_rfl) (fun _ _ _ h => h) hHeld (Or.inl ⟨by kernel_rfl, ?_⟩) ?_
  · intro w hSw; (try dsimp only at hSw); go_simp; try rfl
  simp only [Act.put, List.setIfInBounds_toArray, List.set_cons_zero, List.set_cons_succ]
  by_cases hF : 100 < mo.length
  · have eA : decide ((100 : Int) < (mo.length : Int)) = true := decide_eq_true (by omega)
    refine take_at 30 61 (v := ?_) rfl rfl (by kernel_rfl) (by kernel_rfl) (by kernel_rfl) (fun _ _ _ h => h) hHeld (Or.inl ⟨by kernel_rfl, ?_⟩) ?_
    rotate_left
    · intro w hSw; (try dsimp only at hSw); go_simp; try with_reducible rfl
    simp only [Act.put, List.setIfInBounds_toArray, List.set_cons_zero, List.set_cons_succ]
    refine take_at 31 62 (v := ?_) rfl rfl (by kernel_rfl) (by kernel_rfl) (by kernel_rfl) (fun _ _ _ h => h) hHeld (Or.inl ⟨by kernel_rfl, ?_⟩) ?_
    rotate_left
    · intro w hSw; (try dsimp only at hSw); go_simp; try with_reducible rfl
    simp only [Act.put, List.setIfInBounds_toArray, List.set_cons_zero, List.set_cons_succ]
    refine wpAnyH_done (by kernel_rfl) ?_ _
    have k9 := kk.trans hHeld.2.2.2.2.2
    go_wp2
    go_ret
    exact ⟨rfl, k9⟩
  have eA : decide ((100 : Int) < (mo.length : Int)) = false := decide_eq_false (by omega)
  refine take_at 30 61 (v := ?_) rfl rfl (by kernel_rfl) (by kernel_rfl) (by kernel_rfl) (fun _ _ _ h => h) hHeld (Or.inl ⟨by kernel_rfl, ?_⟩) ?_
  rotate_left
  · intro w hSw; (try dsimp only at hSw); go_simp; try with_reducible rfl
  simp only [Act.put, List.setIfInBounds_toArray, List.set_cons_zero, List.set_cons_succ]
  refine take_at 31 62 (v := ?_) rfl rfl (by kernel_rfl) (by kernel_rfl) (by kernel_rfl) (fun _ _ _ h => h) hHeld (Or.inl ⟨by kernel_rfl, ?_⟩) ?_
  rotate_left
  · intro w hSw; (try dsimp only at hSw); go_simp; try with_reducible rfl
  simp only [Act.put, List.setIfInBounds_toArray, List.set_cons_zero, List.set_cons_succ]
  refine wpAnyH_done (by kernel_rfl) ?_ _
  have k3 := hHeld.2.2.2.2.2
  clear hS eA hHeld k1
  have HSZ : Hid (sizeRecord y ≤ 210) := hid (by unfold sizeRecord; omega)
  have HZ1 : Hid ((numEvent x).length ≤ 200) := hid (by omega)
  have HZ2 : Hid ((numMessage z).length ≤ 200) := hid (by omega)
  have HP1 : Hid (0 < (numEvent x).length) := hid (by simp [numEvent])
  have HP2 : Hid (0 < (numMessage z).length) := hid (by simp [numMessage])
  have hml : mo.length ≤ 100 := by omega
  clear hA hB hD hle hs1 hs2 hs3 xa1 xa2 xa3 iE iB iN hp hF lx sy lz hpx hpy hvy
  go_wp2_with (refine wpList_load_mid rfl 37 (.tmp 5) rfl b 0 rfl ca _ (k3.range r0) Try.underlying37 rfl hia ?_)
  refine (EncodeEvent_any _ x _ (hx0.kp k3) (by have := HZ1.out; unfold Room; simp; omega)).mono ?_
  rintro e w4 ⟨rfl, k4⟩
  replace k4 := k3.trans k4
  generalize he : encE (numEvent x) = r at *
  have HE1 := hid he
  clear he k3
  obtain ⟨ab, er⟩ := r
  go_wp2_with (refine wpList_load_mid rfl 46 (.tmp 6) rfl bb 0 rfl cb _ (k4.range q0) Try.underlying46 rfl iR ?_)
  refine (EncodeRecord_any _ y _ (hy0.kp k4) (by have := HSZ.out; have := part_le y false; unfold Room; simp; omega) (by have := HSZ.out; have := part_le y true; unfold Room; simp only [numRecord, List.length_cons, List.length_nil]; omega)).mono ?_
  rintro e w5 ⟨rfl, k5⟩
  replace k5 := k4.trans k5
  generalize he : encR y = r at *
  have HE2 := hid he
  clear he k4
  obtain ⟨bb2, fr⟩ := r
  go_wp2_with (refine wpList_load_mid rfl 78 (.tmp 7) rfl bz 0 rfl cc _ (k5.range m0) Try.underlying78 rfl iM ?_)
  refine (EncodeMessage_any _ z _ (hz0.kp k5) (by have := HZ2.out; unfold Room; simp; omega)).mono ?_
  rintro e w6 ⟨rfl, k6⟩
  replace k6 := k5.trans k6
  generalize he : encE (numMessage z) = r at *
  have HE3 := hid he
  clear he k5 hx0 hy0 hz0 r0 q0 m0
  obtain ⟨cb2, gr⟩ := r
  go_upto_if 79 with (fail)
  go_cut [] from 17 (fun wx => Kp w0 wx)
  case first =>
    by_cases h0 : er = 0
    · subst h0
      have HB := hid (codes_of eventP_good HP1.out HE1.out)
      have hp1 := HB.out.pos
      have hp2 := HB.out.short
      have hsz := ba_size ab
      have e1 : decide ((ab.length : Int) = 0) = false := decide_eq_false (by omega)
      have e2 : ((ab.length : Int) == 0) = false := by simpa using (by omega : (ab.length : Int) ≠ 0)
      obtain ⟨k, hk, hkl⟩ : ∃ k : Nat, c.tmod (ab.length : Int) = (k : Int) ∧ k < ab.length := ⟨c.toNat % ab.length, by rw [Int.tmod_eq_emod_of_nonneg hc0, Int.natCast_emod, Int.toNat_of_nonneg hc0], Nat.mod_lt _ hp1⟩
      go_wp2_with fail
      rw [ba_take]
      refine (decodeEvent (ab.take k) _).mono ?_
      rintro e w7 ⟨v7, rfl, ho, k7⟩
      rw [HB.out.pre k hkl] at ho ⊢
      dsimp only [Option.getD_none] at ho ⊢
      obtain ⟨cm, rfl, hl7, h17⟩ := (va_cells fun _ _ _ h => event_one h) _ _ _ ho.here
      clear ho e1 e2 hkl hk
      replace k7 := k6.trans k7
      have hth := there_new w7 #[.int .i64 0, .int .i64 0, .int .i64 0, .slice none 0 0, .int .i64 0, .int .i64 0, .int .i64 0, .int .i64 0, .int .i64 0, .int .i64 0, .int .i64 0, .int .i64 0, .int .i64 0] 37 cm.length (by rw [hl7]; rfl)
      have hin : (Try.prog.info? 37).map (·.size) = some cm.length := by rw [hl7]; kernel_rfl
      have k8 : Kp w0 ((w7.alloc (.cells #[.int .i64 0, .int .i64 0, .int .i64 0, .slice none 0 0, .int .i64 0, .int .i64 0, .int .i64 0, .int .i64 0, .int .i64 0, .int .i64 0, .int .i64 0, .int .i64 0, .int .i64 0] 37)).setCells w7.heap.size 0 cm) := Kp.setCells k7.size cm 0 _ (k7.alloc _)
      go_wp2_with (refine wpList_store_mid rfl 37 (.tmp 17) (.tmp 92) rfl w7.heap.size 0 cm.toArray rfl rfl hth hin (all_oneCell_toArray h17) ?_; generalize (w7.alloc (.cells #[.int .i64 0, .int .i64 0, .int .i64 0, .slice none 0 0, .int .i64 0, .int .i64 0, .int .i64 0, .int .i64 0, .int .i64 0, .int .i64 0, .int .i64 0, .int .i64 0, .int .i64 0] 37)).setCells w7.heap.size 0 cm = w8 at *)
      rw [ba_append]
      refine (decodeEvent (ab ++ mo) _).mono ?_
      rintro e w9 ⟨v9, rfl, ho, k9⟩
      obtain ⟨cn, rfl, hl9, h19⟩ := (va_cells fun _ _ _ h => event_one h) _ _ _ ho.here
      clear ho hth hin k7 h17 hl7
      replace k9 := k8.trans k9
      have hq1 : mo = [] → (readE eventP (ab ++ mo)).2 = 0 := fun h => by rw [h, List.append_nil, HB.out.self]
      have hq2 : mo ≠ [] → (readE eventP (ab ++ mo)).2 ≠ 0 := HB.out.more mo
      generalize (readE eventP (ab ++ mo)).2 = e9 at *
      replace hq1 := hid hq1
      replace hq2 := hid hq2
      have hth := there_new w9 #[.int .i64 0, .int .i64 0, .int .i64 0, .slice none 0 0, .int .i64 0, .int .i64 0, .int .i64 0, .int .i64 0, .int .i64 0, .int .i64 0, .int .i64 0, .int .i64 0, .int .i64 0] 37 cn.length (by rw [hl9]; rfl)
      have hin : (Try.prog.info? 37).map (·.size) = some cn.length := by rw [hl9]; kernel_rfl
      have k10 : Kp w0 ((w9.alloc (.cells #[.int .i64 0, .int .i64 0, .int .i64 0, .slice none 0 0, .int .i64 0, .int .i64 0, .int .i64 0, .int .i64 0, .int .i64 0, .int .i64 0, .int .i64 0, .int .i64 0, .int .i64 0] 37)).setCells w9.heap.size 0 cn) := Kp.setCells k9.size cn 0 _ (k9.alloc _)
      by_cases hmo : mo = []
      · obtain rfl := hq1.out hmo
        subst hmo
        go_wp2_with (refine wpList_store_mid rfl 37 (.tmp 19) (.tmp 99) rfl w9.heap.size 0 cn.toArray rfl rfl hth hin (all_oneCell_toArray h19) ?_; generalize (w9.alloc (.cells #[.int .i64 0, .int .i64 0, .int .i64 0, .slice none 0 0, .int .i64 0, .int .i64 0, .int .i64 0, .int .i64 0, .int .i64 0, .int .i64 0, .int .i64 0, .int .i64 0, .int .i64 0] 37)).setCells w9.heap.size 0 cn = w11 at *)
        go_meet
        case rel => exact k10
      · have h9 := hq2.out hmo
        have f1 : (e9 == 0) = false := by simpa using h9
        obtain ⟨f2, f3, f4⟩ := ba_ne hmo
        go_wp2_with (refine wpList_store_mid rfl 37 (.tmp 19) (.tmp 99) rfl w9.heap.size 0 cn.toArray rfl rfl hth hin (all_oneCell_toArray h19) ?_; generalize (w9.alloc (.cells #[.int .i64 0, .int .i64 0, .int .i64 0, .slice none 0 0, .int .i64 0, .int .i64 0, .int .i64 0, .int .i64 0, .int .i64 0, .int .i64 0, .int .i64 0, .int .i64 0, .int .i64 0] 37)).setCells w9.heap.size 0 cn = w11 at *)
        go_meet
        case rel => exact k10
    · have e3 : (er == 0) = false := by simpa using h0
      go_wp2
      go_meet
      case rel => exact k6
  case rest =>
  clear k6
  replace k6 := hcut
  clear hcut
  go_upto_if 111 with (fail)
  go_cut [] from 17 (fun wx => Kp w0 wx)
  case first =>
    by_cases h0 : fr = 0
    · subst h0
      have HB := hid (codes_rec HE2.out)
      have hp1 := HB.out.pos
      have hp2 := HB.out.short
      have hsz := ba_size bb2
      have e1 : decide ((bb2.length : Int) = 0) = false := decide_eq_false (by omega)
      have e2 : ((bb2.length : Int) == 0) = false := by simpa using (by omega : (bb2.length : Int) ≠ 0)
      obtain ⟨k, hk, hkl⟩ : ∃ k : Nat, c.tmod (bb2.length : Int) = (k : Int) ∧ k < bb2.length := ⟨c.toNat % bb2.length, by rw [Int.tmod_eq_emod_of_nonneg hc0, Int.natCast_emod, Int.toNat_of_nonneg hc0], Nat.mod_lt _ hp1⟩
      go_wp2_with fail
      rw [ba_take]
      refine (decodeRecord (bb2.take k) _).mono ?_
      rintro e w7 ⟨v7, rfl, ho, k7⟩
      rw [HB.out.pre k hkl] at ho ⊢
      dsimp only [Option.getD_none] at ho ⊢
      obtain ⟨cm, rfl, hl7, h17⟩ := (va_cells fun _ _ _ h => rdRecord_one h) _ _ _ ho.here
      clear ho e1 e2 hkl hk
      replace k7 := k6.trans k7
      have hth := there_new w7 #[.int .i64 0, .int .i64 0, .int .i64 0, .int .i64 0, .slice none 0 0, .int .i64 0, .int .i64 0, .int .i64 0, .int .i64 0, .int .i64 0, .int .i64 0, .int .i64 0, .int .i64 0, .int .i64 0, .slice none 0 0, .int .i64 0, .slice none 0 0, .slice none 0 0, .slice none 0 0, .slice none 0 0, .slice none 0 0, .int .i64 0, .int .i64 0, .int .i64 0, .int .i64 0, .int .i64 0, .int .i64 0, .int .i64 0, .int .i64 0, .slice none 0 0] 46 cm.length (by rw [hl7]; rfl)
      have hin : (Try.prog.info? 46).map (·.size) = some cm.length := by rw [hl7]; kernel_rfl
      have k8 : Kp w0 ((w7.alloc (.cells #[.int .i64 0, .int .i64 0, .int .i64 0, .int .i64 0, .slice none 0 0, .int .i64 0, .int .i64 0, .int .i64 0, .int .i64 0, .int .i64 0, .int .i64 0, .int .i64 0, .int .i64 0, .int .i64 0, .slice none 0 0, .int .i64 0, .slice none 0 0, .slice none 0 0, .slice none 0 0, .slice none 0 0, .slice none 0 0, .int .i64 0, .int .i64 0, .int .i64 0, .int .i64 0, .int .i64 0, .int .i64 0, .int .i64 0, .int .i64 0, .slice none 0 0] 46)).setCells w7.heap.size 0 cm) := Kp.setCells k7.size cm 0 _ (k7.alloc _)
      go_wp2_with (refine wpList_store_mid rfl 46 (.tmp 21) (.tmp 124) rfl w7.heap.size 0 cm.toArray rfl rfl hth hin (all_oneCell_toArray h17) ?_; generalize (w7.alloc (.cells #[.int .i64 0, .int .i64 0, .int .i64 0, .int .i64 0, .slice none 0 0, .int .i64 0, .int .i64 0, .int .i64 0, .int .i64 0, .int .i64 0, .int .i64 0, .int .i64 0, .int .i64 0, .int .i64 0, .slice none 0 0, .int .i64 0, .slice none 0 0, .slice none 0 0, .slice none 0 0, .slice none 0 0, .slice none 0 0, .int .i64 0, .int .i64 0, .int .i64 0, .int .i64 0, .int .i64 0, .int .i64 0, .int .i64 0, .int .i64 0, .slice none 0 0] 46)).setCells w7.heap.size 0 cm = w8 at *)
      rw [ba_append]
      refine (decodeRecord (bb2 ++ mo) _).mono ?_
      rintro e w9 ⟨v9, rfl, ho, k9⟩
      obtain ⟨cn, rfl, hl9, h19⟩ := (va_cells fun _ _ _ h => rdRecord_one h) _ _ _ ho.here
      clear ho hth hin k7 h17 hl7
      replace k9 := k8.trans k9
      have hq1 : mo = [] → (readE recordP (bb2 ++ mo)).2 = 0 := fun h => by rw [h, List.append_nil, HB.out.self]
      have hq2 : mo ≠ [] → (readE recordP (bb2 ++ mo)).2 ≠ 0 := HB.out.more mo
      generalize (readE recordP (bb2 ++ mo)).2 = e9 at *
      replace hq1 := hid hq1
      replace hq2 := hid hq2
      have hth := there_new w9 #[.int .i64 0, .int .i64 0, .int .i64 0, .int .i64 0, .slice none 0 0, .int .i64 0, .int .i64 0, .int .i64 0, .int .i64 0, .int .i64 0, .int .i64 0, .int .i64 0, .int .i64 0, .int .i64 0, .slice none 0 0, .int .i64 0, .slice none 0 0, .slice none 0 0, .slice none 0 0, .slice none 0 0, .slice none 0 0, .int .i64 0, .int .i64 0, .int .i64 0, .int .i64 0, .int .i64 0, .int .i64 0, .int .i64 0, .int .i64 0, .slice none 0 0] 46 cn.length (by rw [hl9]; rfl)
      have hin : (Try.prog.info? 46).map (·.size) = some cn.length := by rw [hl9]; kernel_rfl
      have k10 : Kp w0 ((w9.alloc (.cells #[.int .i64 0, .int .i64 0, .int .i64 0, .int .i64 0, .slice none 0 0, .int .i64 0, .int .i64 0, .int .i64 0, .int .i64 0, .int .i64 0, .int .i64 0, .int .i64 0, .int .i64 0, .int .i64 0, .slice none 0 0, .int .i64 0, .slice none 0 0, .slice none 0 0, .slice none 0 0, .slice none 0 0, .slice none 0 0, .int .i64 0, .int .i64 0, .int .i64 0, .int .i64 0, .int .i64 0, .int .i64 0, .int .i64 0, .int .i64 0, .slice none 0 0] 46)).setCells w9.heap.size 0 cn) := Kp.setCells k9.size cn 0 _ (k9.alloc _)
      by_cases hmo : mo = []
      · obtain rfl := hq1.out hmo
        subst hmo
        go_wp2_with (refine wpList_store_mid rfl 46 (.tmp 23) (.tmp 131) rfl w9.heap.size 0 cn.toArray rfl rfl hth hin (all_oneCell_toArray h19) ?_; generalize (w9.alloc (.cells #[.int .i64 0, .int .i64 0, .int .i64 0, .int .i64 0, .slice none 0 0, .int .i64 0, .int .i64 0, .int .i64 0, .int .i64 0, .int .i64 0, .int .i64 0, .int .i64 0, .int .i64 0, .int .i64 0, .slice none 0 0, .int .i64 0, .slice none 0 0, .slice none 0 0, .slice none 0 0, .slice none 0 0, .slice none 0 0, .int .i64 0, .int .i64 0, .int .i64 0, .int .i64 0, .int .i64 0, .int .i64 0, .int .i64 0, .int .i64 0, .slice none 0 0] 46)).setCells w9.heap.size 0 cn = w11 at *)
        go_meet
        case rel => exact k10
      · have h9 := hq2.out hmo
        have f1 : (e9 == 0) = false := by simpa using h9
        obtain ⟨f2, f3, f4⟩ := ba_ne hmo
        go_wp2_with (refine wpList_store_mid rfl 46 (.tmp 23) (.tmp 131) rfl w9.heap.size 0 cn.toArray rfl rfl hth hin (all_oneCell_toArray h19) ?_; generalize (w9.alloc (.cells #[.int .i64 0, .int .i64 0, .int .i64 0, .int .i64 0, .slice none 0 0, .int .i64 0, .int .i64 0, .int .i64 0, .int .i64 0, .int .i64 0, .int .i64 0, .int .i64 0, .int .i64 0, .int .i64 0, .slice none 0 0, .int .i64 0, .slice none 0 0, .slice none 0 0, .slice none 0 0, .slice none 0 0, .slice none 0 0, .int .i64 0, .int .i64 0, .int .i64 0, .int .i64 0, .int .i64 0, .int .i64 0, .int .i64 0, .int .i64 0, .slice none 0 0] 46)).setCells w9.heap.size 0 cn = w11 at *)
        go_meet
        case rel => exact k10
    · have e3 : (fr == 0) = false := by simpa using h0
      go_wp2
      go_meet
      case rel => exact k6
  case rest =>
  clear k6
  replace k6 := hcut
  clear hcut
  go_upto_if 143 with (fail)
  go_cut [] from 17 (fun wx => Kp w0 wx)
  case first =>
    by_cases h0 : gr = 0
    · subst h0
      have HB := hid (codes_of messageP_good HP2.out HE3.out)
      have hp1 := HB.out.pos
      have hp2 := HB.out.short
      have hsz := ba_size cb2
      have e1 : decide ((cb2.length : Int) = 0) = false := decide_eq_false (by omega)
      have e2 : ((cb2.length : Int) == 0) = false := by simpa using (by omega : (cb2.length : Int) ≠ 0)
      obtain ⟨k, hk, hkl⟩ : ∃ k : Nat, c.tmod (cb2.length : Int) = (k : Int) ∧ k < cb2.length := ⟨c.toNat % cb2.length, by rw [Int.tmod_eq_emod_of_nonneg hc0, Int.natCast_emod, Int.toNat_of_nonneg hc0], Nat.mod_lt _ hp1⟩
      go_wp2_with fail
      rw [ba_take]
      refine (decodeMessage (cb2.take k) _).mono ?_
      rintro e w7 ⟨v7, rfl, ho, k7⟩
      rw [HB.out.pre k hkl] at ho ⊢
      dsimp only [Option.getD_none] at ho ⊢
      obtain ⟨cm, rfl, hl7, h17⟩ := message_cells _ _ _ ho.here
      clear ho e1 e2 hkl hk
      replace k7 := k6.trans k7
      have hth := there_new w7 #[.int .i64 0, .int .i64 0, .int .i64 0, .slice none 0 0, .slice none 0 0, .slice none 0 0, .int .i64 0, .int .i64 0, .int .i64 0, .int .i64 0, .int .i64 0, .slice none 0 0, .int .i64 0, .int .i64 0, .int .i64 0, .int .i64 0, .bool false, .slice none 0 0] 78 cm.length (by rw [hl7]; rfl)
      have hin : (Try.prog.info? 78).map (·.size) = some cm.length := by rw [hl7]; kernel_rfl
      have k8 : Kp w0 ((w7.alloc (.cells #[.int .i64 0, .int .i64 0, .int .i64 0, .slice none 0 0, .slice none 0 0, .slice none 0 0, .int .i64 0, .int .i64 0, .int .i64 0, .int .i64 0, .int .i64 0, .slice none 0 0, .int .i64 0, .int .i64 0, .int .i64 0, .int .i64 0, .bool false, .slice none 0 0] 78)).setCells w7.heap.size 0 cm) := Kp.setCells k7.size cm 0 _ (k7.alloc _)
      go_wp2_with (refine wpList_store_mid rfl 78 (.tmp 25) (.tmp 156) rfl w7.heap.size 0 cm.toArray rfl rfl hth hin (all_oneCell_toArray h17) ?_; generalize (w7.alloc (.cells #[.int .i64 0, .int .i64 0, .int .i64 0, .slice none 0 0, .slice none 0 0, .slice none 0 0, .int .i64 0, .int .i64 0, .int .i64 0, .int .i64 0, .int .i64 0, .slice none 0 0, .int .i64 0, .int .i64 0, .int .i64 0, .int .i64 0, .bool false, .slice none 0 0] 78)).setCells w7.heap.size 0 cm = w8 at *)
      rw [ba_append]
      refine (decodeMessage (cb2 ++ mo) _).mono ?_
      rintro e w9 ⟨v9, rfl, ho, k9⟩
      obtain ⟨cn, rfl, hl9, h19⟩ := message_cells _ _ _ ho.here
      clear ho hth hin k7 h17 hl7
      replace k9 := k8.trans k9
      have hq1 : mo = [] → (readE messageP (cb2 ++ mo)).2 = 0 := fun h => by rw [h, List.append_nil, HB.out.self]
      have hq2 : mo ≠ [] → (readE messageP (cb2 ++ mo)).2 ≠ 0 := HB.out.more mo
      generalize (readE messageP (cb2 ++ mo)).2 = e9 at *
      replace hq1 := hid hq1
      replace hq2 := hid hq2
      have hth := there_new w9 #[.int .i64 0, .int .i64 0, .int .i64 0, .slice none 0 0, .slice none 0 0, .slice none 0 0, .int .i64 0, .int .i64 0, .int .i64 0, .int .i64 0, .int .i64 0, .slice none 0 0, .int .i64 0, .int .i64 0, .int .i64 0, .int .i64 0, .bool false, .slice none 0 0] 78 cn.length (by rw [hl9]; rfl)
      have hin : (Try.prog.info? 78).map (·.size) = some cn.length := by rw [hl9]; kernel_rfl
      have k10 : Kp w0 ((w9.alloc (.cells #[.int .i64 0, .int .i64 0, .int .i64 0, .slice none 0 0, .slice none 0 0, .slice none 0 0, .int .i64 0, .int .i64 0, .int .i64 0, .int .i64 0, .int .i64 0, .slice none 0 0, .int .i64 0, .int .i64 0, .int .i64 0, .int .i64 0, .bool false, .slice none 0 0] 78)).setCells w9.heap.size 0 cn) := Kp.setCells k9.size cn 0 _ (k9.alloc _)
      by_cases hmo : mo = []
      · obtain rfl := hq1.out hmo
        subst hmo
        go_wp2_with (refine wpList_store_mid rfl 78 (.tmp 27) (.tmp 163) rfl w9.heap.size 0 cn.toArray rfl rfl hth hin (all_oneCell_toArray h19) ?_; generalize (w9.alloc (.cells #[.int .i64 0, .int .i64 0, .int .i64 0, .slice none 0 0, .slice none 0 0, .slice none 0 0, .int .i64 0, .int .i64 0, .int .i64 0, .int .i64 0, .int .i64 0, .slice none 0 0, .int .i64 0, .int .i64 0, .int .i64 0, .int .i64 0, .bool false, .slice none 0 0] 78)).setCells w9.heap.size 0 cn = w11 at *)
        go_meet
        case rel => exact k10
      · have h9 := hq2.out hmo
        have f1 : (e9 == 0) = false := by simpa using h9
        obtain ⟨f2, f3, f4⟩ := ba_ne hmo
        go_wp2_with (refine wpList_store_mid rfl 78 (.tmp 27) (.tmp 163) rfl w9.heap.size 0 cn.toArray rfl rfl hth hin (all_oneCell_toArray h19) ?_; generalize (w9.alloc (.cells #[.int .i64 0, .int .i64 0, .int .i64 0, .slice none 0 0, .slice none 0 0, .slice none 0 0, .int .i64 0, .int .i64 0, .int .i64 0, .int .i64 0, .int .i64 0, .slice none 0 0, .int .i64 0, .int .i64 0, .int .i64 0, .int .i64 0, .bool false, .slice none 0 0] 78)).setCells w9.heap.size 0 cn = w11 at *)
        go_meet
        case rel => exact k10
    · have e3 : (gr == 0) = false := by simpa using h0
      go_wp2
      go_meet
      case rel => exact k6
  case rest =>
  go_wp2
  go_ret
  exact ⟨rfl, kk.trans hcut⟩
end Go.Proofs.Ytmeafoakbkjifaa
