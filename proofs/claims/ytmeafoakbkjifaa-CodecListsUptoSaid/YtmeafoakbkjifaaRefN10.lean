
/-
The reference: the bytes of a list of records; whether two lists of records are the same.
-/
import Derived.Test.YtmeafoakbkjifaaRdr16
import Derived.Test.YtmeafoakbkjifaaNC
namespace Go.Proofs.Ytmeafoakbkjifaa
set_option linter.unusedSimpArgs false
set_option linter.unusedVariables false
open Go.RowKit

theorem flat_rec {xs : List Record} (h : xs.all formedB = true) : xs.flatMap numRec = xs.flatMap numRecord := by
  induction xs with
  | nil => rfl
  | cons x xs ih =>
    rw [List.all_cons, Bool.and_eq_true] at h
    rw [List.flatMap_cons, List.flatMap_cons, numRec_formed h.1, ih h.2]
theorem sameR_selfL (x : Record) : sameR x x = true := by simp [sameR]
theorem flat_take_leL {α β : Type} (f : α → List β) (xs : List α) (k : Nat) : ((xs.take k).flatMap f).length ≤ (xs.flatMap f).length := by
  conv => rhs; rw [← List.take_append_drop k xs, List.flatMap_append, List.length_append]
  omega
theorem flat_mem_le {α β : Type} (f : α → List β) (xs : List α) (x : α) (h : x ∈ xs) : (f x).length ≤ (xs.flatMap f).length := by
  induction xs with
  | nil => cases h
  | cons y xs ih =>
    rw [List.flatMap_cons, List.length_append]
    rcases List.mem_cons.1 h with rfl | h
    · omega
    · have := ih h; omega
set_option maxRecDepth 8000 in
set_option maxHeartbeats 2000000 in
theorem nEncodeRecords_any (v : Value) (xs : List Record) (w : World) (hv : Records w v xs) (sx : ∀ x ∈ xs, ShortR x) (hlen : (numL numRec xs).length ≤ 100000) :
    Calls Try.prog 30 #[v] w fun e w' => e = retE (encRs xs) ∧ Kp w w' := by
  have HF : Hid (encRs xs = if xs.all formedB then encE (numL numRecord xs) else ([], 1)) := hid rfl
  have hlen' := hlen
  unfold numL at hlen'
  rw [List.length_cons] at hlen'
  generalize encRs xs = r at *
  obtain ⟨A, c, rfl, hc, hm⟩ := hv.form
  go_enter Try.func30, Try.ntmps30
  go_wp2
  go_loopw [4, 5] (fun v i wr => ∃ (k : Nat) (L : List Int), k ≤ xs.length ∧ i = .int .i64 k ∧ Own encInt 3 1 w.heap.size wr v L ∧ Hid (L = (xs.length : Int) :: (xs.take k).flatMap numRec) ∧ Hid (xs.all formedB = (xs.drop k).all formedB) ∧ Kp w wr) (fun _ i _ => xs.length - (intOf i).toNat)
  case atStart => exact ⟨0, _, Nat.zero_le _, rfl, Own.lit encInt w #[.int .i64 (xs.length : Int)] [(xs.length : Int)] (Nat.le_refl _) (by simp) rfl rfl, hid (by simp), rfl, (Kp.refl w).alloc _⟩
  case round =>
    obtain ⟨k, L, hk2, rfl, own, HL, HB, hkr⟩ := hrel
    have hL : L.length ≤ (xs.flatMap numRec).length + 1 := by
      have := flat_take_leL numRec xs k
      rw [HL.out, List.length_cons]
      omega
    obtain ⟨A1, c1, rfl, hc1, hm1⟩ := own.form
    by_cases hlt : k < xs.length
    · obtain ⟨b, o, cs, rfl, hb, hcs, hq, hrd⟩ := (hv.keep rdRecord_stable hkr).at_ hlt
      have hrv := RecordV.of hrd
      have HH := hid (show wr.rangeAt b (o + k * 30) cs from fun j u hu => hq j u hu)
      have HD := hid (List.drop_eq_getElem_cons hlt)
      have HT := hid (take_snoc' xs k hlt)
      have sxk := sx xs[k] (List.getElem_mem hlt)
      have hl2 := flat_mem_le numRec xs xs[k] (List.getElem_mem hlt)
      clear hrd hq
      generalize xs[k] = x at *
      go_wp2_with (refine wpList_load_mid rfl 46 (.tmp 20) rfl b (o + k * 30) rfl cs _ HH.out Try.underlying46 rfl (by rw [hcs]; kernel_rfl) ?_)
      refine (nRecord_any _ x _ hrv sxk.1 sxk.2.1 sxk.2.2).mono ?_
      rintro e w2 ⟨v2, rfl, own2, k2⟩
      have own1 := own.kp k2
      have s2 := own2.sl encInt_len
      obtain ⟨A2, c2, rfl, hc2, hm2⟩ := own2.form
      replace k2 := hkr.trans k2
      have HN := hid (show L ++ numRec x = (xs.length : Int) :: (xs.take (k + 1)).flatMap numRec by rw [HL.out, HT.out]; simp)
      generalize numRec x = N at *
      clear own own2 HH
      by_cases hb : formedB x = true
      · rw [hb]
        have HG : Hid (xs.all formedB = (xs.drop (k + 1)).all formedB) := hid (by rw [HB.out, HD.out, List.all_cons, hb]; rfl)
        go_wp2_with (at_builtin; refine wpl_append_flat rfl (.tmp 27) (.tmp 28) rfl stInt' encInt_len encInt_one rfl own1 rfl s2 (by omega) (by omega) k2.size ?_; intro v3 w3 hown3 hgrow3 hat3 hnil3)
        go_roundw
        case rel => exact ⟨k + 1, _, by omega, by go_num, hown3, HN, HG, Kp.grown k2 hgrow3 own1.ge⟩
        case measure => simp [intOf]; omega
      · have hb' : formedB x = false := by simpa using hb
        rw [hb']
        have HG : Hid (r = ([], 1)) := hid (by rw [HF.out, HB.out, HD.out, List.all_cons, hb']; rfl)
        go_wp2
        go_ret2
        exact ⟨by rw [HG.out]; rfl, k2⟩
    · have hall : xs.all formedB = true := by rw [HB.out, List.drop_of_length_le (by omega)]; rfl
      have HG : Hid (r = encE (numL numRec xs)) := hid (by rw [HF.out, if_pos hall]; unfold numL; rw [flat_rec hall])
      have s1 := own.sl encInt_len
      have HL2 := hid (show L = numL numRec xs by rw [HL.out, List.take_of_length_le (by omega)]; rfl)
      clear own hall
      go_wp2_with fail
      refine (rEncode_any _ L wr s1 (by rw [HL2.out]; exact hlen)).mono ?_
      rintro e w2 ⟨rfl, hk2⟩
      have k2 := hkr.trans hk2
      rw [HL2.out, ← HG.out]
      obtain ⟨rb, re⟩ := r
      go_wp2
      go_ret2
      exact ⟨rfl, k2⟩
/-- whether two lists of records have the same numbers -/
def sameRL : List Record → List Record → Bool
  | x :: xs, y :: ys => if sameR x y then sameRL xs ys else false
  | _, _ => true
def sameRs (xs ys : List Record) : Bool := decide (xs.length = ys.length) && sameRL xs ys
theorem sameRs_self (xs : List Record) : sameRs xs xs = true := by
  unfold sameRs
  rw [decide_eq_true rfl, Bool.true_and]
  induction xs with
  | nil => rfl
  | cons x xs ih => unfold sameRL; rw [sameR_selfL, if_pos rfl]; exact ih
set_option maxRecDepth 8000 in
set_option maxHeartbeats 4000000 in
theorem SameRecords_any (va vb : Value) (xs ys : List Record) (w : World) (ha : Records w va xs) (hb : Records w vb ys) (sx : ∀ x ∈ xs, ShortR x) (sy : ∀ x ∈ ys, ShortR x) :
    Calls Try.prog 33 #[va, vb] w fun e w' => e = .returned (.bool (sameRs xs ys)) ∧ Kp w w' := by
  obtain ⟨A, c, rfl, hc, hm⟩ := ha.form
  obtain ⟨A', c', rfl, hc', hm'⟩ := hb.form
  by_cases hl : xs.length = ys.length
  · have HL := hid hl
    have l1 : (xs.length == ys.length) = true := beq_iff_eq.2 hl
    have l2 : (xs.length != ys.length) = false := by simp [hl]
    have l3 : ((xs.length : Int) == (ys.length : Int)) = true := by simp [hl]
    have l4 : ((xs.length : Int) != (ys.length : Int)) = false := by simp [hl]
    have l5 : xs.length ≤ ys.length := by omega
    clear hl
    go_enter Try.func33, Try.ntmps33
    go_wp2
    go_loopw [5] (fun i wr => ∃ k : Nat, k ≤ xs.length ∧ i = .int .i64 k ∧ Hid (sameRL xs ys = sameRL (xs.drop k) (ys.drop k)) ∧ Kp w wr) (fun i _ => xs.length - (intOf i).toNat)
    case atStart => exact ⟨0, Nat.zero_le _, rfl, rfl, Kp.refl _⟩
    case round =>
      obtain ⟨k, hk2, rfl, HB, hkr⟩ := hrel
      by_cases hlt : k < xs.length
      · have hlt' : k < ys.length := by omega
        obtain ⟨b, o, ca, rfl, hb1, hcs, hq, hrd⟩ := (ha.keep rdRecord_stable hkr).at_ hlt
        obtain ⟨b', o', cb, rfl, hb1', hcs', hq', hrd'⟩ := (hb.keep rdRecord_stable hkr).at_ hlt'
        have hrv := RecordV.of hrd
        have hrv' := RecordV.of hrd'
        have r1 : wr.rangeAt b (o + k * 30) ca := fun j u hu => hq j u hu
        have r2 : wr.rangeAt b' (o' + k * 30) cb := fun j u hu => hq' j u hu
        have HD := hid (List.drop_eq_getElem_cons hlt)
        have HE := hid (List.drop_eq_getElem_cons hlt')
        have sxk := sx xs[k] (List.getElem_mem hlt)
        have syk := sy ys[k] (List.getElem_mem hlt')
        have i1 := info_len (t := 46) hcs (by kernel_rfl)
        have i2 := info_len (t := 46) hcs' (by kernel_rfl)
        clear hrd hq hrd' hq' ha hb
        generalize xs[k] = x at *
        generalize ys[k] = y at *
        go_wp2
        have hS : ∀ W, Kp wr W → (W.rangeAt b (o + k * 30) ca ∧ W.rangeAt b' (o' + k * 30) cb ∧ Kp wr W) := fun W hk => ⟨hk.range r1, hk.range r2, hk⟩
        refine wp_region_held_drew (S := fun W => W.rangeAt b (o + k * 30) ca ∧ W.rangeAt b' (o' + k * 30) cb ∧ Kp wr W) (by kernel_rfl) (hS _ (Kp.refl _).drew) (fun hHeld => ?_)
        refine take_at 0 17 (v := ?_) rfl rfl (by kernel_rfl) (by kernel_rfl) (by kernel_rfl) (fun _ _ _ h => h) hHeld (Or.inl ⟨by kernel_rfl, ?_⟩) ?_
        rotate_left
        · intro w hSw; (try dsimp only at hSw); go_simp; try with_reducible rfl
        simp only [Act.put, List.setIfInBounds_toArray, List.set_cons_zero, List.set_cons_succ]
        refine take_at 1 18 (v := ?_) rfl rfl (by kernel_rfl) (by kernel_rfl) (by kernel_rfl) (fun _ _ _ h => h) hHeld (Or.inl ⟨by kernel_rfl, ?_⟩) ?_
        rotate_left
        · intro w hSw; (try dsimp only at hSw); go_simp; try with_reducible rfl
        simp only [Act.put, List.setIfInBounds_toArray, List.set_cons_zero, List.set_cons_succ]
        refine take_at 2 19 (v := ?_) rfl rfl (by kernel_rfl) (by kernel_rfl) (by kernel_rfl) (fun _ _ _ h => h) hHeld (Or.inl ⟨by kernel_rfl, ?_⟩) ?_
        rotate_left
        · intro w hSw; (try dsimp only at hSw); go_simp; try with_reducible rfl
        simp only [Act.put, List.setIfInBounds_toArray, List.set_cons_zero, List.set_cons_succ]
        refine take_at 4 21 (v := ?_) rfl rfl (by kernel_rfl) (by kernel_rfl) (by kernel_rfl) (fun _ _ _ h => h) hHeld (Or.inl ⟨by kernel_rfl, ?_⟩) ?_
        rotate_left
        · intro w hSw; (try dsimp only at hSw); go_simp; try with_reducible rfl
        simp only [Act.put, List.setIfInBounds_toArray, List.set_cons_zero, List.set_cons_succ]
        refine take_at 5 22 (v := ?_) rfl rfl (by kernel_rfl) (by kernel_rfl) (by kernel_rfl) (fun _ _ _ h => h) hHeld (Or.inl ⟨by kernel_rfl, ?_⟩) ?_
        rotate_left
        · intro w hSw; (try dsimp only at hSw); go_simp; try with_reducible rfl
        simp only [Act.put, List.setIfInBounds_toArray, List.set_cons_zero, List.set_cons_succ]
        refine take_at 6 23 (v := ?_) rfl rfl (by kernel_rfl) (by kernel_rfl) (by kernel_rfl) (fun _ _ _ h => h) hHeld (Or.inl ⟨by kernel_rfl, ?_⟩) ?_
        rotate_left
        · intro w hSw; (try dsimp only at hSw); go_simp; try with_reducible rfl
        simp only [Act.put, List.setIfInBounds_toArray, List.set_cons_zero, List.set_cons_succ]
        refine take_at 3 20 (v := _) rfl rfl (by kernel_rfl) (by kernel_rfl) (by kernel_rfl) (fun _ _ _ h => h) hHeld (yieldsIf_load_mid (by kernel_rfl) 46 _ rfl b (o + k * 30) rfl ca _ (fun _ h => h.1) Try.underlying46 rfl (by assumption)) ?_
        simp only [Act.put, List.setIfInBounds_toArray, List.set_cons_zero, List.set_cons_succ]
        refine take_at 7 24 (v := _) rfl rfl (by kernel_rfl) (by kernel_rfl) (by kernel_rfl) (fun _ _ _ h => h) hHeld (yieldsIf_load_mid (by kernel_rfl) 46 _ rfl b' (o' + k * 30) rfl cb _ (fun _ h => h.2.1) Try.underlying46 rfl (by assumption)) ?_
        simp only [Act.put, List.setIfInBounds_toArray, List.set_cons_zero, List.set_cons_succ]
        refine wpAnyH_ready (rs := [8]) (by kernel_rfl) (by simp) ?_
        refine AllReadyH.cons (o := _) rfl (fun K hK => ?_) AllReadyH.nil
        go_simp
        refine (SameRecord_any _ _ x y _ (hrv.kp hHeld.2.2) (hrv'.kp hHeld.2.2) sxk syk).mono ?_
        rintro e w9 ⟨rfl, h9⟩
        refine hK.out _ _ (hS _ (hHeld.2.2.trans h9)) (fun hHeld2 => ?_)
        clear hK K hHeld
        have hHeld := hHeld2
        clear hHeld2
        refine take_at 9 26 (v := ?_) rfl rfl (by kernel_rfl) (by kernel_rfl) (by kernel_rfl) (fun _ _ _ h => h) hHeld (Or.inl ⟨by kernel_rfl, ?_⟩) ?_
        rotate_left
        · intro w hSw; (try dsimp only at hSw); go_simp; try with_reducible rfl
        simp only [Act.put, List.setIfInBounds_toArray, List.set_cons_zero, List.set_cons_succ]
        refine wpAnyH_done (by kernel_rfl) ?_ _
        have k9 := hkr.trans hHeld.2.2
        cases hs : sameR x y with
        | true =>
          have HF : Hid (sameRL xs ys = sameRL (xs.drop (k + 1)) (ys.drop (k + 1))) := hid (by rw [HB.out, HD.out, HE.out, sameRL, hs, if_pos rfl])
          clear hs hHeld hS
          go_wp2
          go_roundw
          case rel => exact ⟨k + 1, by omega, by go_num, HF, k9⟩
          case measure => simp [intOf]; omega
        | false =>
          have HF : Hid (sameRs xs ys = false) := hid (by unfold sameRs; rw [HB.out, HD.out, HE.out, sameRL, hs]; simp)
          clear hs hHeld hS
          go_wp2
          go_ret
          exact ⟨by rw [HF.out]; rfl, k9⟩
      · have HF : Hid (sameRs xs ys = true) := hid (by unfold sameRs; rw [HB.out, List.drop_of_length_le (by omega), HL.out, decide_eq_true rfl]; simp [sameRL])
        go_wp2
        go_ret
        exact ⟨by rw [HF.out]; rfl, hkr⟩
  · have HF : Hid (sameRs xs ys = false) := hid (by unfold sameRs; rw [decide_eq_false hl]; rfl)
    have l2 : (xs.length != ys.length) = true := by simpa using hl
    have l3 : ((xs.length : Int) != (ys.length : Int)) = true := by simp; omega
    clear hl
    go_enter Try.func33, Try.ntmps33
    go_wp2
    go_ret
    exact ⟨by rw [HF.out]; rfl, Kp.refl _⟩
end Go.Proofs.Ytmeafoakbkjifaa
