
/-
Lists of records: the code and the reference write and read the same, and reading gives the list: the walk.
-/
import Derived.Test.YtmeafoakbkjifaaRefR9
import Derived.Test.YtmeafoakbkjifaaRefN10
namespace Go.Proofs.Ytmeafoakbkjifaa
set_option linter.unusedSimpArgs false
set_option linter.unusedVariables false
open Go.RowKit

theorem loopR_some : ∀ (n : Nat) (l : List Int) (xs : List Record) (l' : List Int), loopP recordP n l = some (xs, l') ↔ xs.length = n ∧ xs.all formedB = true ∧ l = xs.flatMap numRecord ++ l'
  | 0, l, xs, l' => by
    unfold loopP retP
    constructor
    · intro h
      simp only [Option.some.injEq, Prod.mk.injEq] at h
      obtain ⟨rfl, rfl⟩ := h
      simp
    · rintro ⟨h1, -, h2⟩
      obtain rfl := List.eq_nil_of_length_eq_zero h1
      simp [h2]
  | n + 1, l, xs, l' => by
    unfold loopP
    rw [bindP_some]
    constructor
    · rintro ⟨x, l1, h1, h2⟩
      rw [bindP_some] at h2
      obtain ⟨ys, l2, h3, h4⟩ := h2
      obtain ⟨h5, h6, rfl⟩ := (loopR_some n _ _ _).1 h3
      obtain ⟨h7, rfl⟩ := (recordP_some _ _ _).1 h1
      unfold retP at h4
      simp only [Option.some.injEq, Prod.mk.injEq] at h4
      obtain ⟨rfl, rfl⟩ := h4
      exact ⟨by simp [h5], by rw [List.all_cons, h7, h6]; rfl, by simp⟩
    · rintro ⟨h1, h2, rfl⟩
      cases xs with
      | nil => simp at h1
      | cons x ys =>
        rw [List.all_cons, Bool.and_eq_true] at h2
        refine ⟨x, ys.flatMap numRecord ++ l', (recordP_some _ _ _).2 ⟨h2.1, by simp⟩, ?_⟩
        rw [bindP_some]
        exact ⟨ys, l', (loopR_some n _ _ _).2 ⟨by simpa using h1, h2.2, rfl⟩, rfl⟩
theorem listR_some (l : List Int) (xs : List Record) (l' : List Int) : listP recordP l = some (xs, l') ↔ xs.all formedB = true ∧ l = numL numRecord xs ++ l' := by
  unfold listP numL
  rw [bindP_some]
  constructor
  · rintro ⟨n, l1, h1, h2⟩
    obtain ⟨h3, h4, rfl⟩ := (loopR_some _ _ _ _).1 h2
    unfold lenP at h1
    cases l with
    | nil => cases h1
    | cons m l =>
      dsimp only at h1
      split at h1
      · cases h1
      · simp only [Option.some.injEq, Prod.mk.injEq] at h1
        obtain ⟨h5, rfl⟩ := h1
        have : m = (xs.length : Int) := by omega
        rw [this]
        exact ⟨h4, rfl⟩
  · rintro ⟨h1, rfl⟩
    refine ⟨xs.length, xs.flatMap numRecord ++ l', ?_, (loopR_some _ _ _ _).2 ⟨rfl, h1, rfl⟩⟩
    have := flat_len (f := numRecord) (fun x => by simp [numRecord]) xs
    unfold lenP
    simp only [List.cons_append]
    rw [if_neg (by rw [List.length_append]; omega)]
    simp
theorem encRs_ne {xs : List Record} {bs : List UInt8} {er : Int} (h : encRs xs = (bs, er)) (he : er ≠ 0) : bs = [] := by
  unfold encRs at h
  split at h
  · exact encE_ne h he
  · simp only [Prod.mk.injEq] at h
    exact h.1.symm
theorem read_encRs {xs : List Record} {bs : List UInt8} (h : encRs xs = (bs, 0)) : readE (listP recordP) bs = (some xs, 0) := by
  unfold encRs at h
  split at h
  · rename_i hf
    obtain ⟨h1, h2, h3⟩ := encE_zero h
    have hd := decE_of h1 h2 h3
    unfold readE
    rw [hd, if_pos rfl]
    have h4 := (listR_some (numL numRecord xs) xs []).2 ⟨hf, by simp⟩
    dsimp only
    rw [h4]
  · simp at h
theorem parts_lenL (r : Record) : (numEvent r.event).length ≤ (numPart r true).length + (numPart r false).length ∧ (numBase r.base).length ≤ (numPart r true).length + (numPart r false).length ∧ (numEntry r.entry).length ≤ (numPart r true).length + (numPart r false).length := by
  unfold numPart
  simp only [List.length_append]
  refine ⟨?_, ?_, ?_⟩
  · by_cases h : r.kind = 0 <;> simp [h] <;> omega
  · by_cases h : r.kind = 1 <;> simp [h] <;> omega
  · by_cases h : r.kind = 3 <;> simp [h] <;> omega
theorem readE_neL {α : Type} {P : Ps α} {bs : List UInt8} (h : (readE P bs).2 ≠ 0) : (readE P bs).1 = none := by
  unfold readE at *
  split at h
  · rename_i h0
    rw [if_pos h0]
    split at h
    · exact absurd rfl h
    · rfl
  · rename_i h0
    rw [if_neg h0]
/-- what is known of records that were read -/
structure Read (xs : List Record) (er : Int) (bs : List UInt8) : Prop where
  short : ∀ x ∈ xs, ShortR x
  room1 : ∀ x ∈ xs, Room [] (numPart x false).length
  room : Room [] (numL numRecord xs).length
  enc : er = 0 → encRs xs = (bs, 0)
theorem readRs (bs : List UInt8) : Read ((readE (listP recordP) bs).1.getD []) (readE (listP recordP) bs).2 bs := by
  by_cases h : (readE (listP recordP) bs).2 = 0
  · obtain ⟨xs, l, h1, h2, h3, h4, h5⟩ := readE_zero (P := listP recordP) (bs := bs) (o := (readE (listP recordP) bs).1) (by rw [← h])
    rw [h1, Option.getD_some]
    obtain ⟨hf, h6⟩ := (listR_some _ _ _).1 h2
    rw [List.append_nil] at h6
    subst h6
    have h7 := enc_len (numL numRecord xs) h3
    have h8 : ∀ x ∈ xs, (numRecord x).length ≤ 65536 := fun x hx => by
      have := flat_mem_le numRecord xs x hx
      simp only [numL, List.length_cons] at h7
      omega
    have h9 : ∀ x ∈ xs, formedB x = true := List.all_eq_true.1 hf
    refine ⟨fun x hx => ?_, fun x hx => ?_, ?_, fun _ => ?_⟩
    · have a1 := h8 x hx
      have a2 := formed_small (h9 x hx)
      have a3 := parts_lenL x
      simp only [numRecord, List.length_cons] at a1
      unfold ShortR
      omega
    · have a2 := formed_small (h9 x hx)
      unfold Room
      simp
      omega
    · unfold Room
      simp
      omega
    · unfold encRs
      rw [if_pos hf]
      exact encE_of h3 h4 h5
  · rw [readE_neL h, Option.getD_none]
    exact ⟨by simp, by simp, by unfold Room; simp [numL], fun h0 => absurd h0 h⟩
theorem flat_bd {α : Type} (f : α → List Int) (B : Nat) : ∀ xs : List α, (∀ x ∈ xs, (f x).length ≤ B) → (xs.flatMap f).length ≤ xs.length * B
  | [], _ => by simp
  | x :: xs, h => by
    have h1 := h x (by simp)
    have h2 := flat_bd f B xs (fun y hy => h y (by simp [hy]))
    rw [List.flatMap_cons, List.length_append, List.length_cons, Nat.add_mul, Nat.one_mul]
    omega
theorem numRec_leL (x : Record) : (numRec x).length ≤ sizeRecord x + 1 := by
  unfold numRec
  split
  · have := part_le x true
    simp only [numRecord, List.length_cons]
    omega
  · simp
theorem sizes_ok {xs : List Record} (hl : xs.length ≤ 6) (h : ∀ x ∈ xs, sizeRecord x ≤ 210) : (∀ x ∈ xs, Room [] (numPart x false).length) ∧ Room [] (numL numRecord xs).length ∧ (numL numRec xs).length ≤ 100000 := by
  have h1 := flat_bd numRecord 220 xs (fun x hx => by
    have := part_le x true
    have := h x hx
    simp only [numRecord, List.length_cons]
    omega)
  have h2 := flat_bd numRec 220 xs (fun x hx => by
    have := numRec_leL x
    have := h x hx
    omega)
  refine ⟨fun x hx => ?_, ?_, ?_⟩
  · have := part_le x false
    have := h x hx
    unfold Room
    simp
    omega
  · unfold Room numL
    simp only [List.length_cons, List.length_nil]
    omega
  · unfold numL
    rw [List.length_cons]
    omega
set_option maxRecDepth 100000 in
set_option maxHeartbeats 16000000 in
theorem lists_walk (v : Value) (xs : List Record) (bs : List UInt8) (w : World) (hv : Records w v xs) (sx : ∀ x ∈ xs, ShortR x) : Calls Try.prog 6 #[v, strV bs] w fun e w' => e = .returned (.bool true) ∧ Kp w w' := by
  obtain ⟨A, c, rfl, hc, hm⟩ := hv.form
  have hsz : (⟨bs.toArray⟩ : ByteArray).size = bs.length := by simp [ByteArray.size]
  by_cases hlx : 6 < xs.length
  · have e1 : decide ((6 : Int) < (xs.length : Int)) = true := decide_eq_true (by omega)
    go_enter Try.func6, Try.ntmps6
    go_wp2_with fail
    refine (awake_any _).mono ?_
    rintro e w1 ⟨rfl, k1⟩
    go_wp2
    go_ret
    exact ⟨rfl, k1⟩
  have e1 : decide ((6 : Int) < (xs.length : Int)) = false := decide_eq_false (by omega)
  by_cases hlen : 600 < bs.length
  · have e2 : decide ((600 : Int) < (bs.length : Int)) = true := decide_eq_true (by omega)
    go_enter Try.func6, Try.ntmps6
    go_wp2_with fail
    refine (awake_any _).mono ?_
    rintro e w1 ⟨rfl, k1⟩
    go_wp2
    go_ret
    exact ⟨rfl, k1⟩
  have e2 : decide ((600 : Int) < (bs.length : Int)) = false := decide_eq_false (by omega)
  go_enter Try.func6, Try.ntmps6
  go_wp2_with fail
  refine (awake_any _).mono ?_
  rintro e w1 ⟨rfl, k1⟩
  go_wp2
  go_loopw [30] (fun i wr => ∃ k : Nat, k ≤ xs.length ∧ i = .int .i64 k ∧ Hid (∀ x ∈ xs.take k, sizeRecord x ≤ 210) ∧ Kp w wr) (fun i _ => xs.length - (intOf i).toNat)
  case atStart => exact ⟨0, Nat.zero_le _, rfl, hid (by simp), k1⟩
  case round =>
    clear k1 e1 e2
    obtain ⟨k, hk2, rfl, HB, hkr⟩ := hrel
    by_cases hlt : k < xs.length
    · obtain ⟨b, o, cs, rfl, hb, hcs, hq, hrd⟩ := (hv.keep rdRecord_stable hkr).at_ hlt
      have hrv := RecordV.of hrd
      have h1c := (rdRecord_one hrd).2
      have HH := hid (show wr.rangeAt b (o + k * 30) cs from fun j u hu => hq j u hu)
      have HI := hid (fun (Z : Array Value) (hZ : Z.size = 30) => there_new wr Z 46 cs.toArray.size (by rw [hZ]; simpa using hcs.symm))
      have HT := hid (take_snoc' xs k hlt)
      have sxk := sx xs[k] (List.getElem_mem hlt)
      have hp1 := sxk.past
      have hp2 := sxk.voters
      clear hrd hq sx hv
      generalize xs[k] = x at *
      obtain ⟨cs', aE, aB, aN, he, hca, la, lb, lc, va1, va2, va3⟩ := hrv.parts
      obtain rfl : cs = cs' := by
        injection he with he
        simpa using he
      replace hca := hid hca
      clear he
      have iE := info_len (t := 37) la (by kernel_rfl)
      have iB := info_len (t := 42) lb (by kernel_rfl)
      have iN := info_len (t := 44) lc (by kernel_rfl)
      have kq : Kp wr ((wr.alloc (.cells #[.int .i64 0, .int .i64 0, .int .i64 0, .int .i64 0, .slice none 0 0, .int .i64 0, .int .i64 0, .int .i64 0, .int .i64 0, .int .i64 0, .int .i64 0, .int .i64 0, .int .i64 0, .int .i64 0, .slice none 0 0, .int .i64 0, .slice none 0 0, .slice none 0 0, .slice none 0 0, .slice none 0 0, .slice none 0 0, .int .i64 0, .int .i64 0, .int .i64 0, .int .i64 0, .int .i64 0, .int .i64 0, .int .i64 0, .int .i64 0, .slice none 0 0] 46)).setCells wr.heap.size 0 cs) := Kp.setCells (Nat.le_refl _) cs 0 _ ((Kp.refl wr).alloc _)
      have rq : ((wr.alloc (.cells #[.int .i64 0, .int .i64 0, .int .i64 0, .int .i64 0, .slice none 0 0, .int .i64 0, .int .i64 0, .int .i64 0, .int .i64 0, .int .i64 0, .int .i64 0, .int .i64 0, .int .i64 0, .int .i64 0, .slice none 0 0, .int .i64 0, .slice none 0 0, .slice none 0 0, .slice none 0 0, .slice none 0 0, .slice none 0 0, .int .i64 0, .int .i64 0, .int .i64 0, .int .i64 0, .int .i64 0, .int .i64 0, .int .i64 0, .int .i64 0, .slice none 0 0] 46)).setCells wr.heap.size 0 cs).rangeAt wr.heap.size 0 cs := World.rangeAt_setCells_same _ _ _ _ (by simpa using HI.out _ rfl)
      go_wp2_with (first | (refine wpList_load_mid rfl 46 (.tmp 32) rfl b (o + k * 30) rfl cs _ HH.out Try.underlying46 rfl (by rw [hcs]; kernel_rfl) ?_) | (refine wpList_store_mid rfl 46 (.tmp 6) (.tmp 33) rfl wr.heap.size 0 cs.toArray rfl rfl (HI.out _ rfl) (by rw [List.size_toArray, hcs]; kernel_rfl) (all_oneCell_toArray h1c) ?_; generalize (wr.alloc (.cells #[.int .i64 0, .int .i64 0, .int .i64 0, .int .i64 0, .slice none 0 0, .int .i64 0, .int .i64 0, .int .i64 0, .int .i64 0, .int .i64 0, .int .i64 0, .int .i64 0, .int .i64 0, .int .i64 0, .slice none 0 0, .int .i64 0, .slice none 0 0, .slice none 0 0, .slice none 0 0, .slice none 0 0, .slice none 0 0, .int .i64 0, .int .i64 0, .int .i64 0, .int .i64 0, .int .i64 0, .int .i64 0, .int .i64 0, .int .i64 0, .slice none 0 0] 46)).setCells wr.heap.size 0 cs = w0 at *))
      generalize wr.heap.size = b0 at *
      have hp := rq
      rw [hca.out] at hp
      replace hp := hid (box_parts la lb hp)
      have xa1 := va1.kp kq
      have xa2 := va2.kp kq
      have xa3 := va3.kp kq
      clear HH HI va1 va2 va3 hrv rq
      obtain ⟨s1, s2, s3⟩ := sxk
      have eS1 : IntKind.i64.wrap (((numEvent x.event).length : Int) + ((numBase x.base).length : Int)) = ((numEvent x.event).length : Int) + ((numBase x.base).length : Int) := IntWalk.i64_in _ (by omega)
      have eS2 : IntKind.i64.wrap (((numEvent x.event).length : Int) + ((numBase x.base).length : Int) + ((numEntry x.entry).length : Int)) = ((numEvent x.event).length : Int) + ((numBase x.base).length : Int) + ((numEntry x.entry).length : Int) := IntWalk.i64_in _ (by omega)
      have hS : ∀ W, Kp w0 W → (W.rangeAt b0 1 aE ∧ W.rangeAt b0 14 aB ∧ W.rangeAt b0 24 aN ∧ Kp w0 W) := fun W hk => ⟨hk.range hp.out.2.2.2.2.1, hk.range hp.out.2.2.2.2.2.1, hk.range hp.out.2.2.2.2.2.2, hk⟩
      refine wp_region_held_drew (S := fun W => W.rangeAt b0 1 aE ∧ W.rangeAt b0 14 aB ∧ W.rangeAt b0 24 aN ∧ Kp w0 W) (by kernel_rfl) (hS _ (Kp.refl _).drew) (fun hHeld => ?_)
      refine take_at 0 34 (v := ?_) rfl rfl (by kernel_rfl) (by kernel_rfl) (by kernel_rfl) (fun _ _ _ h => h) hHeld (Or.inl ⟨by kernel_rfl, ?_⟩) ?_
      rotate_left
      · intro w hSw; (try dsimp only at hSw); go_simp; try with_reducible rfl
      simp only [Act.put, List.setIfInBounds_toArray, List.set_cons_zero, List.set_cons_succ]
      refine take_at 1 35 (v := _) rfl rfl (by kernel_rfl) (by kernel_rfl) (by kernel_rfl) (fun _ _ _ h => h) hHeld (yieldsIf_load_mid (by kernel_rfl) 37 _ rfl _ 1 rfl aE _ (fun _ h => h.1) Try.underlying37 rfl (by assumption)) ?_
      simp only [Act.put, List.setIfInBounds_toArray, List.set_cons_zero, List.set_cons_succ]
      refine take_at 4 38 (v := ?_) rfl rfl (by kernel_rfl) (by kernel_rfl) (by kernel_rfl) (fun _ _ _ h => h) hHeld (Or.inl ⟨by kernel_rfl, ?_⟩) ?_
      rotate_left
      · intro w hSw; (try dsimp only at hSw); go_simp; try with_reducible rfl
      simp only [Act.put, List.setIfInBounds_toArray, List.set_cons_zero, List.set_cons_succ]
      refine take_at 5 39 (v := _) rfl rfl (by kernel_rfl) (by kernel_rfl) (by kernel_rfl) (fun _ _ _ h => h) hHeld (yieldsIf_load_mid (by kernel_rfl) 42 _ rfl _ 14 rfl aB _ (fun _ h => h.2.1) Try.underlying42 rfl (by assumption)) ?_
      simp only [Act.put, List.setIfInBounds_toArray, List.set_cons_zero, List.set_cons_succ]
      refine take_at 9 43 (v := ?_) rfl rfl (by kernel_rfl) (by kernel_rfl) (by kernel_rfl) (fun _ _ _ h => h) hHeld (Or.inl ⟨by kernel_rfl, ?_⟩) ?_
      rotate_left
      · intro w hSw; (try dsimp only at hSw); go_simp; try with_reducible rfl
      simp only [Act.put, List.setIfInBounds_toArray, List.set_cons_zero, List.set_cons_succ]
      refine take_at 10 44 (v := _) rfl rfl (by kernel_rfl) (by kernel_rfl) (by kernel_rfl) (fun _ _ _ h => h) hHeld (yieldsIf_load_mid (by kernel_rfl) 44 _ rfl _ 24 rfl aN _ (fun _ h => h.2.2.1) Try.underlying44 rfl (by assumption)) ?_
      simp only [Act.put, List.setIfInBounds_toArray, List.set_cons_zero, List.set_cons_succ]
      refine wpAnyH_ready (rs := [2]) (by kernel_rfl) (by simp) ?_
      refine AllReadyH.cons (o := _) rfl (fun K hK => ?_) AllReadyH.nil
      go_simp
      refine (nEvent_any _ x.event _ (xa1.kp hHeld.2.2.2) hp1).mono ?_
      rintro e wq2 ⟨vq2, rfl, own2, h2⟩
      obtain ⟨D2, z2, rfl, zz2, zf2⟩ := own2.form
      refine hK.out _ _ (hS _ (hHeld.2.2.2.trans h2)) (fun hHeld2 => ?_)
      clear hK K hHeld
      have hHeld := hHeld2
      clear hHeld2
      clear own2 h2
      refine take_at 3 37 (v := ?_) rfl rfl (by kernel_rfl) (by kernel_rfl) (by kernel_rfl) (fun _ _ _ h => h) hHeld (Or.inl ⟨by kernel_rfl, ?_⟩) ?_
      rotate_left
      · intro w hSw; (try dsimp only at hSw); go_simp; try with_reducible rfl
      simp only [Act.put, List.setIfInBounds_toArray, List.set_cons_zero, List.set_cons_succ]
      refine wpAnyH_ready (rs := [6]) (by kernel_rfl) (by simp) ?_
      refine AllReadyH.cons (o := _) rfl (fun K hK => ?_) AllReadyH.nil
      go_simp
      refine (nBase_any _ x.base _ (xa2.kp hHeld.2.2.2) s2).mono ?_
      rintro e wq3 ⟨vq3, rfl, own3, h3⟩
      obtain ⟨D3, z3, rfl, zz3, zf3⟩ := own3.form
      refine hK.out _ _ (hS _ (hHeld.2.2.2.trans h3)) (fun hHeld2 => ?_)
      clear hK K hHeld
      have hHeld := hHeld2
      clear hHeld2
      clear own3 h3
      refine take_at 7 41 (v := ?_) rfl rfl (by kernel_rfl) (by kernel_rfl) (by kernel_rfl) (fun _ _ _ h => h) hHeld (Or.inl ⟨by kernel_rfl, ?_⟩) ?_
      rotate_left
      · intro w hSw; (try dsimp only at hSw); go_simp; try with_reducible rfl
      simp only [Act.put, List.setIfInBounds_toArray, List.set_cons_zero, List.set_cons_succ]
      refine take_at 8 42 (v := ?_) rfl rfl (by kernel_rfl) (by kernel_rfl) (by kernel_rfl) (fun _ _ _ h => h) hHeld (Or.inl ⟨by kernel_rfl, ?_⟩) ?_
      rotate_left
      · intro w hSw; (try dsimp only at hSw); go_simp; try with_reducible rfl
      simp only [Act.put, List.setIfInBounds_toArray, List.set_cons_zero, List.set_cons_succ]
      refine wpAnyH_ready (rs := [11]) (by kernel_rfl) (by simp) ?_
      refine AllReadyH.cons (o := _) rfl (fun K hK => ?_) AllReadyH.nil
      go_simp
      refine (nEntry_any _ x.entry _ (xa3.kp hHeld.2.2.2) hp2).mono ?_
      rintro e wq4 ⟨vq4, rfl, own4, h4⟩
      obtain ⟨D4, z4, rfl, zz4, zf4⟩ := own4.form
      refine hK.out _ _ (hS _ (hHeld.2.2.2.trans h4)) (fun hHeld2 => ?_)
      clear hK K hHeld
      have hHeld := hHeld2
      clear hHeld2
      clear own4 h4
      refine take_at 12 46 (v := ?_) rfl rfl (by kernel_rfl) (by kernel_rfl) (by kernel_rfl) (fun _ _ _ h => h) hHeld (Or.inl ⟨by kernel_rfl, ?_⟩) ?_
      rotate_left
      · intro w hSw; (try dsimp only at hSw); go_simp; try with_reducible rfl
      simp only [Act.put, List.setIfInBounds_toArray, List.set_cons_zero, List.set_cons_succ]
      refine take_at 13 47 (v := ?_) rfl rfl (by kernel_rfl) (by kernel_rfl) (by kernel_rfl) (fun _ _ _ h => h) hHeld (Or.inl ⟨by kernel_rfl, ?_⟩) ?_
      rotate_left
      · intro w hSw; (try dsimp only at hSw); go_simp; try with_reducible rfl
      simp only [Act.put, List.setIfInBounds_toArray, List.set_cons_zero, List.set_cons_succ]
      refine take_at 14 48 (v := ?_) rfl rfl (by kernel_rfl) (by kernel_rfl) (by kernel_rfl) (fun _ _ _ h => h) hHeld (Or.inl ⟨by kernel_rfl, ?_⟩) ?_
      rotate_left
      · intro w hSw; (try dsimp only at hSw); go_simp; try with_reducible rfl
      simp only [Act.put, List.setIfInBounds_toArray, List.set_cons_zero, List.set_cons_succ]
      refine wpAnyH_done (by kernel_rfl) ?_ _
      have k9 := hkr.trans (kq.trans hHeld.2.2.2)
      clear hHeld hS
      by_cases hbig : 200 < (numEvent x.event).length + (numBase x.base).length + (numEntry x.entry).length
      · have f1 : decide ((200 : Int) < ((numEvent x.event).length : Int) + ((numBase x.base).length : Int) + ((numEntry x.entry).length : Int)) = true := decide_eq_true (by omega)
        go_wp2
        go_ret
        exact ⟨rfl, k9⟩
      · have f1 : decide ((200 : Int) < ((numEvent x.event).length : Int) + ((numBase x.base).length : Int) + ((numEntry x.entry).length : Int)) = false := decide_eq_false (by omega)
        have HB2 : Hid (∀ x ∈ xs.take (k + 1), sizeRecord x ≤ 210) := hid (by
          rw [HT.out]
          intro y hy
          rcases List.mem_append.1 hy with hy | hy
          · exact HB.out y hy
          · obtain rfl : y = x := by simpa using hy
            unfold sizeRecord
            omega)
        go_wp2
        go_roundw
        case rel => exact ⟨k + 1, by omega, by go_num, HB2, k9⟩
        case measure => simp [intOf]; omega
    · have HZ : Hid ((∀ x ∈ xs, Room [] (numPart x false).length) ∧ Room [] (numL numRecord xs).length ∧ (numL numRec xs).length ≤ 100000) := hid (sizes_ok (by omega) (by
        have := HB.out
        rwa [List.take_of_length_le (by omega)] at this))
      have HX := readRs bs
      clear HB
      go_wp2_with fail
      refine (EncodeRecords_any _ xs _ (hv.keep rdRecord_stable hkr) HZ.out.1 HZ.out.2.1).mono ?_
      rintro e w4 ⟨rfl, k4⟩
      replace k4 := hkr.trans k4
      generalize he : encRs xs = r at *
      have HE := hid he
      clear he hkr
      obtain ⟨ab, er⟩ := r
      go_wp2_with fail
      refine (nEncodeRecords_any _ xs _ (hv.keep rdRecord_stable k4) sx HZ.out.2.2).mono ?_
      rintro e w6 ⟨rfl, k6⟩
      replace k6 := k4.trans k6
      rw [HE.out]
      clear k4
      go_wp2_with fail
      refine (DecodeRecords_any bs w6).mono ?_
      rintro e w7 ⟨v7, rfl, ho7, k7⟩
      replace k7 := k6.trans k7
      have s7 := ho7.here
      clear k6 ho7
      go_wp2_with fail
      generalize hxx : (readE (listP recordP) bs).1.getD [] = X at *
      generalize hyy : (readE (listP recordP) bs).2 = dr at *
      replace hxx := hid hxx
      replace hyy := hid hyy
      obtain ⟨A7, c7, rfl, hc7, hm7⟩ := s7.form
      refine (rDecodeRecords_any bs w7).mono ?_
      rintro e w8 ⟨v8, rfl, ho8, k8⟩
      have s8 := ho8.here
      replace s7 := s7.keep rdRecord_stable k8
      replace k8 := k7.trans k8
      clear k7 ho8
      rw [hxx.out] at s8
      rw [hyy.out]
      obtain ⟨A8, c8, rfl, hc8, hm8⟩ := s8.form
      go_wp2_with fail
      refine (SameRecords_any _ _ X X w8 s7 s8 HX.short HX.short).mono ?_
      rintro e w9 ⟨rfl, k9⟩
      rw [sameRs_self]
      replace s7 := s7.keep rdRecord_stable k9
      replace k9 := k8.trans k9
      clear s8 k8
      by_cases hdr : dr = 0
      · have HC := hid (HX.enc hdr)
        have d1 : (dr == 0) = true := by simpa using hdr
        clear hdr
        go_wp2_with fail
        refine (EncodeRecords_any _ X _ s7 HX.room1 HX.room).mono ?_
        rintro e wz ⟨rfl, kz⟩
        replace kz := k9.trans kz
        rw [HC.out]
        clear k9 d1 s7
        by_cases h0 : er = 0
        · subst h0
          have HB := hid (read_encRs HE.out)
          go_wp2_with fail
          refine (DecodeRecords_any ab wz).mono ?_
          rintro e wy ⟨vy, rfl, ho, ky⟩
          rw [HB.out] at ho ⊢
          dsimp only [Option.getD_some] at ho ⊢
          have sy := ho.here
          obtain ⟨Ay, cy, rfl, hcy, hmy⟩ := sy.form
          replace ky := kz.trans ky
          clear ho kz
          go_wp2_with fail
          refine (SameRecords_any _ _ xs xs _ sy (hv.keep rdRecord_stable ky) sx sx).mono ?_
          rintro e wx ⟨rfl, kx⟩
          rw [sameRs_self]
          go_wp2
          go_ret
          exact ⟨rfl, ky.trans kx⟩
        · have e3 : (er != 0) = true := by simpa using h0
          obtain rfl := encRs_ne HE.out h0
          go_wp2
          go_ret
          exact ⟨rfl, kz⟩
      · have d1 : (dr == 0) = false := by simpa using hdr
        have kz := k9
        clear hdr k9 s7
        generalize w9 = wz at *
        by_cases h0 : er = 0
        · subst h0
          have HB := hid (read_encRs HE.out)
          go_wp2_with fail
          refine (DecodeRecords_any ab wz).mono ?_
          rintro e wy ⟨vy, rfl, ho, ky⟩
          rw [HB.out] at ho ⊢
          dsimp only [Option.getD_some] at ho ⊢
          have sy := ho.here
          obtain ⟨Ay, cy, rfl, hcy, hmy⟩ := sy.form
          replace ky := kz.trans ky
          clear ho kz
          go_wp2_with fail
          refine (SameRecords_any _ _ xs xs _ sy (hv.keep rdRecord_stable ky) sx sx).mono ?_
          rintro e wx ⟨rfl, kx⟩
          rw [sameRs_self]
          go_wp2
          go_ret
          exact ⟨rfl, ky.trans kx⟩
        · have e3 : (er != 0) = true := by simpa using h0
          obtain rfl := encRs_ne HE.out h0
          go_wp2
          go_ret
          exact ⟨rfl, kz⟩
end Go.Proofs.Ytmeafoakbkjifaa
