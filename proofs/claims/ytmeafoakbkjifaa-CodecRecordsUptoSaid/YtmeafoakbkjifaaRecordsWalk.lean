
/-
Records: what the code writes is what the reference writes, and reading it gives the record: the walk.
-/
import Derived.Test.YtmeafoakbkjifaaNC
namespace Go.Proofs.Ytmeafoakbkjifaa
set_option linter.unusedSimpArgs false
set_option linter.unusedVariables false
open Go.RowKit

theorem sameR_self (x : Record) : sameR x x = true := by simp [sameR]
theorem numRec_le (x : Record) : (numRec x).length ≤ sizeRecord x + 1 := by
  unfold numRec
  split
  · have := part_le x true
    simp only [numRecord, List.length_cons]
    omega
  · simp
theorem numRecord_le (x : Record) : (numRecord x).length ≤ sizeRecord x + 1 := by
  have := part_le x true
  simp only [numRecord, List.length_cons]
  omega
set_option maxRecDepth 100000 in
set_option maxHeartbeats 8000000 in
theorem records_walk (va : Value) (x : Record) (w : World) (hx : RecordV w va x) (sx : ShortR x) : Calls Try.prog 4 #[va] w fun e w' => e = .returned (.bool true) ∧ Kp w w' := by
  have hpx := sx.past
  have hvx := sx.voters
  obtain ⟨ca, aE, aB, aN, rfl, hca, la, lb, lc, va1, va2, va3⟩ := hx.parts
  replace hca := hid hca
  have kk := (Kp.refl w).alloc (.cells ca.toArray 46)
  have r0 := range_box w ca 46
  have hx0 := hx.kp kk
  have xa1 := va1.kp kk
  have xa2 := va2.kp kk
  have xa3 := va3.kp kk
  have iE := info_len (t := 37) la (by kernel_rfl)
  have iB := info_len (t := 42) lb (by kernel_rfl)
  have iN := info_len (t := 44) lc (by kernel_rfl)
  have iR : (Try.prog.info? 46).map (·.size) = some ca.length := by rw [hca.out]; simp only [List.length_cons, List.length_append, la, lb, lc]; kernel_rfl
  clear hx va1 va2 va3
  go_enter Try.func4, Try.ntmps4
  go_wp2_with fail
  generalize w.alloc (.cells ca.toArray 46) = w0 at *
  generalize w.heap.size = b at *
  have hp := r0
  rw [hca.out] at hp
  replace hp := hid (box_parts la lb hp)
  refine (awake_any _).mono ?_
  rintro e w1 ⟨rfl, k1⟩
  have r1 := k1.range hp.out.2.2.2.2.1
  go_wp2_with (refine wpList_load_mid rfl 37 (.tmp 10) rfl b 1 rfl aE _ r1 Try.underlying37 rfl iE ?_)
  refine (nEvent_any _ x.event _ (xa1.kp k1) hpx).mono ?_
  rintro e w2 ⟨v2, rfl, own2, k2⟩
  have s2 := own2.sl encInt_len
  obtain ⟨A2, c2, rfl, hc2, hm2⟩ := own2.form
  replace k2 := k1.trans k2
  go_wp2_with fail
  refine (Small_any _ (numEvent x.event) _ s2).mono ?_
  rintro e w3 ⟨rfl, k3⟩
  replace k3 := k2.trans k3
  have q3 := k3.range hp.out.2.2.2.2.2.1
  clear own2 s2 r1 k1 k2
  by_cases h6 : (numEvent x.event).length ≤ 600
  · rw [decide_eq_true h6]
    go_wp2_with (refine wpList_load_mid_g (by kernel_rfl) 42 (.tmp 16) rfl b 14 rfl aB _ q3 Try.underlying42 rfl iB ?_)
    refine (nBase_any _ x.base _ (xa2.kp k3) sx.2.1).mono ?_
    rintro e w2 ⟨v2, rfl, own2, k2⟩
    have s2 := own2.sl encInt_len
    obtain ⟨A2, c2, rfl, hc2, hm2⟩ := own2.form
    replace k2 := k3.trans k2
    clear k3 q3
    go_wp2_with fail
    refine (Small_any _ (numBase x.base) _ s2).mono ?_
    rintro e w3 ⟨rfl, k3⟩
    replace k3 := k2.trans k3
    have q3 := k3.range hp.out.2.2.2.2.2.2
    clear own2 s2 k2
    by_cases h7 : (numBase x.base).length ≤ 600
    · rw [decide_eq_true h7]
      go_wp2_with (refine wpList_load_mid_g (by kernel_rfl) 44 (.tmp 23) rfl b 24 rfl aN _ q3 Try.underlying44 rfl iN ?_)
      refine (nEntry_any _ x.entry _ (xa3.kp k3) hvx).mono ?_
      rintro e w2 ⟨v2, rfl, own2, k2⟩
      have s2 := own2.sl encInt_len
      obtain ⟨A2, c2, rfl, hc2, hm2⟩ := own2.form
      replace k2 := k3.trans k2
      clear k3 q3
      go_wp2_with fail
      refine (Small_any _ (numEntry x.entry) _ s2).mono ?_
      rintro e w3 ⟨rfl, k3⟩
      replace k3 := k2.trans k3
      have r3 := k3.range r0
      clear own2 s2 k2
      by_cases h8 : (numEntry x.entry).length ≤ 600
      · have hsize : sizeRecord x ≤ 1810 := by unfold sizeRecord; omega
        have HS := hid hsize
        clear hsize
        rw [decide_eq_true h8]
        go_wp2_with (refine wpList_load_mid rfl 46 (.tmp 1) rfl b 0 rfl ca _ r3 Try.underlying46 rfl iR ?_)
        refine (EncodeRecord_any _ x _ (hx0.kp k3) (by have := HS.out; have := part_le x false; unfold Room; simp; omega) (by have := HS.out; have := numRecord_le x; unfold Room; simp; omega)).mono ?_
        rintro e w4 ⟨rfl, k4⟩
        replace k4 := k3.trans k4
        have r4 := k4.range r0
        generalize he : encR x = r at *
        have HE := hid he
        clear he r3 k3
        obtain ⟨ab, er⟩ := r
        go_wp2_with (refine wpList_load_mid rfl 46 (.tmp 1) rfl b 0 rfl ca _ r4 Try.underlying46 rfl iR ?_)
        refine (nEncodeRecord_any _ x _ (hx0.kp k4) sx (by have := HS.out; have := numRec_le x; omega)).mono ?_
        rintro e w6 ⟨rfl, k6⟩
        replace k6 := k4.trans k6
        have r6 := k6.range r0
        rw [HE.out]
        clear k4 r4
        by_cases h0 : er = 0
        · subst h0
          have HB := hid (read_encR HE.out)
          go_wp2_with fail
          refine (decodeRecord ab w6).mono ?_
          rintro e w7 ⟨v7, rfl, ho, k7⟩
          rw [HB.out] at ho ⊢
          dsimp only [Option.getD_some] at ho ⊢
          have hv7 := RecordV.va ho.here
          obtain ⟨cm, rfl, hrd⟩ := ho.here
          obtain ⟨hl7, h17⟩ := rdRecord_one hrd
          clear hrd
          replace k7 := k6.trans k7
          have r7 := k7.range r0
          clear ho k6 r6
          have hth := there_new w7 #[.int .i64 0, .int .i64 0, .int .i64 0, .int .i64 0, .slice none 0 0, .int .i64 0, .int .i64 0, .int .i64 0, .int .i64 0, .int .i64 0, .int .i64 0, .int .i64 0, .int .i64 0, .int .i64 0, .slice none 0 0, .int .i64 0, .slice none 0 0, .slice none 0 0, .slice none 0 0, .slice none 0 0, .slice none 0 0, .int .i64 0, .int .i64 0, .int .i64 0, .int .i64 0, .int .i64 0, .int .i64 0, .int .i64 0, .int .i64 0, .slice none 0 0] 46 cm.length (by rw [hl7]; rfl)
          have hin : (Try.prog.info? 46).map (·.size) = some cm.length := by rw [hl7]; kernel_rfl
          have hB := (Bx.new w7 #[.int .i64 0, .int .i64 0, .int .i64 0, .int .i64 0, .slice none 0 0, .int .i64 0, .int .i64 0, .int .i64 0, .int .i64 0, .int .i64 0, .int .i64 0, .int .i64 0, .int .i64 0, .int .i64 0, .slice none 0 0, .int .i64 0, .slice none 0 0, .slice none 0 0, .slice none 0 0, .slice none 0 0, .slice none 0 0, .int .i64 0, .int .i64 0, .int .i64 0, .int .i64 0, .int .i64 0, .int .i64 0, .int .i64 0, .int .i64 0, .slice none 0 0] 46).all (cs := cm) (by rw [hl7]; rfl)
          have k8 : Kp w7 ((w7.alloc (.cells #[.int .i64 0, .int .i64 0, .int .i64 0, .int .i64 0, .slice none 0 0, .int .i64 0, .int .i64 0, .int .i64 0, .int .i64 0, .int .i64 0, .int .i64 0, .int .i64 0, .int .i64 0, .int .i64 0, .slice none 0 0, .int .i64 0, .slice none 0 0, .slice none 0 0, .slice none 0 0, .slice none 0 0, .slice none 0 0, .int .i64 0, .int .i64 0, .int .i64 0, .int .i64 0, .int .i64 0, .int .i64 0, .int .i64 0, .int .i64 0, .slice none 0 0] 46)).setCells w7.heap.size 0 cm) := Kp.setCells (Nat.le_refl _) cm 0 _ ((Kp.refl w7).alloc _)
          have hv8 := hv7.kp k8
          have r8 := k8.range r7
          replace k8 := k7.trans k8
          go_wp2_with (first | (refine wpList_store_mid rfl 46 (.tmp 7) (.tmp 54) rfl w7.heap.size 0 cm.toArray rfl rfl hth hin (all_oneCell_toArray h17) ?_; generalize (w7.alloc (.cells #[.int .i64 0, .int .i64 0, .int .i64 0, .int .i64 0, .slice none 0 0, .int .i64 0, .int .i64 0, .int .i64 0, .int .i64 0, .int .i64 0, .int .i64 0, .int .i64 0, .int .i64 0, .int .i64 0, .slice none 0 0, .int .i64 0, .slice none 0 0, .slice none 0 0, .slice none 0 0, .slice none 0 0, .slice none 0 0, .int .i64 0, .int .i64 0, .int .i64 0, .int .i64 0, .int .i64 0, .int .i64 0, .int .i64 0, .int .i64 0, .slice none 0 0] 46)).setCells w7.heap.size 0 cm = w8 at *) | (refine wpList_load_mid_g (by kernel_rfl) 46 (.tmp 7) rfl w7.heap.size 0 rfl cm _ hB.range Try.underlying46 rfl hin ?_) | (refine wpList_load_mid_g (by kernel_rfl) 46 (.tmp 1) rfl b 0 rfl ca _ r8 Try.underlying46 rfl iR ?_))
          refine (SameRecord_any _ _ x x _ hv8 (hx0.kp k8) sx sx).mono ?_
          rintro e w9 ⟨rfl, k9⟩
          rw [sameR_self]
          go_wp2
          go_ret
          exact ⟨rfl, kk.trans (k8.trans k9)⟩
        · have e3 : (er != 0) = true := by simpa using h0
          obtain rfl := encR_ne HE.out h0
          go_wp2
          go_ret
          exact ⟨rfl, kk.trans k6⟩
      · rw [decide_eq_false h8]
        go_wp2
        go_ret
        exact ⟨rfl, kk.trans k3⟩
    · rw [decide_eq_false h7]
      go_wp2
      go_ret
      exact ⟨rfl, kk.trans k3⟩
  · rw [decide_eq_false h6]
    go_wp2
    go_ret
    exact ⟨rfl, kk.trans k3⟩
end Go.Proofs.Ytmeafoakbkjifaa
