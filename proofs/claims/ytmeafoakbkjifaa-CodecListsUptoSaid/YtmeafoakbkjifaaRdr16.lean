
/-
A list of records read from bytes.
-/
import Derived.Test.YtmeafoakbkjifaaCodD4
namespace Go.Proofs.Ytmeafoakbkjifaa
set_option linter.unusedSimpArgs false
set_option linter.unusedVariables false
open Go.RowKit

abbrev Recs : World → Value → List Record → Prop := Sl rdRecord 30
set_option maxRecDepth 8000 in
set_option maxHeartbeats 4000000 in
theorem readRecords_any (P : Ps (List Record)) (F : FuncId) (bs : List UInt8) (w : World) (hR : Real Try.prog F)
    (hF : ∀ W0 g l bad w, Rdr W0 w g l bad → Reads W0 g P Recs l bad F #[.pointer (some ⟨g, 0, none⟩)] w) :
    Calls Try.prog 65 #[strV bs, .func (.func F) #[] #[]] w (DecEnd Recs [] (readE P bs) w) := by
  have HC := hid hF
  clear hF
  have hcf := fun args w => hR.run args w
  go_enter Try.func65, Try.ntmps65
  go_wp2_with fail
  refine (Decode_any bs _).mono ?_
  rintro e w1 ⟨v, rfl, own, k1⟩
  generalize hd : decE bs = d at *
  have HD := hid hd
  clear hd
  obtain ⟨l, er⟩ := d
  dsimp only at own ⊢
  obtain ⟨A, c, rfl, hcc, hmm⟩ := own.form
  by_cases he : er = 0
  · subst he
    have hint := own.sl encInt_len
    have hlen := enc_len_le bs l HD.out
    have k2 := (Kp.refl w1).alloc (.cells #[.slice A l.length c, .bool false] 140)
    have hrd : Rdr w1 (w1.alloc (.cells #[.slice A l.length c, .bool false] 140)) w1.heap.size l false :=
      ⟨k2, Nat.le_refl _, by omega, _, hint, alloc_cell w1 _ _ 0 rfl, alloc_frozen w1 _ _ 0, alloc_cell w1 _ _ 1 rfl, alloc_frozen w1 _ _ 1⟩
    have hs2 : (w1.alloc (.cells #[.slice A l.length c, .bool false] 140)).heap.size = w1.heap.size + 1 := by simp
    clear own hint
    go_wp2_with fail
    refine (HC.out w1 w1.heap.size l false _ hrd).mono ?_
    rintro e w3 ⟨v3, x, l3, b3, rfl, ho, hsp, hr3, hk3⟩
    obtain ⟨A4, c4, rfl, hc4, hm4⟩ := ho.here.form
    rw [hs2] at ho
    have hsz3 := hk3.size
    rw [hs2] at hsz3
    have kw3 : Kp w w3 := k1.trans hr3.kp
    have hfin : Ow w.heap.size w3.heap.size w3 fun w2 => Recs w2 (.slice A4 x.length c4) x := ho.wide (by have := k1.size; omega) (Nat.le_refl _)
    obtain ⟨vr, hir, g1, g2, g3, g4⟩ := hr3.cells
    obtain ⟨A3, c3, rfl, hc3, hm3⟩ := hir.form
    have hlt := hr3.lt
    clear ho hk3 hrd k2 hir
    by_cases hbl : b3 = true ∨ 0 < l3.length
    · have HN : Hid (readE P bs = (none, 13)) := hid (readE_bad HD.out hsp hbl)
      have hbx : b3 = true ∨ (b3 = false ∧ decide (0 < l3.length) = true) := by
        cases b3 with
        | true => exact .inl rfl
        | false =>
          rcases hbl with h | h
          · cases h
          · exact .inr ⟨rfl, decide_eq_true h⟩
      clear hbl hsp
      rcases hbx with rfl | ⟨rfl, hlx⟩
      all_goals
        go_wp2
        go_ret2
        exact ⟨_, by rw [HN.out]; rfl, by rw [HN.out]; exact fun _ _ _ => Sl.nil _ _ _, kw3⟩
    · obtain rfl : b3 = false := by
        cases b3 with
        | false => rfl
        | true => exact absurd (.inl rfl) hbl
      obtain rfl : l3 = [] := by
        cases l3 with
        | nil => rfl
        | cons _ _ => exact absurd (.inr (by simp)) hbl
      have HN : Hid (readE P bs = (some x, 0)) := hid (readE_ok HD.out hsp)
      clear hbl hsp
      simp only [List.length_nil] at *
      go_wp2
      go_ret2
      exact ⟨_, by rw [HN.out]; rfl, by rw [HN.out]; exact hfin, kw3⟩
  · have HN : Hid (readE P bs = (none, er)) := hid (readE_err P HD.out he)
    have eb : (er != 0) = true := by simpa using he
    clear HC
    go_wp2
    go_ret2
    exact ⟨_, by rw [HN.out]; rfl, by rw [HN.out]; exact fun _ _ _ => Sl.nil _ _ _, k1⟩
theorem DecodeRecords1_any (W0 : World) (g : Nat) (l : List Int) (bad : Bool) (w : World) (hr : Rdr W0 w g l bad) : Reads W0 g (listP recordP) Recs l bad 66 #[.pointer (some ⟨g, 0, none⟩)] w := by
  go_enter Try.func66, Try.ntmps66
  go_wp2_with fail
  refine (elemRecord_any W0 g l bad recordP 54 [.pointer (some ⟨g, 0, none⟩)] [] w hr rdRecord_real (fun w' l' bad' _ hr' => rdRecord_any W0 g l' bad' w' hr')).mono ?_
  rintro e w1 ⟨v, x, l1, b1, rfl, ho, hs, hr1, hk1⟩
  obtain ⟨A4, c4, rfl, hc4, hm4⟩ := ho.here.form
  go_wp2
  go_ret
  exact ⟨_, x, l1, b1, rfl, ho, hs, hr1, hk1⟩
theorem DecodeRecords1_real : Real Try.prog 66 := ⟨_, Try.func66, by kernel_rfl, by kernel_rfl⟩
theorem DecodeRecords_any (bs : List UInt8) (w : World) : Calls Try.prog 31 #[strV bs] w (DecEnd Recs [] (readE (listP recordP) bs) w) := by
  go_enter Try.func31, Try.ntmps31
  go_wp2_with fail
  refine (readRecords_any (listP recordP) 66 bs w DecodeRecords1_real DecodeRecords1_any).mono ?_
  rintro e w1 ⟨v, rfl, ho, k1⟩
  obtain ⟨A4, c4, rfl, hc4, hm4⟩ := ho.here.form
  generalize readE (listP recordP) bs = r at *
  obtain ⟨rx, re⟩ := r
  dsimp only at *
  go_wp2
  go_ret2
  exact ⟨_, rfl, ho, k1⟩
end Go.Proofs.Ytmeafoakbkjifaa
