
/-
What is answered when a list of records is written.
-/
import Derived.Test.YtmeafoakbkjifaaCodB3
namespace Go.Proofs.Ytmeafoakbkjifaa
set_option linter.unusedSimpArgs false
set_option linter.unusedVariables false
open Go.RowKit

/-- what is answered when a list of records is written -/
def encRs (xs : List Record) : List UInt8 × Int := if xs.all formedB then encE (numL numRecord xs) else ([], 1)
set_option maxHeartbeats 400000 in
theorem EncodeRecords1_any (W0 : World) (g b : Nat) (l : List Int) (v : Value) (xs : List Record) (w : World) (hk : Kp W0 w) (hw : Wr W0.heap.size w g l) (hv : Records W0 v xs) (hroom : Room l (numL numRecord xs).length) (hc : w.cell? ⟨b, 0, none⟩ = some v) :
    Writes W0 g l (numL numRecord xs) 63 #[.pointer (some ⟨g, 0, none⟩), .pointer (some ⟨b, 0, none⟩)] w := by
  have hb := block_lt_of_cell hc
  obtain ⟨A, c, rfl, h1, h2⟩ := hv.form
  go_enter Try.func63, Try.ntmps63
  go_wp2_with fail
  refine (listRecord_any W0 g l numRecord 51 [.pointer (some ⟨g, 0, none⟩)] [] _ xs w hk hw hv hroom wRecord_real (fun w' l' val x hx h1 _ h2 h3 => wRecord_any W0 g l' val x w' h1 h2 hx h3)).mono ?_
  rintro e w1 ⟨rfl, hw1, hx1⟩
  go_wp2
  go_end0
  exact ⟨rfl, hw1, hx1⟩
theorem EncodeRecords1_real : Real Try.prog 63 := ⟨_, Try.func63, by kernel_rfl, by kernel_rfl⟩
set_option maxRecDepth 8000 in
set_option maxHeartbeats 1000000 in
theorem EncodeRecords_any (v : Value) (xs : List Record) (w : World) (hv : Records w v xs) (hroom1 : ∀ x ∈ xs, Room [] (numPart x false).length) (hroom : Room [] (numL numRecord xs).length) :
    Calls Try.prog 29 #[v] w fun e w' => e = retE (encRs xs) ∧ Kp w w' := by
  have HF : Hid (encRs xs = if xs.all formedB then encE (numL numRecord xs) else ([], 1)) := hid rfl
  generalize encRs xs = r at *
  obtain ⟨A, c, rfl, hc, hm⟩ := hv.form
  have k0 := (Kp.refl w).alloc (.cells #[.slice A xs.length c] 63)
  have c0 := alloc_cell w #[.slice A xs.length c] 63 0 rfl
  have l0 := alloc_lt w (.cells #[.slice A xs.length c] 63)
  go_enter Try.func29, Try.ntmps29
  go_wp2_with fail
  generalize w.alloc (.cells #[.slice A xs.length c] 63) = w1 at *
  go_loopw [8] (fun i wr => ∃ k : Nat, k ≤ xs.length ∧ i = .int .i64 k ∧ Hid (xs.all formedB = (xs.drop k).all formedB) ∧ Kp w1 wr) (fun i _ => xs.length - (intOf i).toNat)
  case atStart => exact ⟨0, Nat.zero_le _, rfl, rfl, Kp.refl _⟩
  case round =>
    obtain ⟨k, hk2, rfl, HB, hkr⟩ := hrel
    have hk0 := k0.trans hkr
    have cr := hkr.cellS c0
    by_cases hlt : k < xs.length
    · obtain ⟨b, o, cs, rfl, hb, hcs, hq, hrd⟩ := (hv.keep rdRecord_stable hk0).at_ hlt
      have hrv := RecordV.of hrd
      have h1c := (rdRecord_one hrd).2
      have hrg : wr.rangeAt b (o + k * 30) cs := fun j u hu => hq j u hu
      have hth : ∀ Z : Array Value, Z.size = 30 → (wr.alloc (.cells Z 46)).there wr.heap.size 0 cs.toArray.size := fun Z hZ => there_new wr Z _ _ (by rw [hZ]; simpa using hcs.symm)
      have HD := hid (List.drop_eq_getElem_cons hlt)
      have hroomk := hroom1 xs[k] (by simp)
      clear hrd hq
      generalize xs[k] = x at *
      have HH := hid hrg
      have HI := hid hth
      clear hrg hth
      go_wp2_with (first | (refine wpList_load_mid rfl 46 (.tmp 11) rfl b (o + k * 30) rfl cs _ HH.out Try.underlying46 rfl (by rw [hcs]; kernel_rfl) ?_) | (refine wpList_store_mid rfl 46 (.tmp 5) (.tmp 11) rfl wr.heap.size 0 cs.toArray rfl rfl (HI.out _ rfl) (by rw [List.size_toArray, hcs]; kernel_rfl) (all_oneCell_toArray h1c) ?_) | (refine wpList_load_mid rfl 46 (.tmp 10) rfl b (o + k * 30) rfl cs _ HH.out Try.underlying46 rfl (by rw [hcs]; kernel_rfl) ?_) | (refine wpList_load_mid rfl 46 (.tmp 5) rfl wr.heap.size 0 rfl cs _ (World.rangeAt_setCells_same _ _ _ _ (by simpa using HI.out _ rfl)) Try.underlying46 rfl (by rw [hcs]; kernel_rfl) ?_))
      have kq := fun Z => Kp.setCells (a := wr) (Nat.le_refl wr.heap.size) cs 0 _ ((Kp.refl wr).alloc (.cells Z 46))
      refine (formed_any _ x _ (hrv.kp (kq _)) hroomk).mono ?_
      rintro e w2 ⟨rfl, hkk2⟩
      have k2 := (kq _).trans hkk2
      clear kq hkk2 HH HI
      by_cases hb : formedB x = true
      · rw [hb]
        have HG : Hid (xs.all formedB = (xs.drop (k + 1)).all formedB) := hid (by rw [HB.out, HD.out, List.all_cons, hb]; rfl)
        go_wp2
        go_roundw
        case rel => exact ⟨k + 1, by omega, by go_num, HG, hkr.trans k2⟩
        case measure => simp [intOf]; omega
      · have hb' : formedB x = false := by simpa using hb
        rw [hb']
        have HG : Hid (r = ([], 1)) := hid (by rw [HF.out, HB.out, HD.out, List.all_cons, hb']; rfl)
        go_wp2
        go_ret2
        exact ⟨by rw [HG.out]; rfl, hk0.trans k2⟩
    · have HG : Hid (r = encE (numL numRecord xs)) := hid (by rw [HF.out, HB.out, List.drop_of_length_le (by omega)]; rfl)
      have hlr := block_lt_of_cell cr
      go_wp2_with fail
      refine (written_any (numL numRecord xs) 63 [.pointer (some ⟨w.heap.size, 0, none⟩)] wr EncodeRecords1_real (fun w' g hk' hw' => EncodeRecords1_any _ g _ [] _ xs w' hk' hw' (hv.keep rdRecord_stable hk0) hroom (hk'.cellS cr))).mono ?_
      rintro e w2 ⟨rfl, hk2⟩
      have k2 := hk0.trans hk2
      rw [← HG.out]
      obtain ⟨rb, re⟩ := r
      go_wp2
      go_ret2
      exact ⟨rfl, k2⟩
end Go.Proofs.Ytmeafoakbkjifaa
