
/-
What is answered when a message or a record is read from bytes.
-/
import Derived.Test.YtmokpnkpfodppaaCodD2
namespace Go.Proofs.Ytmokpnkpfodppaa
set_option linter.unusedSimpArgs false
set_option linter.unusedVariables false
open Go.RowKit

set_option maxRecDepth 8000 in
set_option maxHeartbeats 4000000 in
theorem readMessage_any {α : Type} (P : Ps α) (Q : World → Value → α → Prop) (z : α) (F : FuncId) (bs : List UInt8) (w : World) (hR : Real Try.prog F)
    (hQ : ∀ w v x, Q w v x → ∃ cs : List Value, v = .agg cs.toArray ∧ cs.length = 18 ∧ ∀ u ∈ cs, u.oneCell' = true) (hZ : ∀ w, Q w (.agg #[.int .i64 0, .int .i64 0, .int .i64 0, .slice none 0 0, .slice none 0 0, .slice none 0 0, .int .i64 0, .int .i64 0, .int .i64 0, .int .i64 0, .int .i64 0, .slice none 0 0, .int .i64 0, .int .i64 0, .int .i64 0, .int .i64 0, .bool false, .slice none 0 0]) z)
    (hF : ∀ W0 g l bad w, Rdr W0 w g l bad → Reads W0 g P Q l bad F #[.pointer (some ⟨g, 0, none⟩)] w) :
    Calls Try.prog 61 #[strV bs, .func (.func F) #[] #[]] w (DecEnd Q z (readE P bs) w) := by
  have HC := hid hF
  clear hF
  have HQ := hid hQ
  clear hQ
  have HZ := hid hZ
  clear hZ
  have hcf := fun args w => hR.run args w
  have k1 := (Kp.refl w).alloc (.cells #[.int .i64 0, .int .i64 0, .int .i64 0, .slice none 0 0, .slice none 0 0, .slice none 0 0, .int .i64 0, .int .i64 0, .int .i64 0, .int .i64 0, .int .i64 0, .slice none 0 0, .int .i64 0, .int .i64 0, .int .i64 0, .int .i64 0, .bool false, .slice none 0 0] 34)
  have hs1 : (w.alloc (.cells #[.int .i64 0, .int .i64 0, .int .i64 0, .slice none 0 0, .slice none 0 0, .slice none 0 0, .int .i64 0, .int .i64 0, .int .i64 0, .int .i64 0, .int .i64 0, .slice none 0 0, .int .i64 0, .int .i64 0, .int .i64 0, .int .i64 0, .bool false, .slice none 0 0] 34)).heap.size = w.heap.size + 1 := by simp
  have k2 := (Kp.refl (w.alloc (.cells #[.int .i64 0, .int .i64 0, .int .i64 0, .slice none 0 0, .slice none 0 0, .slice none 0 0, .int .i64 0, .int .i64 0, .int .i64 0, .int .i64 0, .int .i64 0, .slice none 0 0, .int .i64 0, .int .i64 0, .int .i64 0, .int .i64 0, .bool false, .slice none 0 0] 34))).alloc (.cells #[.int .i64 0, .int .i64 0, .int .i64 0, .slice none 0 0, .slice none 0 0, .slice none 0 0, .int .i64 0, .int .i64 0, .int .i64 0, .int .i64 0, .int .i64 0, .slice none 0 0, .int .i64 0, .int .i64 0, .int .i64 0, .int .i64 0, .bool false, .slice none 0 0] 34)
  have hB4 := (Bx.new w #[.int .i64 0, .int .i64 0, .int .i64 0, .slice none 0 0, .slice none 0 0, .slice none 0 0, .int .i64 0, .int .i64 0, .int .i64 0, .int .i64 0, .int .i64 0, .slice none 0 0, .int .i64 0, .int .i64 0, .int .i64 0, .int .i64 0, .bool false, .slice none 0 0] 34).keep (k2.block (by rw [hs1]; omega))
  have hB6 := Bx.new (w.alloc (.cells #[.int .i64 0, .int .i64 0, .int .i64 0, .slice none 0 0, .slice none 0 0, .slice none 0 0, .int .i64 0, .int .i64 0, .int .i64 0, .int .i64 0, .int .i64 0, .slice none 0 0, .int .i64 0, .int .i64 0, .int .i64 0, .int .i64 0, .bool false, .slice none 0 0] 34)) #[.int .i64 0, .int .i64 0, .int .i64 0, .slice none 0 0, .slice none 0 0, .slice none 0 0, .int .i64 0, .int .i64 0, .int .i64 0, .int .i64 0, .int .i64 0, .slice none 0 0, .int .i64 0, .int .i64 0, .int .i64 0, .int .i64 0, .bool false, .slice none 0 0] 34
  have kA := k1.trans k2
  have hsA : ((w.alloc (.cells #[.int .i64 0, .int .i64 0, .int .i64 0, .slice none 0 0, .slice none 0 0, .slice none 0 0, .int .i64 0, .int .i64 0, .int .i64 0, .int .i64 0, .int .i64 0, .slice none 0 0, .int .i64 0, .int .i64 0, .int .i64 0, .int .i64 0, .bool false, .slice none 0 0] 34)).alloc (.cells #[.int .i64 0, .int .i64 0, .int .i64 0, .slice none 0 0, .slice none 0 0, .slice none 0 0, .int .i64 0, .int .i64 0, .int .i64 0, .int .i64 0, .int .i64 0, .slice none 0 0, .int .i64 0, .int .i64 0, .int .i64 0, .int .i64 0, .bool false, .slice none 0 0] 34)).heap.size = w.heap.size + 2 := by simp
  rw [hs1] at hB6
  go_enter Try.func61, Try.ntmps61
  go_wp2_with fail
  generalize (w.alloc (.cells #[.int .i64 0, .int .i64 0, .int .i64 0, .slice none 0 0, .slice none 0 0, .slice none 0 0, .int .i64 0, .int .i64 0, .int .i64 0, .int .i64 0, .int .i64 0, .slice none 0 0, .int .i64 0, .int .i64 0, .int .i64 0, .int .i64 0, .bool false, .slice none 0 0] 34)).alloc (.cells #[.int .i64 0, .int .i64 0, .int .i64 0, .slice none 0 0, .slice none 0 0, .slice none 0 0, .int .i64 0, .int .i64 0, .int .i64 0, .int .i64 0, .int .i64 0, .slice none 0 0, .int .i64 0, .int .i64 0, .int .i64 0, .int .i64 0, .bool false, .slice none 0 0] 34) = wA at *
  clear k1 k2 hs1
  generalize hc : w.heap.size = c4 at *
  have HC4 := hid hc
  clear hc
  generalize hc : c4 + 1 = c6 at *
  have HC6 := hid hc
  clear hc
  refine (Decode_any bs wA).mono ?_
  rintro e w1 ⟨v, rfl, own, hk1⟩
  generalize hd : decE bs = d at *
  have HD := hid hd
  clear hd
  obtain ⟨l, er⟩ := d
  dsimp only at own ⊢
  obtain ⟨A, c, rfl, hcc, hmm⟩ := own.form
  have hB4' := hB4.keep (hk1.block (hB4.lt (by simp)))
  have hB6' := hB6.keep (hk1.block (hB6.lt (by simp)))
  have hsz1 := hk1.size
  have h64 : c4 + 2 ≤ w1.heap.size := by omega
  have kw1 := kA.trans hk1
  clear hB4 hB6 kA hk1
  have hrow : (#[.int .i64 0, .int .i64 0, .int .i64 0, .slice none 0 0, .slice none 0 0, .slice none 0 0, .int .i64 0, .int .i64 0, .int .i64 0, .int .i64 0, .int .i64 0, .slice none 0 0, .int .i64 0, .int .i64 0, .int .i64 0, .int .i64 0, .bool false, .slice none 0 0] : Array Value).toList.length = 18 := rfl
  by_cases he : er = 0
  · subst he
    have hint := own.sl encInt_len
    have hlen := enc_len_le bs l HD.out
    have k2 := (Kp.refl w1).alloc (.cells #[.slice A l.length c, .bool false] 151)
    have hrd : Rdr w1 (w1.alloc (.cells #[.slice A l.length c, .bool false] 151)) w1.heap.size l false :=
      ⟨k2, Nat.le_refl _, by omega, _, hint, alloc_cell w1 _ _ 0 rfl, alloc_frozen w1 _ _ 0, alloc_cell w1 _ _ 1 rfl, alloc_frozen w1 _ _ 1⟩
    have hs2 : (w1.alloc (.cells #[.slice A l.length c, .bool false] 151)).heap.size = w1.heap.size + 1 := by simp
    clear own hint
    go_wp2_with fail
    refine (HC.out w1 w1.heap.size l false _ hrd).mono ?_
    rintro e w3 ⟨v3, x, l3, b3, rfl, ho, hsp, hr3, hk3⟩
    obtain ⟨cs, rfl, hcs, h1⟩ := HQ.out _ _ _ ho.here
    obtain ⟨vr, hir, g1, g2, g3, g4⟩ := hr3.cells
    obtain ⟨A3, c3, rfl, hc3, hm3⟩ := hir.form
    have hlt := hr3.lt
    have hsz3 := hk3.size
    have hB4q := ((hB4'.keep (k2.block (hB4'.lt (by simp)))).keep (World.grownBy.block hk3 c4 (by omega) (by simp; omega)))
    have hB6q := ((hB6'.keep (k2.block (hB6'.lt (by simp)))).keep (World.grownBy.block hk3 c6 (by have := HC6.out; omega) (by simp; have := HC6.out; omega)))
    have kw3 : Kp w w3 := kw1.trans hr3.kp
    clear hB4' hB6' k2 hrd
    have k4 := (Kp.refl w3).alloc (.cells #[.int .i64 0, .int .i64 0, .int .i64 0, .slice none 0 0, .slice none 0 0, .slice none 0 0, .int .i64 0, .int .i64 0, .int .i64 0, .int .i64 0, .int .i64 0, .slice none 0 0, .int .i64 0, .int .i64 0, .int .i64 0, .int .i64 0, .bool false, .slice none 0 0] 34)
    have hB10 := Bx.new w3 #[.int .i64 0, .int .i64 0, .int .i64 0, .slice none 0 0, .slice none 0 0, .slice none 0 0, .int .i64 0, .int .i64 0, .int .i64 0, .int .i64 0, .int .i64 0, .slice none 0 0, .int .i64 0, .int .i64 0, .int .i64 0, .int .i64 0, .bool false, .slice none 0 0] 34
    replace hB4q := hB4q.keep (k4.block (hB4q.lt (by simp)))
    replace hB6q := hB6q.keep (k4.block (hB6q.lt (by simp)))
    have hth := hB10.thereAt 0 cs.length (by rw [hcs]; exact Nat.le_of_eq rfl)
    have hin : (Try.prog.info? 34).map (·.size) = some cs.length := by rw [hcs]; kernel_rfl
    have hc46 := HC6.out
    replace hB4q := hB4q.keep (setCells_block w3.heap.size c4 (by omega) cs 0 (w3.alloc (.cells #[.int .i64 0, .int .i64 0, .int .i64 0, .slice none 0 0, .slice none 0 0, .slice none 0 0, .int .i64 0, .int .i64 0, .int .i64 0, .int .i64 0, .int .i64 0, .slice none 0 0, .int .i64 0, .int .i64 0, .int .i64 0, .int .i64 0, .bool false, .slice none 0 0] 34)))
    replace hB6q := hB6q.keep (setCells_block w3.heap.size c6 (by omega) cs 0 (w3.alloc (.cells #[.int .i64 0, .int .i64 0, .int .i64 0, .slice none 0 0, .slice none 0 0, .slice none 0 0, .int .i64 0, .int .i64 0, .int .i64 0, .int .i64 0, .int .i64 0, .slice none 0 0, .int .i64 0, .int .i64 0, .int .i64 0, .int .i64 0, .bool false, .slice none 0 0] 34)))
    replace hB10 := hB10.all (cs := cs) (by rw [hcs]; rfl)
    have hq1 := hr3.keepG (w' := (w3.alloc (.cells #[.int .i64 0, .int .i64 0, .int .i64 0, .slice none 0 0, .slice none 0 0, .slice none 0 0, .int .i64 0, .int .i64 0, .int .i64 0, .int .i64 0, .int .i64 0, .slice none 0 0, .int .i64 0, .int .i64 0, .int .i64 0, .int .i64 0, .bool false, .slice none 0 0] 34)).setCells w3.heap.size 0 cs) (Kp.setCells (by have := hr3.kp.size; omega) cs 0 _ (hr3.kp.alloc _)) (by rw [setCells_block _ _ (by omega), k4.block hlt])
    have hsq : ((w3.alloc (.cells #[.int .i64 0, .int .i64 0, .int .i64 0, .slice none 0 0, .slice none 0 0, .slice none 0 0, .int .i64 0, .int .i64 0, .int .i64 0, .int .i64 0, .int .i64 0, .slice none 0 0, .int .i64 0, .int .i64 0, .int .i64 0, .int .i64 0, .bool false, .slice none 0 0] 34)).setCells w3.heap.size 0 cs).heap.size = w3.heap.size + 1 := by rw [setCells_size]; simp
    have kwq : Kp w ((w3.alloc (.cells #[.int .i64 0, .int .i64 0, .int .i64 0, .slice none 0 0, .slice none 0 0, .slice none 0 0, .int .i64 0, .int .i64 0, .int .i64 0, .int .i64 0, .int .i64 0, .slice none 0 0, .int .i64 0, .int .i64 0, .int .i64 0, .int .i64 0, .bool false, .slice none 0 0] 34)).setCells w3.heap.size 0 cs) := Kp.setCells kw3.size cs 0 _ (kw3.alloc _)
    have hoq : Ow (w1.heap.size + 1) w3.heap.size ((w3.alloc (.cells #[.int .i64 0, .int .i64 0, .int .i64 0, .slice none 0 0, .slice none 0 0, .slice none 0 0, .int .i64 0, .int .i64 0, .int .i64 0, .int .i64 0, .int .i64 0, .slice none 0 0, .int .i64 0, .int .i64 0, .int .i64 0, .int .i64 0, .bool false, .slice none 0 0] 34)).setCells w3.heap.size 0 cs) (fun w2 => Q w2 (.agg cs.toArray) x) := by
      rw [hs2] at ho
      exact ho.step (by omega) (fun k hk1 hk2 => by rw [setCells_block _ _ (by omega), k4.block hk2])
    have hTh := hid hth
    have hOne := hid h1
    clear hth h1 hr3 hk3 g1 g2 g3 g4 hir ho k4 HC HQ
    obtain ⟨vr', hir', g1, g2, g3, g4⟩ := hq1.cells
    obtain ⟨A3', c3', rfl, hc3', hm3'⟩ := hir'.form
    have hgl := hq1.lt
    clear hq1
    by_cases hbl : b3 = true ∨ 0 < l3.length
    · have HN : Hid (readE P bs = (none, 13)) := hid (readE_bad HD.out hsp hbl)
      have hbx : b3 = true ∨ (b3 = false ∧ decide (0 < l3.length) = true) := by
        cases b3 with
        | true => exact .inl rfl
        | false =>
          rcases hbl with h | h
          · cases h
          · exact .inr ⟨rfl, decide_eq_true h⟩
      clear hbl hsp
      rcases hbx with rfl | ⟨rfl, hlx⟩
      all_goals
        go_wp2_with (first | (refine wpList_store_mid rfl 34 (.tmp 10) (.tmp 25) rfl w3.heap.size 0 cs.toArray rfl rfl hTh.out hin (all_oneCell_toArray hOne.out) ?_; generalize (w3.alloc (.cells #[.int .i64 0, .int .i64 0, .int .i64 0, .slice none 0 0, .slice none 0 0, .slice none 0 0, .int .i64 0, .int .i64 0, .int .i64 0, .int .i64 0, .int .i64 0, .slice none 0 0, .int .i64 0, .int .i64 0, .int .i64 0, .int .i64 0, .bool false, .slice none 0 0] 34)).setCells w3.heap.size 0 cs = wq at *) | (refine wpList_load_mid rfl 34 (.tmp 6) rfl c6 0 rfl _ _ hB6q.range Try.underlying34 rfl (by kernel_rfl) ?_) | (refine wpList_store_mid rfl 34 (.tmp 4) (.tmp 38) rfl c4 0 _ rfl rfl hB4q.there (by kernel_rfl) (all_oneCell_toArray (by simp [Value.oneCell'])) ?_))
        try simp only [Exit.inBlock, Exit.then]
        refine bodyPost_ret (results_cell_bx2 rfl _ _ c4 _ _ rfl (hB4q.self.range) Try.underlying34 rfl (by kernel_rfl)) rfl ?_
        refine ⟨_, by rw [HN.out]; rfl, by rw [HN.out]; exact fun _ _ _ => HZ.out _, Kp.setCells (Nat.le_of_eq HC4.out) _ 0 _ kwq⟩
    · obtain rfl : b3 = false := by
        cases b3 with
        | false => rfl
        | true => exact absurd (.inl rfl) hbl
      obtain rfl : l3 = [] := by
        cases l3 with
        | nil => rfl
        | cons _ _ => exact absurd (.inr (by simp)) hbl
      have HN : Hid (readE P bs = (some x, 0)) := hid (readE_ok HD.out hsp)
      clear hbl hsp
      simp only [List.length_nil] at *
      go_wp2_with (first | (refine wpList_store_mid rfl 34 (.tmp 10) (.tmp 25) rfl w3.heap.size 0 cs.toArray rfl rfl hTh.out hin (all_oneCell_toArray hOne.out) ?_; generalize (w3.alloc (.cells #[.int .i64 0, .int .i64 0, .int .i64 0, .slice none 0 0, .slice none 0 0, .slice none 0 0, .int .i64 0, .int .i64 0, .int .i64 0, .int .i64 0, .int .i64 0, .slice none 0 0, .int .i64 0, .int .i64 0, .int .i64 0, .int .i64 0, .bool false, .slice none 0 0] 34)).setCells w3.heap.size 0 cs = wq at *) | (refine wpList_load_mid rfl 34 (.tmp 10) rfl w3.heap.size 0 rfl cs _ hB10.range Try.underlying34 rfl hin ?_) | (refine wpList_store_mid rfl 34 (.tmp 4) (.tmp 39) rfl c4 0 cs.toArray rfl rfl (hB4q.thereAt 0 cs.length (by rw [hcs]; exact Nat.le_of_eq rfl)) hin (all_oneCell_toArray hOne.out) ?_))
      try simp only [Exit.inBlock, Exit.then]
      refine bodyPost_ret (results_cell_bx2 rfl _ _ c4 cs _ rfl ((hB4q.all (cs := cs) (by rw [hcs]; rfl)).range) Try.underlying34 rfl hin) rfl ?_
      refine ⟨_, by rw [HN.out]; rfl, ?_, Kp.setCells (Nat.le_of_eq HC4.out) _ 0 _ kwq⟩
      rw [HN.out]
      have h4 := HC4.out
      exact (hoq.step (by rw [setCells_size]; exact Nat.le_refl _) (fun k hk1 _ => setCells_block c4 k (by omega) cs 0 _)).wide (by omega) (by rw [setCells_size]; omega)
  · have HN : Hid (readE P bs = (none, er)) := hid (readE_err P HD.out he)
    have eb : (er != 0) = true := by simpa using he
    clear HC HQ
    go_wp2_with (first | (refine wpList_load_mid rfl 34 (.tmp 6) rfl c6 0 rfl _ _ hB6'.range Try.underlying34 rfl (by kernel_rfl) ?_) | (refine wpList_store_mid rfl 34 (.tmp 4) (.tmp 18) rfl c4 0 _ rfl rfl hB4'.there (by kernel_rfl) (all_oneCell_toArray (by simp [Value.oneCell'])) ?_))
    try simp only [Exit.inBlock, Exit.then]
    refine bodyPost_ret (results_cell_bx2 rfl _ _ c4 _ _ rfl (hB4'.self.range) Try.underlying34 rfl (by kernel_rfl)) rfl ?_
    refine ⟨_, by rw [HN.out]; rfl, by rw [HN.out]; exact fun _ _ _ => HZ.out _, Kp.setCells (Nat.le_of_eq HC4.out) _ 0 _ kw1⟩
end Go.Proofs.Ytmokpnkpfodppaa
