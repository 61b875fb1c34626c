
/-
What is answered when an event, a base, a message, a record is read from bytes.
-/
import Derived.Test.YtmeafoakbkjifaaCodD3
namespace Go.Proofs.Ytmeafoakbkjifaa
set_option linter.unusedSimpArgs false
set_option linter.unusedVariables false
open Go.RowKit

set_option maxRecDepth 8000 in
set_option maxHeartbeats 4000000 in
theorem DecodeEvent_any {α : Type} (P : Ps α) (Q : World → Value → α → Prop) (z : α) (bs : List UInt8) (w : World)
    (hQ : ∀ w v x, Q w v x → ∃ cs : List Value, v = .agg cs.toArray ∧ cs.length = 13 ∧ ∀ u ∈ cs, u.oneCell' = true) (hZ : ∀ w, Q w (.agg #[.int .i64 0, .int .i64 0, .int .i64 0, .slice none 0 0, .int .i64 0, .int .i64 0, .int .i64 0, .int .i64 0, .int .i64 0, .int .i64 0, .int .i64 0, .int .i64 0, .int .i64 0]) z)
    (hF : ∀ W0 g l bad w, Rdr W0 w g l bad → Reads W0 g P Q l bad 60 #[.pointer (some ⟨g, 0, none⟩)] w) :
    Calls Try.prog 27 #[strV bs] w (DecEnd Q z (readE P bs) w) := by
  have kA := (Kp.refl w).alloc (.cells #[.int .i64 0, .int .i64 0, .int .i64 0, .slice none 0 0, .int .i64 0, .int .i64 0, .int .i64 0, .int .i64 0, .int .i64 0, .int .i64 0, .int .i64 0, .int .i64 0, .int .i64 0] 37)
  have hB := Bx.new w #[.int .i64 0, .int .i64 0, .int .i64 0, .slice none 0 0, .int .i64 0, .int .i64 0, .int .i64 0, .int .i64 0, .int .i64 0, .int .i64 0, .int .i64 0, .int .i64 0, .int .i64 0] 37
  have hsA : (w.alloc (.cells #[.int .i64 0, .int .i64 0, .int .i64 0, .slice none 0 0, .int .i64 0, .int .i64 0, .int .i64 0, .int .i64 0, .int .i64 0, .int .i64 0, .int .i64 0, .int .i64 0, .int .i64 0] 37)).heap.size = w.heap.size + 1 := by simp
  go_enter Try.func27, Try.ntmps27
  go_wp2_with fail
  refine (readEvent_any P Q z 60 bs _ ⟨_, Try.func60, by kernel_rfl, by kernel_rfl⟩ hQ hZ hF).mono ?_
  rintro e w1 ⟨v, rfl, ho, hk1⟩
  obtain ⟨cs, rfl, hcs, h1⟩ := hQ _ _ _ ho.here
  have hB1 := hB.keep (hk1.block (hB.lt (by simp)))
  have hsz := hk1.size
  have kw := kA.trans hk1
  have hin : (Try.prog.info? 37).map (·.size) = some cs.length := by rw [hcs]; kernel_rfl
  clear hB kA hk1 hQ hZ hF
  generalize readE P bs = r at *
  obtain ⟨rx, re⟩ := r
  dsimp only at *
  go_wp2_with (refine wpList_store_mid rfl 37 (.tmp 2) (.tmp 6) rfl w.heap.size 0 cs.toArray rfl rfl (hB1.thereAt 0 cs.length (by rw [hcs]; exact Nat.le_of_eq rfl)) hin (all_oneCell_toArray h1) ?_)
  try simp only [Exit.inBlock, Exit.then]
  refine bodyPost_ret (results_cell_bx2 rfl _ _ w.heap.size cs _ rfl ((hB1.all (cs := cs) (by rw [hcs]; rfl)).range) Try.underlying37 rfl hin) rfl ?_
  rw [hsA] at ho
  exact ⟨_, rfl, (ho.step (by rw [setCells_size]; exact Nat.le_refl _) (fun k hk1 _ => setCells_block w.heap.size k (by omega) cs 0 w1)).wide (by omega) (by rw [setCells_size]; exact Nat.le_refl _), Kp.setCells (Nat.le_refl _) cs 0 _ kw⟩
set_option maxRecDepth 8000 in
set_option maxHeartbeats 4000000 in
theorem DecodeBase_any {α : Type} (P : Ps α) (Q : World → Value → α → Prop) (z : α) (bs : List UInt8) (w : World)
    (hQ : ∀ w v x, Q w v x → ∃ cs : List Value, v = .agg cs.toArray ∧ cs.length = 7 ∧ ∀ u ∈ cs, u.oneCell' = true) (hZ : ∀ w, Q w (.agg #[.slice none 0 0, .int .i64 0, .slice none 0 0, .slice none 0 0, .slice none 0 0, .slice none 0 0, .slice none 0 0]) z)
    (hF : ∀ W0 g l bad w, Rdr W0 w g l bad → Reads W0 g P Q l bad 62 #[.pointer (some ⟨g, 0, none⟩)] w) :
    Calls Try.prog 28 #[strV bs] w (DecEnd Q z (readE P bs) w) := by
  have kA := (Kp.refl w).alloc (.cells #[.slice none 0 0, .int .i64 0, .slice none 0 0, .slice none 0 0, .slice none 0 0, .slice none 0 0, .slice none 0 0] 42)
  have hB := Bx.new w #[.slice none 0 0, .int .i64 0, .slice none 0 0, .slice none 0 0, .slice none 0 0, .slice none 0 0, .slice none 0 0] 42
  have hsA : (w.alloc (.cells #[.slice none 0 0, .int .i64 0, .slice none 0 0, .slice none 0 0, .slice none 0 0, .slice none 0 0, .slice none 0 0] 42)).heap.size = w.heap.size + 1 := by simp
  go_enter Try.func28, Try.ntmps28
  go_wp2_with fail
  refine (readBase_any P Q z 62 bs _ ⟨_, Try.func62, by kernel_rfl, by kernel_rfl⟩ hQ hZ hF).mono ?_
  rintro e w1 ⟨v, rfl, ho, hk1⟩
  obtain ⟨cs, rfl, hcs, h1⟩ := hQ _ _ _ ho.here
  have hB1 := hB.keep (hk1.block (hB.lt (by simp)))
  have hsz := hk1.size
  have kw := kA.trans hk1
  have hin : (Try.prog.info? 42).map (·.size) = some cs.length := by rw [hcs]; kernel_rfl
  clear hB kA hk1 hQ hZ hF
  generalize readE P bs = r at *
  obtain ⟨rx, re⟩ := r
  dsimp only at *
  go_wp2_with (refine wpList_store_mid rfl 42 (.tmp 2) (.tmp 6) rfl w.heap.size 0 cs.toArray rfl rfl (hB1.thereAt 0 cs.length (by rw [hcs]; exact Nat.le_of_eq rfl)) hin (all_oneCell_toArray h1) ?_)
  try simp only [Exit.inBlock, Exit.then]
  refine bodyPost_ret (results_cell_bx2 rfl _ _ w.heap.size cs _ rfl ((hB1.all (cs := cs) (by rw [hcs]; rfl)).range) Try.underlying42 rfl hin) rfl ?_
  rw [hsA] at ho
  exact ⟨_, rfl, (ho.step (by rw [setCells_size]; exact Nat.le_refl _) (fun k hk1 _ => setCells_block w.heap.size k (by omega) cs 0 w1)).wide (by omega) (by rw [setCells_size]; exact Nat.le_refl _), Kp.setCells (Nat.le_refl _) cs 0 _ kw⟩
set_option maxRecDepth 8000 in
set_option maxHeartbeats 4000000 in
theorem DecodeMessage_any {α : Type} (P : Ps α) (Q : World → Value → α → Prop) (z : α) (bs : List UInt8) (w : World)
    (hQ : ∀ w v x, Q w v x → ∃ cs : List Value, v = .agg cs.toArray ∧ cs.length = 18 ∧ ∀ u ∈ cs, u.oneCell' = true) (hZ : ∀ w, Q w (.agg #[.int .i64 0, .int .i64 0, .int .i64 0, .slice none 0 0, .slice none 0 0, .slice none 0 0, .int .i64 0, .int .i64 0, .int .i64 0, .int .i64 0, .int .i64 0, .slice none 0 0, .int .i64 0, .int .i64 0, .int .i64 0, .int .i64 0, .bool false, .slice none 0 0]) z)
    (hF : ∀ W0 g l bad w, Rdr W0 w g l bad → Reads W0 g P Q l bad 74 #[.pointer (some ⟨g, 0, none⟩)] w) :
    Calls Try.prog 37 #[strV bs] w (DecEnd Q z (readE P bs) w) := by
  have kA := (Kp.refl w).alloc (.cells #[.int .i64 0, .int .i64 0, .int .i64 0, .slice none 0 0, .slice none 0 0, .slice none 0 0, .int .i64 0, .int .i64 0, .int .i64 0, .int .i64 0, .int .i64 0, .slice none 0 0, .int .i64 0, .int .i64 0, .int .i64 0, .int .i64 0, .bool false, .slice none 0 0] 78)
  have hB := Bx.new w #[.int .i64 0, .int .i64 0, .int .i64 0, .slice none 0 0, .slice none 0 0, .slice none 0 0, .int .i64 0, .int .i64 0, .int .i64 0, .int .i64 0, .int .i64 0, .slice none 0 0, .int .i64 0, .int .i64 0, .int .i64 0, .int .i64 0, .bool false, .slice none 0 0] 78
  have hsA : (w.alloc (.cells #[.int .i64 0, .int .i64 0, .int .i64 0, .slice none 0 0, .slice none 0 0, .slice none 0 0, .int .i64 0, .int .i64 0, .int .i64 0, .int .i64 0, .int .i64 0, .slice none 0 0, .int .i64 0, .int .i64 0, .int .i64 0, .int .i64 0, .bool false, .slice none 0 0] 78)).heap.size = w.heap.size + 1 := by simp
  go_enter Try.func37, Try.ntmps37
  go_wp2_with fail
  refine (readMessage_any P Q z 74 bs _ ⟨_, Try.func74, by kernel_rfl, by kernel_rfl⟩ hQ hZ hF).mono ?_
  rintro e w1 ⟨v, rfl, ho, hk1⟩
  obtain ⟨cs, rfl, hcs, h1⟩ := hQ _ _ _ ho.here
  have hB1 := hB.keep (hk1.block (hB.lt (by simp)))
  have hsz := hk1.size
  have kw := kA.trans hk1
  have hin : (Try.prog.info? 78).map (·.size) = some cs.length := by rw [hcs]; kernel_rfl
  clear hB kA hk1 hQ hZ hF
  generalize readE P bs = r at *
  obtain ⟨rx, re⟩ := r
  dsimp only at *
  go_wp2_with (refine wpList_store_mid rfl 78 (.tmp 2) (.tmp 6) rfl w.heap.size 0 cs.toArray rfl rfl (hB1.thereAt 0 cs.length (by rw [hcs]; exact Nat.le_of_eq rfl)) hin (all_oneCell_toArray h1) ?_)
  try simp only [Exit.inBlock, Exit.then]
  refine bodyPost_ret (results_cell_bx2 rfl _ _ w.heap.size cs _ rfl ((hB1.all (cs := cs) (by rw [hcs]; rfl)).range) Try.underlying78 rfl hin) rfl ?_
  rw [hsA] at ho
  exact ⟨_, rfl, (ho.step (by rw [setCells_size]; exact Nat.le_refl _) (fun k hk1 _ => setCells_block w.heap.size k (by omega) cs 0 w1)).wide (by omega) (by rw [setCells_size]; exact Nat.le_refl _), Kp.setCells (Nat.le_refl _) cs 0 _ kw⟩
set_option maxRecDepth 8000 in
set_option maxHeartbeats 4000000 in
theorem DecodeRecord_any {α : Type} (P : Ps α) (Q : World → Value → α → Prop) (z : α) (bs : List UInt8) (w : World)
    (hQ : ∀ w v x, Q w v x → ∃ cs : List Value, v = .agg cs.toArray ∧ cs.length = 30 ∧ ∀ u ∈ cs, u.oneCell' = true) (hZ : ∀ w, Q w (.agg #[.int .i64 0, .int .i64 0, .int .i64 0, .int .i64 0, .slice none 0 0, .int .i64 0, .int .i64 0, .int .i64 0, .int .i64 0, .int .i64 0, .int .i64 0, .int .i64 0, .int .i64 0, .int .i64 0, .slice none 0 0, .int .i64 0, .slice none 0 0, .slice none 0 0, .slice none 0 0, .slice none 0 0, .slice none 0 0, .int .i64 0, .int .i64 0, .int .i64 0, .int .i64 0, .int .i64 0, .int .i64 0, .int .i64 0, .int .i64 0, .slice none 0 0]) z)
    (hF : ∀ W0 g l bad w, Rdr W0 w g l bad → Reads W0 g P Q l bad 54 #[.pointer (some ⟨g, 0, none⟩)] w) :
    Calls Try.prog 23 #[strV bs] w (DecEnd Q z (readE P bs) w) := by
  have kA := (Kp.refl w).alloc (.cells #[.int .i64 0, .int .i64 0, .int .i64 0, .int .i64 0, .slice none 0 0, .int .i64 0, .int .i64 0, .int .i64 0, .int .i64 0, .int .i64 0, .int .i64 0, .int .i64 0, .int .i64 0, .int .i64 0, .slice none 0 0, .int .i64 0, .slice none 0 0, .slice none 0 0, .slice none 0 0, .slice none 0 0, .slice none 0 0, .int .i64 0, .int .i64 0, .int .i64 0, .int .i64 0, .int .i64 0, .int .i64 0, .int .i64 0, .int .i64 0, .slice none 0 0] 46)
  have hB := Bx.new w #[.int .i64 0, .int .i64 0, .int .i64 0, .int .i64 0, .slice none 0 0, .int .i64 0, .int .i64 0, .int .i64 0, .int .i64 0, .int .i64 0, .int .i64 0, .int .i64 0, .int .i64 0, .int .i64 0, .slice none 0 0, .int .i64 0, .slice none 0 0, .slice none 0 0, .slice none 0 0, .slice none 0 0, .slice none 0 0, .int .i64 0, .int .i64 0, .int .i64 0, .int .i64 0, .int .i64 0, .int .i64 0, .int .i64 0, .int .i64 0, .slice none 0 0] 46
  have hsA : (w.alloc (.cells #[.int .i64 0, .int .i64 0, .int .i64 0, .int .i64 0, .slice none 0 0, .int .i64 0, .int .i64 0, .int .i64 0, .int .i64 0, .int .i64 0, .int .i64 0, .int .i64 0, .int .i64 0, .int .i64 0, .slice none 0 0, .int .i64 0, .slice none 0 0, .slice none 0 0, .slice none 0 0, .slice none 0 0, .slice none 0 0, .int .i64 0, .int .i64 0, .int .i64 0, .int .i64 0, .int .i64 0, .int .i64 0, .int .i64 0, .int .i64 0, .slice none 0 0] 46)).heap.size = w.heap.size + 1 := by simp
  go_enter Try.func23, Try.ntmps23
  go_wp2_with fail
  refine (readRecord_any P Q z 54 bs _ ⟨_, Try.func54, by kernel_rfl, by kernel_rfl⟩ hQ hZ hF).mono ?_
  rintro e w1 ⟨v, rfl, ho, hk1⟩
  obtain ⟨cs, rfl, hcs, h1⟩ := hQ _ _ _ ho.here
  have hB1 := hB.keep (hk1.block (hB.lt (by simp)))
  have hsz := hk1.size
  have kw := kA.trans hk1
  have hin : (Try.prog.info? 46).map (·.size) = some cs.length := by rw [hcs]; kernel_rfl
  clear hB kA hk1 hQ hZ hF
  generalize readE P bs = r at *
  obtain ⟨rx, re⟩ := r
  dsimp only at *
  go_wp2_with (refine wpList_store_mid rfl 46 (.tmp 2) (.tmp 6) rfl w.heap.size 0 cs.toArray rfl rfl (hB1.thereAt 0 cs.length (by rw [hcs]; exact Nat.le_of_eq rfl)) hin (all_oneCell_toArray h1) ?_)
  try simp only [Exit.inBlock, Exit.then]
  refine bodyPost_ret (results_cell_bx2 rfl _ _ w.heap.size cs _ rfl ((hB1.all (cs := cs) (by rw [hcs]; rfl)).range) Try.underlying46 rfl hin) rfl ?_
  rw [hsA] at ho
  exact ⟨_, rfl, (ho.step (by rw [setCells_size]; exact Nat.le_refl _) (fun k hk1 _ => setCells_block w.heap.size k (by omega) cs 0 w1)).wide (by omega) (by rw [setCells_size]; exact Nat.le_refl _), Kp.setCells (Nat.le_refl _) cs 0 _ kw⟩
abbrev zM : Message := ⟨0, 0, 0, [], [], [], ⟨0, 0, 0, 0, 0, []⟩, 0, 0, 0, 0, false, []⟩
abbrev zR : Record := ⟨0, zE, zB, 0, 0, 0, zN⟩
theorem va_cells {α : Type} {R : Rd α} {n : Nat} (h1 : ∀ w cs x, R w cs x → cs.length = n ∧ ∀ u ∈ cs, u.oneCell' = true) (w : World) (v : Value) (x : α) (h : VA R w v x) : ∃ cs : List Value, v = .agg cs.toArray ∧ cs.length = n ∧ ∀ u ∈ cs, u.oneCell' = true := by
  obtain ⟨cs, rfl, h⟩ := h
  exact ⟨cs, rfl, h1 w cs x h⟩
theorem message_cells (w : World) (v : Value) (x : Message) (h : MessageV w v x) : ∃ cs : List Value, v = .agg cs.toArray ∧ cs.length = 18 ∧ ∀ u ∈ cs, u.oneCell' = true := by
  obtain ⟨v3, v4, v5, v6, v7, rfl, p3, p4, p5, p6, p7⟩ := h
  obtain ⟨A3, c3, rfl, -, -⟩ := p3.form
  obtain ⟨A4, c4, rfl, -, -⟩ := p4.form
  obtain ⟨A5, c5, rfl, -, -⟩ := p5.form
  obtain ⟨A6, c6, rfl, -, -⟩ := p6.form
  obtain ⟨A7, c7, rfl, -, -⟩ := p7.form
  exact ⟨_, rfl, rfl, by simp [Value.oneCell']⟩
theorem decodeEvent (bs : List UInt8) (w : World) : Calls Try.prog 27 #[strV bs] w (DecEnd (VA rdEvent) zE (readE eventP bs) w) :=
  DecodeEvent_any eventP (VA rdEvent) zE bs w (va_cells fun _ _ _ h => event_one h) (fun w => ⟨_, rfl, _, rfl, Sl.nil _ _ _⟩) rdEvent_any
theorem decodeBase (bs : List UInt8) (w : World) : Calls Try.prog 28 #[strV bs] w (DecEnd (VA rdBaseC) zB (readE baseP bs) w) :=
  DecodeBase_any baseP (VA rdBaseC) zB bs w (va_cells fun _ _ _ h => base_one h) (fun w => ⟨_, rfl, _, _, _, _, _, _, rfl, Sl.nil _ _ _, Sl.nil _ _ _, Sl.nil _ _ _, Sl.nil _ _ _, Sl.nil _ _ _, Sl.nil _ _ _⟩) rdBase_any
theorem decodeMessage (bs : List UInt8) (w : World) : Calls Try.prog 37 #[strV bs] w (DecEnd MessageV zM (readE messageP bs) w) :=
  DecodeMessage_any messageP MessageV zM bs w message_cells (fun w => ⟨_, _, _, _, _, rfl, Sl.nil _ _ _, Sl.nil _ _ _, Sl.nil _ _ _, Sl.nil _ _ _, Sl.nil _ _ _⟩) rdMessage_any
theorem decodeRecord (bs : List UInt8) (w : World) : Calls Try.prog 23 #[strV bs] w (DecEnd (VA rdRecord) zR (readE recordP bs) w) :=
  DecodeRecord_any recordP (VA rdRecord) zR bs w (va_cells fun _ _ _ h => rdRecord_one h) (fun w => ⟨_, rfl, _, _, _, _, _, _, _, _, rfl, Sl.nil _ _ _, Sl.nil _ _ _, Sl.nil _ _ _, Sl.nil _ _ _, Sl.nil _ _ _, Sl.nil _ _ _, Sl.nil _ _ _, Sl.nil _ _ _⟩) rdRecord_any
end Go.Proofs.Ytmeafoakbkjifaa
