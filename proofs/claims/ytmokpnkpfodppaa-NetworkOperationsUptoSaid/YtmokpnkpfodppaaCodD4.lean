
/-
What is answered when an event, a base, a message, a record is read from bytes.
-/
import Derived.Test.YtmokpnkpfodppaaCodD3
namespace Go.Proofs.Ytmokpnkpfodppaa
set_option linter.unusedSimpArgs false
set_option linter.unusedVariables false
open Go.RowKit

set_option maxRecDepth 8000 in
set_option maxHeartbeats 4000000 in
theorem DecodeMessage_any {α : Type} (P : Ps α) (Q : World → Value → α → Prop) (z : α) (bs : List UInt8) (w : World)
    (hQ : ∀ w v x, Q w v x → ∃ cs : List Value, v = .agg cs.toArray ∧ cs.length = 18 ∧ ∀ u ∈ cs, u.oneCell' = true) (hZ : ∀ w, Q w (.agg #[.int .i64 0, .int .i64 0, .int .i64 0, .slice none 0 0, .slice none 0 0, .slice none 0 0, .int .i64 0, .int .i64 0, .int .i64 0, .int .i64 0, .int .i64 0, .slice none 0 0, .int .i64 0, .int .i64 0, .int .i64 0, .int .i64 0, .bool false, .slice none 0 0]) z)
    (hF : ∀ W0 g l bad w, Rdr W0 w g l bad → Reads W0 g P Q l bad 62 #[.pointer (some ⟨g, 0, none⟩)] w) :
    Calls Try.prog 43 #[strV bs] w (DecEnd Q z (readE P bs) w) := by
  have kA := (Kp.refl w).alloc (.cells #[.int .i64 0, .int .i64 0, .int .i64 0, .slice none 0 0, .slice none 0 0, .slice none 0 0, .int .i64 0, .int .i64 0, .int .i64 0, .int .i64 0, .int .i64 0, .slice none 0 0, .int .i64 0, .int .i64 0, .int .i64 0, .int .i64 0, .bool false, .slice none 0 0] 34)
  have hB := Bx.new w #[.int .i64 0, .int .i64 0, .int .i64 0, .slice none 0 0, .slice none 0 0, .slice none 0 0, .int .i64 0, .int .i64 0, .int .i64 0, .int .i64 0, .int .i64 0, .slice none 0 0, .int .i64 0, .int .i64 0, .int .i64 0, .int .i64 0, .bool false, .slice none 0 0] 34
  have hsA : (w.alloc (.cells #[.int .i64 0, .int .i64 0, .int .i64 0, .slice none 0 0, .slice none 0 0, .slice none 0 0, .int .i64 0, .int .i64 0, .int .i64 0, .int .i64 0, .int .i64 0, .slice none 0 0, .int .i64 0, .int .i64 0, .int .i64 0, .int .i64 0, .bool false, .slice none 0 0] 34)).heap.size = w.heap.size + 1 := by simp
  go_enter Try.func43, Try.ntmps43
  go_wp2_with fail
  refine (readMessage_any P Q z 62 bs _ ⟨_, Try.func62, by kernel_rfl, by kernel_rfl⟩ hQ hZ hF).mono ?_
  rintro e w1 ⟨v, rfl, ho, hk1⟩
  obtain ⟨cs, rfl, hcs, h1⟩ := hQ _ _ _ ho.here
  have hB1 := hB.keep (hk1.block (hB.lt (by simp)))
  have hsz := hk1.size
  have kw := kA.trans hk1
  have hin : (Try.prog.info? 34).map (·.size) = some cs.length := by rw [hcs]; kernel_rfl
  clear hB kA hk1 hQ hZ hF
  generalize readE P bs = r at *
  obtain ⟨rx, re⟩ := r
  dsimp only at *
  go_wp2_with (refine wpList_store_mid rfl 34 (.tmp 2) (.tmp 6) rfl w.heap.size 0 cs.toArray rfl rfl (hB1.thereAt 0 cs.length (by rw [hcs]; exact Nat.le_of_eq rfl)) hin (all_oneCell_toArray h1) ?_)
  try simp only [Exit.inBlock, Exit.then]
  refine bodyPost_ret (results_cell_bx2 rfl _ _ w.heap.size cs _ rfl ((hB1.all (cs := cs) (by rw [hcs]; rfl)).range) Try.underlying34 rfl hin) rfl ?_
  rw [hsA] at ho
  exact ⟨_, rfl, (ho.step (by rw [setCells_size]; exact Nat.le_refl _) (fun k hk1 _ => setCells_block w.heap.size k (by omega) cs 0 w1)).wide (by omega) (by rw [setCells_size]; exact Nat.le_refl _), Kp.setCells (Nat.le_refl _) cs 0 _ kw⟩
abbrev zM : Message := ⟨0, 0, 0, [], [], [], ⟨0, 0, 0, 0, 0, []⟩, 0, 0, 0, 0, false, []⟩
abbrev zR : Record := ⟨0, zE, zB, 0, 0, 0, zN⟩
theorem va_cells {α : Type} {R : Rd α} {n : Nat} (h1 : ∀ w cs x, R w cs x → cs.length = n ∧ ∀ u ∈ cs, u.oneCell' = true) (w : World) (v : Value) (x : α) (h : VA R w v x) : ∃ cs : List Value, v = .agg cs.toArray ∧ cs.length = n ∧ ∀ u ∈ cs, u.oneCell' = true := by
  obtain ⟨cs, rfl, h⟩ := h
  exact ⟨cs, rfl, h1 w cs x h⟩
theorem message_cells (w : World) (v : Value) (x : Message) (h : MessageV w v x) : ∃ cs : List Value, v = .agg cs.toArray ∧ cs.length = 18 ∧ ∀ u ∈ cs, u.oneCell' = true := by
  obtain ⟨v3, v4, v5, v6, v7, rfl, p3, p4, p5, p6, p7⟩ := h
  obtain ⟨A3, c3, rfl, -, -⟩ := p3.form
  obtain ⟨A4, c4, rfl, -, -⟩ := p4.form
  obtain ⟨A5, c5, rfl, -, -⟩ := p5.form
  obtain ⟨A6, c6, rfl, -, -⟩ := p6.form
  obtain ⟨A7, c7, rfl, -, -⟩ := p7.form
  exact ⟨_, rfl, rfl, by simp [Value.oneCell']⟩
theorem decodeMessage (bs : List UInt8) (w : World) : Calls Try.prog 43 #[strV bs] w (DecEnd MessageV zM (readE messageP bs) w) :=
  DecodeMessage_any messageP MessageV zM bs w message_cells (fun w => ⟨_, _, _, _, _, rfl, Sl.nil _ _ _, Sl.nil _ _ _, Sl.nil _ _ _, Sl.nil _ _ _, Sl.nil _ _ _⟩) rdMessage_any
end Go.Proofs.Ytmokpnkpfodppaa
