
/-
A broker's own requests: their end, a new one: the walks.
-/
import Derived.Test.YtbcekihjcgnhkaaBkD
namespace Go.Proofs.Ytbcekihjcgnhkaa
set_option linter.unusedSimpArgs false
set_option linter.unusedVariables false
open Go.RowKit

theorem B2.ns {S : Nat → Prop} {w : World} {b mb : Nat} {s : Bk} (h : BrW S w b mb s) : ∀ k, S k → ¬ B2 b mb k := fun k hk e => by
  rcases e with rfl | rfl
  · exact h.sb hk
  · exact h.sm hk
theorem Kg.setCells {a : World} {b g : Nat} (hb : g = b ∨ a.heap.size ≤ g) : ∀ (vs : List Value) (o : Nat) {w : World}, Kg a w b → Kg a (w.setCells g o vs) b
  | [], _, _, h => h
  | v :: r, o, w, h => by
    rw [World.setCells]
    exact Kg.setCells hb r (o + 1) (h.set (p := ⟨g, o, none⟩) hb v)
set_option maxRecDepth 8000 in
set_option maxHeartbeats 1600000 in
theorem bRest_any {S : Nat → Prop} {b mb : Nat} {s : Bk} {w : World} (h : BrW S w b mb s) :
    Calls Try.prog 22 #[.pointer (some ⟨b, 0, none⟩)] w fun e w' => e = .returned (.tuple #[askV (rest s).2.1 (.slice none 0 0), .bool (rest s).2.2]) ∧ BrW S w' b mb (rest s).1 ∧ Fx (B2 b mb) w w' := by
  obtain ⟨ov, hb, ho⟩ := h.box
  have hlt := h.lt
  have k1 := (Kp.refl w).alloc (.cells #[.int .i64 0, .int .i64 0, .int .i64 0, .int .i64 0, .int .i64 0, .slice none 0 0] 29)
  have hR := Bx.new w #[.int .i64 0, .int .i64 0, .int .i64 0, .int .i64 0, .int .i64 0, .slice none 0 0] 29
  have hb1 := hb.kp k1 hlt
  have h1 := h.kp k1
  have ho1 := ho.step k1.size fun k _ hk => k1.block hk
  have hz1 : (w.alloc (.cells #[.int .i64 0, .int .i64 0, .int .i64 0, .int .i64 0, .int .i64 0, .slice none 0 0] 29)).heap.size = w.heap.size + 1 := by simp
  have hok := h.ok.num
  have HH := hid h
  clear h hb ho
  generalize hr : rest s = r
  have HR := hid hr
  clear hr
  go_enter Try.func22, Try.ntmps22
  go_upto_region 1 with (fail)
  generalize w.alloc (.cells #[.int .i64 0, .int .i64 0, .int .i64 0, .int .i64 0, .int .i64 0, .slice none 0 0] 29) = w1 at *
  have hrb := hR.lt (by simp)
  generalize hrbe : w.heap.size = rb at *
  have HRB := hid hrbe
  clear hrbe
  have c2 := hb1.cell (j := 2) rfl
  have f2 := hb1.free (j := 2) (by simp)
  have c3 := hb1.cell (j := 3) rfl
  have f3 := hb1.free (j := 3) (by simp)
  have hne : b ≠ rb := by omega
  by_cases hn : 1048576 ≤ s.num
  · have e1 : decide (1048576 ≤ s.num) = true := decide_eq_true hn
    obtain rfl : r = (s, zAk, false) := by rw [← HR.out, rest, if_pos hn]
    go_wp2_with (refine wpList_store_mid rfl 29 (.tmp 2) (.tmp 9) rfl rb 0 #[.int .i64 0, .int .i64 0, .int .i64 0, .int .i64 0, .int .i64 0, .slice none 0 0] rfl rfl hR.there (by kernel_rfl) (all_oneCell_toArray (by simp [Value.oneCell'])) ?_)
    try simp only [Exit.inBlock, Exit.then]
    have hRa := hR.all (cs := [.int .i64 0, .int .i64 0, .int .i64 0, .int .i64 0, .int .i64 0, .slice none 0 0]) (by rfl)
    refine bodyPost_ret (results_cell_bx2 rfl _ _ rb _ _ rfl hRa.range Try.underlying29 rfl (by kernel_rfl)) rfl ?_
    have hk := Kp.setCells (a := w) (Nat.le_of_eq HRB.out) [.int .i64 0, .int .i64 0, .int .i64 0, .int .i64 0, .int .i64 0, .slice none 0 0] 0 w1 k1
    exact ⟨rfl, HH.out.kp hk, hk.fx _⟩
  · have e1 : decide (1048576 ≤ s.num) = false := decide_eq_false hn
    obtain rfl : r = ({ s with num := s.num + 1, own := none }, ⟨s.num + 1, (0, 0, 0, 0), []⟩, true) := by rw [← HR.out, rest, if_neg hn]
    have z1 : IntKind.i64.wrap (s.num + 1) = s.num + 1 := IntWalk.i64_in _ (by omega)
    have z2 : wrap64 (s.num + 1) = s.num + 1 := IntWalk.wrap64_in _ (by omega)
    generalize hm1 : s.num + 1 = m1 at *
    have hb2 := (hb1.set (j := 2) (by simp) (.int .i64 m1)).set (j := 3) (by simp) (.pointer none)
    simp only [List.set_cons_zero, List.set_cons_succ] at hb2
    have hR2 := (hR.keep (set_block w1 ⟨b, 2, none⟩ (.int .i64 m1) rb (fun e => hne e.symm))).keep (set_block _ ⟨b, 3, none⟩ (.pointer none) rb (fun e => hne e.symm))
    have kg := ((k1.kg b).set (p := ⟨b, 2, none⟩) (.inl rfl) (.int .i64 m1)).set (p := ⟨b, 3, none⟩) (.inl rfl) (.pointer none)
    go_upto_region 5 with (fail)
    generalize (w1.setCell ⟨b, 2, none⟩ (.int .i64 m1)).setCell ⟨b, 3, none⟩ (.pointer none) = w2 at *
    have c22 := hb2.cell (j := 2) rfl
    go_wp2_with (refine wpList_store_mid rfl 29 (.tmp 2) (.tmp 24) rfl rb 0 #[.int .i64 m1, .int .i64 0, .int .i64 0, .int .i64 0, .int .i64 0, .slice none 0 0] rfl rfl hR2.there (by kernel_rfl) (all_oneCell_toArray (by simp [Value.oneCell'])) ?_)
    try simp only [Exit.inBlock, Exit.then]
    have hRa := hR2.all (cs := [.int .i64 m1, .int .i64 0, .int .i64 0, .int .i64 0, .int .i64 0, .slice none 0 0]) (by rfl)
    refine bodyPost_ret (results_cell_bx2 rfl _ _ rb _ _ rfl hRa.range Try.underlying29 rfl (by kernel_rfl)) rfl ?_
    have kg3 : Kg w (w2.setCells rb 0 [.int .i64 m1, .int .i64 0, .int .i64 0, .int .i64 0, .int .i64 0, .slice none 0 0]) b := Kg.setCells (.inr (Nat.le_of_eq HRB.out)) _ 0 kg
    have hb3 := hb2.keep (setCells_block rb b hne [.int .i64 m1, .int .i64 0, .int .i64 0, .int .i64 0, .int .i64 0, .slice none 0 0] 0 w2)
    exact ⟨rfl, HH.out.box' kg3 hb3 rfl rfl ⟨HH.out.ok.n1, HH.out.ok.i1, by dsimp only; omega, by simp, HH.out.ok.key⟩, kg3.fx (.inl (.inl rfl))⟩
end Go.Proofs.Ytbcekihjcgnhkaa
