
/-
The queue's Pop, and the heap's Push and Pop: the walks.
-/
import Derived.Test.YtmokpnkpfodppaaHeapQ5
namespace Go.Proofs.Ytmokpnkpfodppaa
set_option linter.unusedSimpArgs false
set_option linter.unusedVariables false
open Go.RowKit

/-- .. and this one -/
def orP (S : Nat → Prop) (g : Nat) : Nat → Prop := fun k => S k ∨ k = g
theorem mPush (nb : Nat) (w : World) : Sem.run Try.prog (method 296 103 (.pointer (some ⟨nb, 4, none⟩)) "Push") w = .ok (124, .pointer (some ⟨nb, 4, none⟩)) w := by kernel_rfl
theorem mPop (nb : Nat) (w : World) : Sem.run Try.prog (method 296 103 (.pointer (some ⟨nb, 4, none⟩)) "Pop") w = .ok (123, .pointer (some ⟨nb, 4, none⟩)) w := by kernel_rfl
set_option maxRecDepth 8000 in
set_option maxHeartbeats 1600000 in
theorem qPop_any (nb g n c : Nat) (cs : List Value) (l : List Par) (w : World) (hB : Bx w nb cs) (h4 : cs[4]? = some (.slice (some ⟨g, 0, none⟩) (n + 1) c)) (own : Own encPar 105 5 (nb + 1) w (.slice (some ⟨g, 0, none⟩) (n + 1) c) l) (hn : n + 1 = l.length) (hl : l.length ≤ 2000) :
    Calls Try.prog 123 #[.pointer (some ⟨nb, 4, none⟩)] w fun e w' => e = .returned (.iface 105 (.agg (encPar (l.getD n default)).toArray)) ∧ Own encPar 105 5 (nb + 1) w' (.slice (some ⟨g, 0, none⟩) n c) (l.take n) ∧ Bx w' nb (cs.set 4 (.slice (some ⟨g, 0, none⟩) n c)) ∧ Kg w w' nb := by
  have hc := hB.cell h4
  have hnb := block_lt_of_cell hc
  have h4l : 4 < cs.length := (List.getElem?_eq_some_iff.1 h4).1
  have hf := hB.free h4l
  have hnl : n < l.length := by omega
  have own' := own
  rw [hn] at own'
  obtain ⟨b, o, he, hb, i0, i1, i2, i3, i4⟩ := (own'.sl encPar_len).par hnl
  injection he with he
  injection he with e1 e2
  subst e1 e2
  have hgn : nb ≠ g := by
    have := own.ge g rfl
    omega
  have own2 := own.trunc encPar_len hn (m := n) (by omega)
  have hcap := own.form
  obtain ⟨A0, c0, e0, hc1, hc2⟩ := hcap
  rw [← hn] at e0 hc1
  injection e0 with x0 _ e0
  subst x0 e0
  have HX : Hid (l.getD n default = l[n]) := hid (by simp [List.getD, hnl])
  rw [HX.out]
  clear HX own own'
  generalize l[n] = p at *
  simp only [Nat.zero_add] at i0 i1 i2 i3 i4
  have HB := hid hB
  have k1 := (Kp.refl w).alloc (.cells (encPar p).toArray 105)
  clear hB
  have hnw : (n : Int) + 1 ≤ 2000 := by omega
  clear hn hl hnl
  go_enter Try.func123, Try.ntmps123
  go_wp2_with fail
  go_ret
  have kg := (Kg.refl w nb).set (p := ⟨nb, 4, none⟩) (.inl rfl) (.slice (some ⟨g, 0, none⟩) n c)
  exact ⟨rfl, (own2.kg kg (Nat.lt_succ_self _)).kp ((Kp.refl _).alloc _), (HB.out.set h4l _).kp ((Kp.refl _).alloc _) (by simpa using hnb), kg.alloc _⟩
set_option maxRecDepth 8000 in
set_option maxHeartbeats 1600000 in
theorem hPush_any (nb : Nat) (cs : List Value) (sv : Value) (l : List Par) (p : Par) (w : World) (hB : Bx w nb cs) (h4 : cs[4]? = some sv) (own : Own encPar 105 5 (nb + 1) w sv l) (hl : l.length + 1 ≤ 2000) :
    Calls Try.prog 41 #[.iface 103 (.pointer (some ⟨nb, 4, none⟩)), .iface 105 (.agg (encPar p).toArray)] w fun e w' => e = .returned (.tuple #[]) ∧ ∃ g c, Own encPar 105 5 (nb + 1) w' (.slice (some ⟨g, 0, none⟩) (l.length + 1) c) (upL (l.length + 1) (l ++ [p]) l.length) ∧ Bx w' nb (cs.set 4 (.slice (some ⟨g, 0, none⟩) (l.length + 1) c)) ∧ Fr (Qb nb sv) w w' ∧ (sv.ownBlock = some g ∨ w.heap.size ≤ g) := by
  have h4l : 4 < cs.length := (List.getElem?_eq_some_iff.1 h4).1
  have m0 := mPush nb w
  go_enter Try.func41, Try.ntmps41
  go_wp2_with fail
  refine (qPush_any nb cs sv l p w hB h4 own (by omega)).mono ?_
  rintro e w1 ⟨rfl, v1, own1, hB1, hfr1, hat1⟩
  obtain ⟨g, c, rfl, hc1, hm1, hg1, hgl1⟩ := own1.row (by simp)
  replace hat1 := hid (hat1 g rfl)
  rw [List.length_append, List.length_singleton] at own1 hB1 hc1
  have hgn : nb ≠ g := by omega
  have hc : w1.cell? ⟨nb, 4, none⟩ = some (.slice (some ⟨g, 0, none⟩) (l.length + 1) c) := hB1.cell (by simp [h4l])
  have m1 := mLen nb _ _ hc
  have hl2 : (l.length : Int) + 1 ≤ 2000 := by omega
  have HL := hid hl
  clear m0 hB own hl
  go_wp2_with fail
  refine (qLen_any _ _ _ _).mono ?_
  rintro e w2 ⟨rfl, rfl⟩
  go_wp2_with fail
  refine (hUp_any nb g (l.length + 1) c (nb + 1) (l ++ [p]) l.length _ own1 (by simp) (by simp) (by have := HL.out; simp; omega) hc hgn).mono ?_
  rintro e w3 ⟨rfl, own3, hkg3⟩
  have hB3 := hB1.kg hkg3 (block_lt_of_cell hc) hgn
  clear m1 hc own1 hB1
  go_wp2_with fail
  go_end0
  refine ⟨rfl, g, c, own3, hB3, hfr1.trans2 (hkg3.fr (S := orP (Qb nb sv) g) (.inr rfl)) fun i hi hlt => ?_, hat1.out⟩
  rcases hi with h | rfl
  · exact h
  · rcases hat1.out with h | h
    · exact .inr h
    · omega
set_option maxRecDepth 8000 in
set_option maxHeartbeats 1600000 in
theorem hPop_any (nb g n c : Nat) (cs : List Value) (l : List Par) (w : World) (hB : Bx w nb cs) (h4 : cs[4]? = some (.slice (some ⟨g, 0, none⟩) (n + 1) c)) (own : Own encPar 105 5 (nb + 1) w (.slice (some ⟨g, 0, none⟩) (n + 1) c) l) (hn : n + 1 = l.length) (hl : l.length ≤ 2000) :
    Calls Try.prog 42 #[.iface 103 (.pointer (some ⟨nb, 4, none⟩))] w fun e w' => e = .returned (.iface 105 (.agg (encPar (gt (downL (n + 1) (swapL l 0 n) 0 n) n)).toArray)) ∧ Own encPar 105 5 (nb + 1) w' (.slice (some ⟨g, 0, none⟩) n c) ((downL (n + 1) (swapL l 0 n) 0 n).take n) ∧ Bx w' nb (cs.set 4 (.slice (some ⟨g, 0, none⟩) n c)) ∧ Fr (Qb nb (.slice (some ⟨g, 0, none⟩) (n + 1) c)) w w' := by
  have h4l : 4 < cs.length := (List.getElem?_eq_some_iff.1 h4).1
  have hc := hB.cell h4
  have m0 := mLen nb _ _ hc
  have hgn : nb ≠ g := by
    have := own.ge g rfl
    omega
  have hl2 : (n : Int) + 1 ≤ 2000 := by omega
  have HN := hid hn
  have HL := hid hl
  generalize hD0 : downL (n + 1) (swapL l 0 n) 0 n = D
  generalize hX0 : gt D n = X
  have HD := hid hD0
  have HX : Hid (D.getD n default = X) := hid hX0
  have hDl : Hid (D.length = n + 1) := hid (by rw [← hD0, downL_len, swapL_len]; exact hn.symm)
  clear hn hl hD0 hX0
  go_enter Try.func42, Try.ntmps42
  go_wp2_with fail
  refine (qLen_any _ _ _ _).mono ?_
  rintro e w2 ⟨rfl, rfl⟩
  have m1 := mSwap nb _ _ hc
  go_wp2_with fail
  refine (qSwap_any (nb + 1) g (n + 1) c l 0 n _ own HN.out (by have := HN.out; omega) (by have := HN.out; omega)).mono ?_
  rintro e w3 ⟨rfl, own3, hkg3⟩
  have hB3 := hB.kg hkg3 (block_lt_of_cell hc) hgn
  have hc3 := hB3.cell h4
  clear m0 m1 hc own hB
  go_wp2_with fail
  refine (hDown_any nb g (n + 1) n c (nb + 1) (swapL l 0 n) _ own3 (by rw [swapL_len]; exact HN.out) (by rw [swapL_len]; have := HN.out; omega) (by rw [swapL_len]; exact HL.out) hc3 hgn).mono ?_
  rintro e w4 ⟨⟨bb, rfl⟩, own4, hkg4⟩
  have hB4 := hB3.kg hkg4 (block_lt_of_cell hc3) hgn
  rw [HD.out] at own4
  have hc4 := hB4.cell h4
  have m2 := mPop nb w4
  clear hc3 own3 hB3
  go_wp2_with fail
  refine (qPop_any nb g n c cs D _ hB4 h4 own4 hDl.out.symm (by rw [hDl.out]; omega)).mono ?_
  rw [HX.out]
  rintro e w5 ⟨rfl, own5, hB5, hkg5⟩
  clear m2 hc4 hB4 own4
  go_wp2_with fail
  go_ret
  exact ⟨rfl, own5, hB5, ((hkg3.trans hkg4).fr (.inr rfl)).trans (hkg5.fr (.inl rfl))⟩
end Go.Proofs.Ytmokpnkpfodppaa
