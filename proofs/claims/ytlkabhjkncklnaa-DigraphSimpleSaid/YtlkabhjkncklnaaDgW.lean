
/-
The reference's graphs: Reach: the walk.
-/
import Derived.Test.YtlkabhjkncklnaaDgS
namespace Go.Proofs.Ytlkabhjkncklnaa
set_option linter.unusedSimpArgs false
set_option linter.unusedVariables false
open Go.RowKit

theorem foldR_succ {β : Type} (f : β → Nat → β) (b : β) (k : Nat) : (List.range (k + 1)).foldl f b = f ((List.range k).foldl f b) k := by
  rw [List.range_succ, List.foldl_append]
  rfl
def warC (n a b : Nat) (m : List Bool) (c : Nat) : List Bool := if m.getD (a * n + b) false = true ∧ m.getD (b * n + c) false = true then m.set (a * n + c) true else m
def warB (n a : Nat) (m : List Bool) (b : Nat) : List Bool := (List.range n).foldl (warC n a b) m
def warA (n : Nat) (m : List Bool) (a : Nat) : List Bool := (List.range n).foldl (warB n a) m
def warR (n : Nat) (m : List Bool) (_ : Nat) : List Bool := (List.range n).foldl (warA n) m
def reachW (n : Nat) (es : List Bool) : List Bool := (List.range n).foldl (warR n) es
def reachQ (s : Int) (es : List Bool) : List Bool := if openB s es.length = true then reachW s.toNat es else []
theorem own_len {α : Type} {enc : α → List Value} {e size base : Nat} {w : World} {A : Option Addr} {n c : Nat} {l : List α} (h : Own enc e size base w (.slice A n c) l) : l.length = n := by
  obtain ⟨A', c', e, -, -⟩ := h.form
  injection e with _ e2
  exact e2.symm
theorem mul_cast (a n : Nat) : (a : Int) * (n : Int) = ((a * n : Nat) : Int) := by push_cast; rfl
set_option maxRecDepth 20000 in
set_option maxHeartbeats 8000000 in
theorem qReach_any (s : Int) (v : Value) (es : List Bool) (w : World) (hes : Bools w v es) : Calls Try.prog 15 #[.int .i64 s, v] w fun e w' => ∃ v', e = .returned v' ∧ Bools w' v' (reachQ s es) ∧ Kp w w' := by
  obtain ⟨A, c, rfl, hc, hm⟩ := hes.form
  have HES := hid hes
  generalize hR : reachQ s es = R
  have HR : Hid (R = if openB s es.length = true then reachW s.toNat es else []) := hid hR.symm
  clear hR hes
  go_enter Try.func15, Try.ntmps15
  go_wp2_with fail
  refine (qValid_any s A es.length c w (by omega)).mono ?_
  rintro e w1 ⟨rfl, rfl⟩
  cases ho : openB s es.length with
  | false =>
    have HF : Hid (R = []) := hid (by rw [HR.out, if_neg (by rw [ho]; simp)])
    replace ho := hid ho
    go_wp2
    go_ret
    exact ⟨_, rfl, by rw [HF.out]; exact Sl.nil _ _ _, Kp.refl _⟩
  | true =>
    obtain ⟨n, rfl, h1, h6, hl⟩ := openB_iff ho
    have HF : Hid (R = reachW n es) := hid (by rw [HR.out, if_pos ho]; rfl)
    have hnn : (n : Int) * (n : Int) = (es.length : Int) := by rw [mul_cast, hl]
    have hl36 : es.length ≤ 36 := by rw [hl]; exact Nat.mul_le_mul h6 h6
    have HL := hid hl
    replace ho := hid ho
    clear hl HR
    have o0 := Own.lit (base := w1.heap.size) (size := 1) encBool (e := 4) w1 #[] [] (Nat.le_refl _) (by simp) rfl rfl
    have k0 := (Kp.refl w1).alloc (.cells #[] 4)
    go_wp2_with fail
    go_loopw [5, 6] (fun ov i wr => ∃ k : Nat, k ≤ es.length ∧ i = .int .i64 (k : Int) ∧ Own encBool 4 1 w1.heap.size wr ov (es.take k) ∧ Kp w1 wr) (fun _ i _ => es.length - (intOf i).toNat)
    case atStart => exact ⟨0, Nat.zero_le _, rfl, o0, k0⟩
    case round =>
      clear o0 k0
      obtain ⟨k, hk, rfl, own, kr⟩ := hrel
      obtain ⟨Ao, co, e0, hco, hmo⟩ := own.form
      have hlt1 : (es.take k).length = k := by rw [List.length_take]; omega
      rw [hlt1] at e0
      subst e0
      have hge := own.ge
      have hzr := kr.size
      by_cases hlt : k < es.length
      · have hkl : (k : Int) < (es.length : Int) := by omega
        obtain ⟨g, o, rfl, hg, i0⟩ := (HES.out.keep (pl_stable _) kr).bools (k := k) hlt
        have HX := hid (List.take_succ_eq_append_getElem hlt)
        generalize es[k] = y at *
        go_wp2_with (at_builtin; refine wpl_append_flat rfl (.tmp 23) (.tmp 28) rfl stBoolM encBool_len encBool_one rfl (own.alloc _) rfl (Sl.one (R := Pl encBool) wr _ 4 1 y rfl rfl) (by rw [hlt1]; simp; omega) (by rw [hlt1]; simp; omega) (by simp; omega) ?_; intro vA wA ownA hgr hat hnil)
        have krA := (kr.alloc (.cells #[.bool y] 4)).grown hgr hge
        clear hgr hat hnil
        go_roundw
        case rel => exact ⟨k + 1, by omega, by go_num, by rw [HX.out]; exact ownA, krA⟩
        case measure => simp [intOf]; omega
      · obtain rfl : k = es.length := by omega
        have hkl : ¬ (es.length : Int) < (es.length : Int) := by omega
        rw [List.take_length] at own
        obtain ⟨g, rfl, hg1, hg2⟩ := own.at_ (by rw [HL.out]; exact Nat.mul_pos h1 h1)
        clear hge hlt1 hk hlt
        go_wp2_with fail
        obtain ⟨wv0, rfl⟩ : ∃ wv : World, wv = wr := ⟨_, rfl⟩
        go_loopw [7] (fun i wi => ∃ (r0 : Nat) (m1 : List Bool), r0 ≤ n ∧ i = .int .i64 (r0 : Int) ∧ Own encBool 4 1 w1.heap.size wi (.slice (some ⟨g, 0, none⟩) es.length co) m1 ∧ Hid (m1 = (List.range r0).foldl (warR n) es) ∧ Kp w1 wi) (fun i _ => n - (intOf i).toNat)
        case atStart => exact ⟨0, es, Nat.zero_le _, rfl, own, hid rfl, kr⟩
        case round =>
          clear own kr
          obtain ⟨r0, m1, hr0, rfl, own, H1, kr⟩ := hrel
          by_cases hr0n : r0 < n
          · have hr0l : (r0 : Int) < (n : Int) := by omega
            have HS1 := hid (foldR_succ (warR n) es r0)
            go_wp2_with fail
            obtain ⟨wv1, rfl⟩ : ∃ wv : World, wv = wr := ⟨_, rfl⟩
            go_loopw [8] (fun i wi => ∃ (a0 : Nat) (m2 : List Bool), a0 ≤ n ∧ i = .int .i64 (a0 : Int) ∧ Own encBool 4 1 w1.heap.size wi (.slice (some ⟨g, 0, none⟩) es.length co) m2 ∧ Hid (m2 = (List.range a0).foldl (warA n) m1) ∧ Kp w1 wi) (fun i _ => n - (intOf i).toNat)
            case atStart => exact ⟨0, m1, Nat.zero_le _, rfl, own, hid rfl, kr⟩
            case round =>
              clear own kr
              obtain ⟨a0, m2, ha0, rfl, own, H2, kr⟩ := hrel
              by_cases ha0n : a0 < n
              · have ha0l : (a0 : Int) < (n : Int) := by omega
                have HS2 := hid (foldR_succ (warA n) m1 a0)
                go_wp2_with fail
                obtain ⟨wv2, rfl⟩ : ∃ wv : World, wv = wr := ⟨_, rfl⟩
                go_loopw [9] (fun i wi => ∃ (b0 : Nat) (m3 : List Bool), b0 ≤ n ∧ i = .int .i64 (b0 : Int) ∧ Own encBool 4 1 w1.heap.size wi (.slice (some ⟨g, 0, none⟩) es.length co) m3 ∧ Hid (m3 = (List.range b0).foldl (warB n a0) m2) ∧ Kp w1 wi) (fun i _ => n - (intOf i).toNat)
                case atStart => exact ⟨0, m2, Nat.zero_le _, rfl, own, hid rfl, kr⟩
                case round =>
                  clear own kr
                  obtain ⟨b0, m3, hb0, rfl, own, H3, kr⟩ := hrel
                  by_cases hb0n : b0 < n
                  · have hb0l : (b0 : Int) < (n : Int) := by omega
                    have HS3 := hid (foldR_succ (warB n a0) m2 b0)
                    go_wp2_with fail
                    obtain ⟨wv3, rfl⟩ : ∃ wv : World, wv = wr := ⟨_, rfl⟩
                    go_loopw [10] (fun i wi => ∃ (c0 : Nat) (m4 : List Bool), c0 ≤ n ∧ i = .int .i64 (c0 : Int) ∧ Own encBool 4 1 w1.heap.size wi (.slice (some ⟨g, 0, none⟩) es.length co) m4 ∧ Hid (m4 = (List.range c0).foldl (warC n a0 b0) m3) ∧ Kp w1 wi) (fun i _ => n - (intOf i).toNat)
                    case atStart => exact ⟨0, m3, Nat.zero_le _, rfl, own, hid rfl, kr⟩
                    case round =>
                      clear own kr
                      obtain ⟨c0, m4, hc0, rfl, own, H4, kr⟩ := hrel
                      by_cases hc0n : c0 < n
                      · have hc0l : (c0 : Int) < (n : Int) := by omega
                        have HS4 := hid (foldR_succ (warC n a0 b0) m3 c0)
                        have hml : m4.length = es.length := own_len own
                        have HML := hid hml
                        have hi1 : a0 * n + b0 < m4.length := by rw [hml, HL.out]; exact idx_lt ha0n hb0n
                        have hi2 : b0 * n + c0 < m4.length := by rw [hml, HL.out]; exact idx_lt hb0n hc0n
                        have hi3 : a0 * n + c0 < m4.length := by rw [hml, HL.out]; exact idx_lt ha0n hc0n
                        have hp1 := mul_cast a0 n
                        have hp2 := mul_cast b0 n
                        have d1 := own.boolCell hml.symm hi1
                        have d2 := own.boolCell hml.symm hi2
                        have d3 := own.boolCell hml.symm hi3
                        have fz := own.frozen hml.symm (a0 * n + c0)
                        have own4 := own.boolSet hml.symm hi3 true
                        have g1 : m4.getD (a0 * n + b0) false = m4[a0 * n + b0] := by simp [List.getD, List.getElem?_eq_getElem hi1]
                        have g2 : m4.getD (b0 * n + c0) false = m4[b0 * n + c0] := by simp [List.getD, List.getElem?_eq_getElem hi2]
                        have HW : Hid (warC n a0 b0 m4 c0 = if m4[a0 * n + b0] = true ∧ m4[b0 * n + c0] = true then m4.set (a0 * n + c0) true else m4) := hid (by rw [warC, g1, g2])
                        clear g1 g2
                        generalize m4[a0 * n + b0] = x1 at *
                        generalize m4[b0 * n + c0] = x2 at *
                        generalize m4[a0 * n + c0] = x3 at *
                        rw [hml] at hi1 hi2 hi3
                        clear hml
                        generalize a0 * n = an at *
                        generalize b0 * n = bn at *
                        have hj1 : (an : Int) + (b0 : Int) < (es.length : Int) := by omega
                        have hj2 : (bn : Int) + (c0 : Int) < (es.length : Int) := by omega
                        have hj3 : (an : Int) + (c0 : Int) < (es.length : Int) := by omega
                        cases x1 with
                        | false =>
                          have HNO : Hid (warC n a0 b0 m4 c0 = m4) := hid (by rw [HW.out]; simp)
                          clear own4
                          go_wp2_with fail
                          go_roundw
                          case rel => exact ⟨c0 + 1, m4, by omega, by go_num, own, hid (by rw [HS4.out, ← H4.out, HNO.out]), kr⟩
                          case measure => simp [intOf]; omega
                        | true =>
                          cases x2 with
                          | false =>
                            have HNO : Hid (warC n a0 b0 m4 c0 = m4) := hid (by rw [HW.out]; simp)
                            clear own4
                            go_wp2_with fail
                            go_roundw
                            case rel => exact ⟨c0 + 1, m4, by omega, by go_num, own, hid (by rw [HS4.out, ← H4.out, HNO.out]), kr⟩
                            case measure => simp [intOf]; omega
                          | true =>
                            have HYES : Hid (warC n a0 b0 m4 c0 = m4.set (an + c0) true) := hid (by rw [HW.out]; simp)
                            have krS := kr.set (p := ⟨g, an + c0, none⟩) hg1 (.bool true)
                            go_wp2_with fail
                            go_roundw
                            case rel => exact ⟨c0 + 1, m4.set (an + c0) true, by omega, by go_num, own4, hid (by rw [HS4.out, ← H4.out, HYES.out]), krS⟩
                            case measure => simp [intOf]; omega
                      · have hc0l : ¬ (c0 : Int) < (n : Int) := by omega
                        have H4n : Hid (m4 = (List.range n).foldl (warC n a0 b0) m3) := hid (by rw [H4.out, show c0 = n by omega])
                        go_wp2_with fail
                        go_roundw
                        case rel => exact ⟨b0 + 1, m4, by omega, by go_num, own, hid (by rw [HS3.out, ← H3.out, H4n.out]; rfl), kr⟩
                        case measure => simp [intOf]; omega
                  · have hb0l : ¬ (b0 : Int) < (n : Int) := by omega
                    have H3n : Hid (m3 = (List.range n).foldl (warB n a0) m2) := hid (by rw [H3.out, show b0 = n by omega])
                    go_wp2_with fail
                    go_roundw
                    case rel => exact ⟨a0 + 1, m3, by omega, by go_num, own, hid (by rw [HS2.out, ← H2.out, H3n.out]; rfl), kr⟩
                    case measure => simp [intOf]; omega
              · have ha0l : ¬ (a0 : Int) < (n : Int) := by omega
                have H2n : Hid (m2 = (List.range n).foldl (warA n) m1) := hid (by rw [H2.out, show a0 = n by omega])
                go_wp2_with fail
                go_roundw
                case rel => exact ⟨r0 + 1, m2, by omega, by go_num, own, hid (by rw [HS1.out, ← H1.out, H2n.out]; rfl), kr⟩
                case measure => simp [intOf]; omega
          · have hr0l : ¬ (r0 : Int) < (n : Int) := by omega
            have H1n : Hid (m1 = (List.range n).foldl (warR n) es) := hid (by rw [H1.out, show r0 = n by omega])
            go_wp2
            go_ret
            exact ⟨_, rfl, by rw [HF.out, reachW, ← H1n.out]; exact own.sl encBool_len, kr⟩
end Go.Proofs.Ytlkabhjkncklnaa
