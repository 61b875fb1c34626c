
/-
The reference's graphs: Acyclic: the walk.
-/
import Derived.Test.YtlkabhjkncklnaaDgW
namespace Go.Proofs.Ytlkabhjkncklnaa
set_option linter.unusedSimpArgs false
set_option linter.unusedVariables false
open Go.RowKit

def acyQ (s : Int) (es : List Bool) : Bool := openB s es.length && (List.range s.toNat).all fun a => !(reachW s.toNat es).getD (a * s.toNat + a) false
theorem reachW_len (n : Nat) (es : List Bool) : (reachW n es).length = es.length := by
  have hC : ∀ a b m c, (warC n a b m c).length = m.length := fun a b m c => by
    unfold warC
    split <;> simp
  have hF : ∀ (f : List Bool → Nat → List Bool), (∀ m k, (f m k).length = m.length) → ∀ k m, ((List.range k).foldl f m).length = m.length := fun f hf k m => by
    induction k with
    | zero => rfl
    | succ k ih => rw [foldR_succ, hf, ih]
  have hB : ∀ a m b, (warB n a m b).length = m.length := fun a m b => hF _ (hC a b) n m
  have hA : ∀ m a, (warA n m a).length = m.length := fun m a => hF _ (hB a) n m
  have hR : ∀ m r, (warR n m r).length = m.length := fun m r => hF _ hA n m
  exact hF _ hR n es
set_option maxRecDepth 8000 in
set_option maxHeartbeats 3200000 in
theorem qAcyclic_any (s : Int) (v : Value) (es : List Bool) (w : World) (hes : Bools w v es) : Calls Try.prog 12 #[.int .i64 s, v] w fun e w' => e = .returned (.bool (acyQ s es)) ∧ Kp w w' := by
  obtain ⟨A, c, rfl, hc, hm⟩ := hes.form
  have HES := hid hes
  generalize hR : acyQ s es = R
  have HR : Hid (R = (openB s es.length && (List.range s.toNat).all fun a => !(reachW s.toNat es).getD (a * s.toNat + a) false)) := hid hR.symm
  clear hR hes
  go_enter Try.func12, Try.ntmps12
  go_wp2_with fail
  refine (qValid_any s A es.length c w (by omega)).mono ?_
  rintro e w1 ⟨rfl, rfl⟩
  cases ho : openB s es.length with
  | false =>
    have HF : Hid (R = false) := hid (by rw [HR.out, ho]; rfl)
    replace ho := hid ho
    go_wp2
    go_ret
    exact ⟨by rw [HF.out]; rfl, Kp.refl _⟩
  | true =>
    have HQ : Hid (reachQ s es = reachW s.toNat es) := hid (by rw [reachQ, if_pos ho])
    obtain ⟨n, rfl, h1, h6, hl⟩ := openB_iff ho
    have HF : Hid (R = (List.range n).all fun a => !(reachW n es).getD (a * n + a) false) := hid (by rw [HR.out, ho]; rfl)
    have HLN := hid ((reachW_len n es).trans hl)
    have hl36 : n * n ≤ 36 := Nat.mul_le_mul h6 h6
    replace ho := hid ho
    clear hl HR
    go_wp2_with fail
    refine (qReach_any (n : Int) _ es w1 HES.out).mono ?_
    rintro e w2 ⟨v2, rfl, hb2, k2⟩
    rw [HQ.out] at hb2
    replace hb2 : Bools w2 v2 (reachW n es) := hb2
    obtain ⟨A2, c2, rfl, hc2, hm2⟩ := hb2.form
    have hln := HLN.out
    generalize hmm : reachW n es = mm at *
    have HMM := hid hmm
    clear hmm
    rw [hln] at hc2 ⊢
    have HB2 := hid hb2
    replace hln := hid hln
    clear hb2
    go_wp2_with fail
    go_loopw [6] (fun i wr => ∃ k : Nat, k ≤ n ∧ i = .int .i64 (k : Int) ∧ Hid (((List.range k).all fun a => !mm.getD (a * n + a) false) = true) ∧ wr = w2) (fun i _ => n - (intOf i).toNat)
    case atStart => exact ⟨0, Nat.zero_le _, rfl, hid rfl, rfl⟩
    case round =>
      obtain ⟨k, hk, rfl, HK, rfl⟩ := hrel
      by_cases hkn : k < n
      · have hkl : (k : Int) < (n : Int) := by omega
        have HS := hid (by rw [List.range_succ, List.all_append]; simp : ((List.range (k + 1)).all fun a => !mm.getD (a * n + a) false) = (((List.range k).all fun a => !mm.getD (a * n + a) false) && !mm.getD (k * n + k) false))
        have hi : k * n + k < mm.length := by rw [hln.out]; exact idx_lt hkn hkn
        obtain ⟨g, o, hA2, hg, i0⟩ := HB2.out.bools hi
        subst hA2
        have hx : mm.getD (k * n + k) false = mm[k * n + k] := by simp [List.getD, List.getElem?_eq_getElem hi]
        have HX := hid hx
        have hp := mul_cast k n
        have hi2 := hi
        rw [hln.out] at hi2
        have HT : Hid (mm.getD (k * n + k) false = true → ((List.range n).all fun a => !mm.getD (a * n + a) false) = false) := hid fun h => by
          rw [List.all_eq_false]
          exact ⟨k, List.mem_range.2 hkn, by rw [h]; decide⟩
        clear hx
        generalize mm[k * n + k] = x at *
        clear hi
        generalize k * n = kn at *
        have hjl : (kn : Int) + (k : Int) < ((n * n : Nat) : Int) := by omega
        generalize n * n = nn at *
        cases x with
        | true =>
          have HF2 : Hid (R = false) := hid (by rw [HF.out]; exact HT.out HX.out)
          go_wp2
          go_ret
          exact ⟨by rw [HF2.out]; rfl, k2⟩
        | false =>
          have HK2 : Hid (((List.range (k + 1)).all fun a => !mm.getD (a * n + a) false) = true) := hid (by rw [HS.out, HK.out, HX.out]; rfl)
          go_wp2_with fail
          go_roundw
          case rel => exact ⟨k + 1, by omega, by go_num, HK2, trivial⟩
          case measure => simp [intOf]; omega
      · have hkl : ¬ (k : Int) < (n : Int) := by omega
        have HF2 : Hid (R = true) := hid (by rw [HF.out, ← HK.out, show n = k by omega])
        go_wp2
        go_ret
        exact ⟨by rw [HF2.out]; rfl, k2⟩
end Go.Proofs.Ytlkabhjkncklnaa
