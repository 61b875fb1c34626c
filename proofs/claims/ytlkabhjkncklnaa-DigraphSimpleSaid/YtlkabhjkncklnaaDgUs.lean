
/-
The law's own test whether a cycle uses an edge: the walk.
-/
import Derived.Test.YtlkabhjkncklnaaDgMn
import Derived.Test.YtlkabhjkncklnaaDgAw
namespace Go.Proofs.Ytlkabhjkncklnaa
set_option linter.unusedSimpArgs false
set_option linter.unusedVariables false
open Go.RowKit

/-- whether the cycle goes over an edge -/
def useB (n : Nat) (c : List Nat) (k : Nat) : Bool := (List.range c.length).any fun i => decide (c.getD i 0 * n + c.getD ((i + 1) % c.length) 0 = k)
theorem use_true {n : Nat} {c : List Nat} {k i : Nat} (h : i < c.length) (e : c.getD i 0 * n + c.getD ((i + 1) % c.length) 0 = k) : useB n c k = true :=
  List.any_eq_true.2 ⟨i, List.mem_range.2 h, decide_eq_true e⟩
theorem use_false {n : Nat} {c : List Nat} {k : Nat} (h : ∀ i, i < c.length → c.getD i 0 * n + c.getD ((i + 1) % c.length) 0 ≠ k) : useB n c k = false :=
  Bool.eq_false_iff.2 fun ht => by
    obtain ⟨i, hi, e⟩ := List.any_eq_true.1 ht
    exact h i (List.mem_range.1 hi) (of_decide_eq_true e)
theorem getD_at {l : List Nat} {i : Nat} (h : i < l.length) : l.getD i 0 = l[i] := by
  rw [List.getD_eq_getElem?_getD, List.getElem?_eq_getElem h]
  rfl
set_option maxRecDepth 8000 in
set_option maxHeartbeats 8000000 in
theorem use_any (n k : Nat) (ps pk : Addr) (v : Value) (c : List Nat) (w : World) (hc : Ints w v (castL c)) (hlt : ∀ x ∈ c, x < n) (h6 : n ≤ 6) (hk : k ≤ 36) (hcl : c.length ≤ 6) (cs : w.cell? ps = some (.int .i64 (n : Int))) (ck : w.cell? pk = some (.int .i64 (k : Int))) :
    Calls Try.prog 41 #[v, .pointer (some ps), .pointer (some pk)] w fun e w' => e = .returned (.bool (useB n c k)) ∧ Kp w w' := by
  obtain ⟨A, cap, rfl, hcc, hcm⟩ := hc.form
  rw [castL_len] at hcc ⊢
  generalize hR : useB n c k = R
  have HR := hid hR
  have HC : Hid (Ints w (.slice A c.length cap) (castL c)) := hid (by rw [castL_len] at hc; exact hc)
  have HLT := hid hlt
  have CS := hid cs
  have CK := hid ck
  clear hR hc hlt cs ck
  go_enter Try.func41, Try.ntmps41
  go_wp2_with fail
  go_loopw [9] (fun iv wr => ∃ i : Nat, i ≤ c.length ∧ iv = .int .i64 (i : Int) ∧ Hid (∀ j, j < i → c.getD j 0 * n + c.getD ((j + 1) % c.length) 0 ≠ k) ∧ Kp w wr) (fun iv _ => c.length - (intOf iv).toNat)
  case atStart => exact ⟨0, Nat.zero_le _, rfl, hid (fun j hj => absurd hj (by omega)), Kp.refl _⟩
  case round =>
    obtain ⟨i, hi, rfl, HN, kr⟩ := hrel
    by_cases hp : i < c.length
    · obtain ⟨g, o, hA, hg, i1⟩ := (HC.out.keep (pl_stable _) kr).ints (k := i) (by rw [castL_len]; exact hp)
      have hj := Nat.mod_lt (i + 1) (show 0 < c.length by omega)
      have ht : Int.tmod ((i : Int) + 1) (c.length : Int) = (((i + 1) % c.length : Nat) : Int) := by
        rw [Int.ofNat_tmod]; push_cast; rfl
      have ht2 : ((i : Int) + 1) % (c.length : Int) = (((i + 1) % c.length : Nat) : Int) := by push_cast; rfl
      have HU := hid (fun e => HR.out.symm.trans (use_true (n := n) (k := k) hp e))
      have HG1 := hid (getD_at hp)
      have HG2 := hid (getD_at hj)
      have HV := hid (HLT.out _ (List.getElem_mem hp))
      have HW := hid (HLT.out _ (List.getElem_mem hj))
      have HN2 : Hid (c.getD i 0 * n + c.getD ((i + 1) % c.length) 0 ≠ k → ∀ j, j < i + 1 → c.getD j 0 * n + c.getD ((j + 1) % c.length) 0 ≠ k) := hid (fun h j hj => by
        rcases Nat.lt_or_ge j i with h2 | h2
        · exact HN.out j h2
        · obtain rfl : j = i := by omega
          exact h)
      obtain ⟨g', o', hA', -, i2⟩ := (HC.out.keep (pl_stable _) kr).ints (k := (i + 1) % c.length) (by rw [castL_len]; exact hj)
      subst hA
      injection hA' with hA'
      injection hA' with c1 c2
      subst c1 c2
      rw [castL_get c i hp] at i1
      rw [castL_get c _ hj] at i2
      rw [HG1.out, HG2.out] at HU HN2
      have hcs := kr.cellS CS.out
      have hck := kr.cellS CK.out
      clear HG1 HG2
      generalize c[(i + 1) % c.length] = u at *
      generalize c[i] = av at *
      generalize (i + 1) % c.length = j at *
      have hp1 := mul_cast av n
      have han : av * n ≤ 36 := by
        have h1 := HV.out
        calc av * n ≤ 6 * 6 := Nat.mul_le_mul (by omega) h6
          _ = 36 := rfl
      generalize av * n = an at *
      have hu6 : u ≤ 6 := by have := HW.out; omega
      have hci : (i : Int) < (c.length : Int) := by omega
      have hcj : (j : Int) < (c.length : Int) := by omega
      have hc0 : ¬ (c.length : Int) = 0 := by omega
      have hcl6 : (c.length : Int) ≤ 6 := by omega
      have HNE : Hid (¬ c = []) := hid (fun e => by rw [e] at hp; cases hp)
      have HT := hid ht
      have HT2 := hid ht2
      clear ht ht2
      go_upto_region 4 with (fail)
      refine G2.wp_region_growT Kp [] 13 29 (G2.pvL [G2.eqv (.int .i64 (av : Int)), G2.eqv (.int .i64 (n : Int)), G2.eqv (.int .i64 (an : Int)), G2.eqv (.slice (some ⟨g, o, none⟩) c.length cap), G2.eqv (.int .i64 (i : Int)), G2.eqv (.int .i64 ((i : Int) + 1)), G2.eqv (.slice (some ⟨g, o, none⟩) c.length cap), G2.eqv (.int .i64 (c.length : Int)), G2.eqv (.int .i64 (j : Int)), G2.eqv (.pointer (some ⟨g, o + j, none⟩)), G2.eqv (.int .i64 (u : Int)), G2.eqv (.int .i64 ((an : Int) + (u : Int))), G2.eqv (.int .i64 (k : Int))]) (by kernel_rfl) (by kernel_rfl) rfl (fun x => Kp.refl x) (fun _ _ _ h k => h.trans k) (Kp.refl _).drew (fun _ _ _ _ _ h => h) (G2.pvL_keep (G2.stabL_cons (G2.stab_eq _) (G2.stabL_cons (G2.stab_eq _) (G2.stabL_cons (G2.stab_eq _) (G2.stabL_cons (G2.stab_eq _) (G2.stabL_cons (G2.stab_eq _) (G2.stabL_cons (G2.stab_eq _) (G2.stabL_cons (G2.stab_eq _) (G2.stabL_cons (G2.stab_eq _) (G2.stabL_cons (G2.stab_eq _) (G2.stabL_cons (G2.stab_eq _) (G2.stabL_cons (G2.stab_eq _) (G2.stabL_cons (G2.stab_eq _) (G2.stabL_cons (G2.stab_eq _) (G2.stabL_nil))))))))))))))) (G2.stepsT_cons 0 ?_ (G2.stepsT_cons 1 ?_ (G2.stepsT_cons 2 ?_ (G2.stepsT_cons 3 ?_ (G2.stepsT_cons 4 ?_ (G2.stepsT_cons 5 ?_ (G2.stepsT_cons 6 ?_ (G2.stepsT_cons 7 ?_ (G2.stepsT_cons 8 ?_ (G2.stepsT_cons 9 ?_ (G2.stepsT_cons 10 ?_ (G2.stepsT_cons 11 ?_ (G2.stepsT_cons 12 ?_ (G2.stepsT_nil _ _ _)))))))))))))) ?_ ?_
      · intro a w' hk hF hD K hK
        have h6 : a.tmps[6]?.getD undef = .int .i64 (av : Int) := hF 6 (by kernel_rfl)
        clear hF hD
        go_simp
        exact hK.out _ _ (Kp.refl _) rfl
      · intro a w' hk hF hD K hK
        have h1 : a.tmps[1]?.getD undef = .pointer (some ps) := hF 1 (by kernel_rfl)
        clear hF hD
        have z := hk.cellS hcs
        go_simp
        exact hK.out _ _ (Kp.refl _) rfl
      · intro a w' hk hF hD K hK
        have h14 : a.tmps[14]?.getD undef = .int .i64 (av : Int) := hD 0 (by kernel_rfl)
        have h15 : a.tmps[15]?.getD undef = .int .i64 (n : Int) := hD 1 (by kernel_rfl)
        clear hF hD
        have hw : IntKind.i64.wrap (an : Int) = (an : Int) := (by rw [IntKind.wrap_i64]; omega)
        go_simp
        exact hK.out _ _ (Kp.refl _) rfl
      · intro a w' hk hF hD K hK
        have h0 : a.tmps[0]?.getD undef = .slice (some ⟨g, o, none⟩) c.length cap := hF 0 (by kernel_rfl)
        clear hF hD
        go_simp
        exact hK.out _ _ (Kp.refl _) rfl
      · intro a w' hk hF hD K hK
        have h5 : a.tmps[5]?.getD undef = .int .i64 (i : Int) := hF 5 (by kernel_rfl)
        clear hF hD
        go_simp
        exact hK.out _ _ (Kp.refl _) rfl
      · intro a w' hk hF hD K hK
        have h18 : a.tmps[18]?.getD undef = .int .i64 (i : Int) := hD 4 (by kernel_rfl)
        clear hF hD
        have hw : IntKind.i64.wrap ((i : Int) + 1) = (i : Int) + 1 := (by rw [IntKind.wrap_i64]; omega)
        go_simp
        exact hK.out _ _ (Kp.refl _) rfl
      · intro a w' hk hF hD K hK
        have h0 : a.tmps[0]?.getD undef = .slice (some ⟨g, o, none⟩) c.length cap := hF 0 (by kernel_rfl)
        clear hF hD
        go_simp
        exact hK.out _ _ (Kp.refl _) rfl
      · intro a w' hk hF hD K hK
        have h20 : a.tmps[20]?.getD undef = .slice (some ⟨g, o, none⟩) c.length cap := hD 6 (by kernel_rfl)
        clear hF hD
        go_simp
        exact hK.out _ _ (Kp.refl _) rfl
      · intro a w' hk hF hD K hK
        have h19 : a.tmps[19]?.getD undef = .int .i64 ((i : Int) + 1) := hD 5 (by kernel_rfl)
        have h21 : a.tmps[21]?.getD undef = .int .i64 (c.length : Int) := hD 7 (by kernel_rfl)
        clear hF hD
        have ht := HT.out
        have ht2 := HT2.out
        have hne := HNE.out
        go_simp
        exact hK.out _ _ (Kp.refl _) rfl
      · intro a w' hk hF hD K hK
        have h17 : a.tmps[17]?.getD undef = .slice (some ⟨g, o, none⟩) c.length cap := hD 3 (by kernel_rfl)
        have h22 : a.tmps[22]?.getD undef = .int .i64 (j : Int) := hD 8 (by kernel_rfl)
        clear hF hD
        go_simp
        exact hK.out _ _ (Kp.refl _) rfl
      · intro a w' hk hF hD K hK
        have h23 : a.tmps[23]?.getD undef = .pointer (some ⟨g, o + j, none⟩) := hD 9 (by kernel_rfl)
        clear hF hD
        have z := hk.cellS i2
        go_simp
        exact hK.out _ _ (Kp.refl _) rfl
      · intro a w' hk hF hD K hK
        have h16 : a.tmps[16]?.getD undef = .int .i64 (an : Int) := hD 2 (by kernel_rfl)
        have h24 : a.tmps[24]?.getD undef = .int .i64 (u : Int) := hD 10 (by kernel_rfl)
        clear hF hD
        have hw : IntKind.i64.wrap ((an : Int) + (u : Int)) = (an : Int) + (u : Int) := (by rw [IntKind.wrap_i64]; omega)
        go_simp
        exact hK.out _ _ (Kp.refl _) rfl
      · intro a w' hk hF hD K hK
        have h2 : a.tmps[2]?.getD undef = .pointer (some pk) := hF 2 (by kernel_rfl)
        clear hF hD
        have z := hk.cellS hck
        go_simp
        exact hK.out _ _ (Kp.refl _) rfl
      · exact fun i0 hi0 => by simp at hi0
      intro v w9 k9 hv
      have v11 : v 11 = .int .i64 ((an : Int) + (u : Int)) := hv 11 (by omega)
      have v12 : v 12 = .int .i64 (k : Int) := hv 12 (by omega)
      clear hv
      simp only [G2.growPut, G2.gSlot, List.getElem?_toArray, List.getElem?_cons_zero, List.getElem?_cons_succ, Option.bind_some, List.setIfInBounds_toArray, List.set_cons_zero, List.set_cons_succ, List.drop_succ_cons, List.drop_zero, v11, v12]
      by_cases he : an + u = k
      · have e1 : (((an : Int) + (u : Int)) == (k : Int)) = true := by
          rw [beq_iff_eq]; omega
        have HF : Hid (R = true) := hid (HU.out he)
        replace he := hid he
        go_wp2
        go_ret
        exact ⟨by rw [HF.out]; rfl, kr.trans k9⟩
      · have e1 : (((an : Int) + (u : Int)) == (k : Int)) = false := beq_false_of_ne (by omega)
        have HF := hid (HN2.out he)
        replace he := hid he
        go_wp2_with fail
        go_roundw
        case rel => exact ⟨i + 1, by omega, by go_num, HF, kr.trans k9⟩
        case measure => simp [intOf]; omega
    · obtain rfl : i = c.length := by omega
      have hci : ¬ (c.length : Int) < (c.length : Int) := by omega
      have HF : Hid (R = false) := hid (by rw [← HR.out]; exact use_false HN.out)
      go_wp2
      go_ret
      exact ⟨by rw [HF.out]; rfl, kr⟩
end Go.Proofs.Ytlkabhjkncklnaa
