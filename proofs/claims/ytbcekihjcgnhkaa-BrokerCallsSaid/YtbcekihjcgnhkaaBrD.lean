
/-
The reference of the broker: a new one: the walk.
-/
import Derived.Test.YtbcekihjcgnhkaaBrC
namespace Go.Proofs.Ytbcekihjcgnhkaa
set_option linter.unusedSimpArgs false
set_option linter.unusedVariables false
open Go.RowKit

def zAV : AV := ⟨zAk, none, 0, 0⟩
set_option maxRecDepth 8000 in
set_option maxHeartbeats 4000000 in
theorem rNew41_any (n i : Int) (w : World) : Calls Try.prog 20 #[.int .i64 n, .int .i64 i] w fun e w' => Kp w w' ∧
    ((badNew n i = true ∧ e = .returned (.tuple #[.agg [.int .i64 0, .int .i64 0, .int .i64 0, .bool false, .int .i64 0, .int .i64 0, .int .i64 0, .int .i64 0, .slice none 0 0, .slice none 0 0].toArray, .int .i64 1])) ∨
     (badNew n i = false ∧ ∃ vh, e = .returned (.tuple #[.agg (refL (newB n i) (.slice none 0 0) vh).toArray, .int .i64 0]) ∧ ∀ X : Nat → Prop, (∀ q, X q → q < w.heap.size) → RefX X w' (newB n i) (.slice none 0 0) vh)) := by
  have k0 := (Kp.refl w).alloc (.cells [.int .i64 0, .int .i64 0, .int .i64 0, .bool false, .int .i64 0, .int .i64 0, .int .i64 0, .int .i64 0, .slice none 0 0, .slice none 0 0].toArray 58)
  have BA := Bx.new w [.int .i64 0, .int .i64 0, .int .i64 0, .bool false, .int .i64 0, .int .i64 0, .int .i64 0, .int .i64 0, .slice none 0 0, .slice none 0 0].toArray 58
  have HB : Hid (badNew n i = (decide (n < 1) || decide (5 < n) || decide (i < 0) || decide (n ≤ i))) := hid rfl
  go_enter Try.func20, Try.ntmps20
  go_upto_region 1 with (fail)
  generalize w.alloc (.cells [.int .i64 0, .int .i64 0, .int .i64 0, .bool false, .int .i64 0, .int .i64 0, .int .i64 0, .int .i64 0, .slice none 0 0, .slice none 0 0].toArray 58) = w1 at *
  obtain ⟨tA, htA⟩ : ∃ tA, tA = w.heap.size := ⟨_, rfl⟩
  rw [← htA] at BA ⊢
  try simp only [List.toList_toArray] at BA
  replace htA := hid htA
  have hlA := BA.lt (by simp)
  by_cases h1 : n < 1
  · have e1 : decide (n < 1) = true := decide_eq_true h1
    have HF : Hid (badNew n i = true) := hid (by rw [HB.out, e1]; rfl)
    have y0 := (BA).cell (j := 0) rfl
    have y1 := (BA).cell (j := 1) rfl
    have y2 := (BA).cell (j := 2) rfl
    have y3 := (BA).cell (j := 3) rfl
    have y4 := (BA).cell (j := 4) rfl
    have y5 := (BA).cell (j := 5) rfl
    have y6 := (BA).cell (j := 6) rfl
    have y7 := (BA).cell (j := 7) rfl
    have y8 := (BA).cell (j := 8) rfl
    have y9 := (BA).cell (j := 9) rfl
    have f0 := (BA).free (j := 0) (by simp)
    have f1 := (BA).free (j := 1) (by simp)
    have f2 := (BA).free (j := 2) (by simp)
    have f3 := (BA).free (j := 3) (by simp)
    have f4 := (BA).free (j := 4) (by simp)
    have f5 := (BA).free (j := 5) (by simp)
    have f6 := (BA).free (j := 6) (by simp)
    have f7 := (BA).free (j := 7) (by simp)
    have f8 := (BA).free (j := 8) (by simp)
    have f9 := (BA).free (j := 9) (by simp)
    go_wp2
    try simp only [Exit.inBlock, Exit.then]
    have BE := (BA).all (cs := [.int .i64 0, .int .i64 0, .int .i64 0, .bool false, .int .i64 0, .int .i64 0, .int .i64 0, .int .i64 0, .slice none 0 0, .slice none 0 0]) rfl
    change bodyPost _ _ _ _ _ (w1.setCells tA 0 [.int .i64 0, .int .i64 0, .int .i64 0, .bool false, .int .i64 0, .int .i64 0, .int .i64 0, .int .i64 0, .slice none 0 0, .slice none 0 0])
    refine bodyPost_ret (results_cell_bx2 rfl _ (w1.setCells tA 0 [.int .i64 0, .int .i64 0, .int .i64 0, .bool false, .int .i64 0, .int .i64 0, .int .i64 0, .int .i64 0, .slice none 0 0, .slice none 0 0]) tA [.int .i64 0, .int .i64 0, .int .i64 0, .bool false, .int .i64 0, .int .i64 0, .int .i64 0, .int .i64 0, .slice none 0 0, .slice none 0 0] _ rfl BE.range Try.underlying58 rfl (by kernel_rfl)) rfl ?_
    have kE : Kp w (w1.setCells tA 0 [.int .i64 0, .int .i64 0, .int .i64 0, .bool false, .int .i64 0, .int .i64 0, .int .i64 0, .int .i64 0, .slice none 0 0, .slice none 0 0]) := Kp.setCells (by rw [htA.out]; exact Nat.le_refl _) _ 0 _ k0
    exact ⟨kE, .inl ⟨HF.out, rfl⟩⟩
  · have e1 : decide (n < 1) = false := decide_eq_false h1
    by_cases h2 : 5 < n
    · have e2 : decide (5 < n) = true := decide_eq_true h2
      have HF : Hid (badNew n i = true) := hid (by rw [HB.out, e1, e2]; rfl)
      have y0 := (BA).cell (j := 0) rfl
      have y1 := (BA).cell (j := 1) rfl
      have y2 := (BA).cell (j := 2) rfl
      have y3 := (BA).cell (j := 3) rfl
      have y4 := (BA).cell (j := 4) rfl
      have y5 := (BA).cell (j := 5) rfl
      have y6 := (BA).cell (j := 6) rfl
      have y7 := (BA).cell (j := 7) rfl
      have y8 := (BA).cell (j := 8) rfl
      have y9 := (BA).cell (j := 9) rfl
      have f0 := (BA).free (j := 0) (by simp)
      have f1 := (BA).free (j := 1) (by simp)
      have f2 := (BA).free (j := 2) (by simp)
      have f3 := (BA).free (j := 3) (by simp)
      have f4 := (BA).free (j := 4) (by simp)
      have f5 := (BA).free (j := 5) (by simp)
      have f6 := (BA).free (j := 6) (by simp)
      have f7 := (BA).free (j := 7) (by simp)
      have f8 := (BA).free (j := 8) (by simp)
      have f9 := (BA).free (j := 9) (by simp)
      go_wp2
      try simp only [Exit.inBlock, Exit.then]
      have BE := (BA).all (cs := [.int .i64 0, .int .i64 0, .int .i64 0, .bool false, .int .i64 0, .int .i64 0, .int .i64 0, .int .i64 0, .slice none 0 0, .slice none 0 0]) rfl
      change bodyPost _ _ _ _ _ (w1.setCells tA 0 [.int .i64 0, .int .i64 0, .int .i64 0, .bool false, .int .i64 0, .int .i64 0, .int .i64 0, .int .i64 0, .slice none 0 0, .slice none 0 0])
      refine bodyPost_ret (results_cell_bx2 rfl _ (w1.setCells tA 0 [.int .i64 0, .int .i64 0, .int .i64 0, .bool false, .int .i64 0, .int .i64 0, .int .i64 0, .int .i64 0, .slice none 0 0, .slice none 0 0]) tA [.int .i64 0, .int .i64 0, .int .i64 0, .bool false, .int .i64 0, .int .i64 0, .int .i64 0, .int .i64 0, .slice none 0 0, .slice none 0 0] _ rfl BE.range Try.underlying58 rfl (by kernel_rfl)) rfl ?_
      have kE : Kp w (w1.setCells tA 0 [.int .i64 0, .int .i64 0, .int .i64 0, .bool false, .int .i64 0, .int .i64 0, .int .i64 0, .int .i64 0, .slice none 0 0, .slice none 0 0]) := Kp.setCells (by rw [htA.out]; exact Nat.le_refl _) _ 0 _ k0
      exact ⟨kE, .inl ⟨HF.out, rfl⟩⟩
    · have e2 : decide (5 < n) = false := decide_eq_false h2
      by_cases h3 : i < 0
      · have e3 : decide (i < 0) = true := decide_eq_true h3
        have HF : Hid (badNew n i = true) := hid (by rw [HB.out, e1, e2, e3]; rfl)
        have y0 := (BA).cell (j := 0) rfl
        have y1 := (BA).cell (j := 1) rfl
        have y2 := (BA).cell (j := 2) rfl
        have y3 := (BA).cell (j := 3) rfl
        have y4 := (BA).cell (j := 4) rfl
        have y5 := (BA).cell (j := 5) rfl
        have y6 := (BA).cell (j := 6) rfl
        have y7 := (BA).cell (j := 7) rfl
        have y8 := (BA).cell (j := 8) rfl
        have y9 := (BA).cell (j := 9) rfl
        have f0 := (BA).free (j := 0) (by simp)
        have f1 := (BA).free (j := 1) (by simp)
        have f2 := (BA).free (j := 2) (by simp)
        have f3 := (BA).free (j := 3) (by simp)
        have f4 := (BA).free (j := 4) (by simp)
        have f5 := (BA).free (j := 5) (by simp)
        have f6 := (BA).free (j := 6) (by simp)
        have f7 := (BA).free (j := 7) (by simp)
        have f8 := (BA).free (j := 8) (by simp)
        have f9 := (BA).free (j := 9) (by simp)
        go_wp2
        try simp only [Exit.inBlock, Exit.then]
        have BE := (BA).all (cs := [.int .i64 0, .int .i64 0, .int .i64 0, .bool false, .int .i64 0, .int .i64 0, .int .i64 0, .int .i64 0, .slice none 0 0, .slice none 0 0]) rfl
        change bodyPost _ _ _ _ _ (w1.setCells tA 0 [.int .i64 0, .int .i64 0, .int .i64 0, .bool false, .int .i64 0, .int .i64 0, .int .i64 0, .int .i64 0, .slice none 0 0, .slice none 0 0])
        refine bodyPost_ret (results_cell_bx2 rfl _ (w1.setCells tA 0 [.int .i64 0, .int .i64 0, .int .i64 0, .bool false, .int .i64 0, .int .i64 0, .int .i64 0, .int .i64 0, .slice none 0 0, .slice none 0 0]) tA [.int .i64 0, .int .i64 0, .int .i64 0, .bool false, .int .i64 0, .int .i64 0, .int .i64 0, .int .i64 0, .slice none 0 0, .slice none 0 0] _ rfl BE.range Try.underlying58 rfl (by kernel_rfl)) rfl ?_
        have kE : Kp w (w1.setCells tA 0 [.int .i64 0, .int .i64 0, .int .i64 0, .bool false, .int .i64 0, .int .i64 0, .int .i64 0, .int .i64 0, .slice none 0 0, .slice none 0 0]) := Kp.setCells (by rw [htA.out]; exact Nat.le_refl _) _ 0 _ k0
        exact ⟨kE, .inl ⟨HF.out, rfl⟩⟩
      · have e3 : decide (i < 0) = false := decide_eq_false h3
        by_cases h4 : n ≤ i
        · have e4 : decide (n ≤ i) = true := decide_eq_true h4
          have HF : Hid (badNew n i = true) := hid (by rw [HB.out, e1, e2, e3, e4]; rfl)
          have y0 := (BA).cell (j := 0) rfl
          have y1 := (BA).cell (j := 1) rfl
          have y2 := (BA).cell (j := 2) rfl
          have y3 := (BA).cell (j := 3) rfl
          have y4 := (BA).cell (j := 4) rfl
          have y5 := (BA).cell (j := 5) rfl
          have y6 := (BA).cell (j := 6) rfl
          have y7 := (BA).cell (j := 7) rfl
          have y8 := (BA).cell (j := 8) rfl
          have y9 := (BA).cell (j := 9) rfl
          have f0 := (BA).free (j := 0) (by simp)
          have f1 := (BA).free (j := 1) (by simp)
          have f2 := (BA).free (j := 2) (by simp)
          have f3 := (BA).free (j := 3) (by simp)
          have f4 := (BA).free (j := 4) (by simp)
          have f5 := (BA).free (j := 5) (by simp)
          have f6 := (BA).free (j := 6) (by simp)
          have f7 := (BA).free (j := 7) (by simp)
          have f8 := (BA).free (j := 8) (by simp)
          have f9 := (BA).free (j := 9) (by simp)
          go_wp2
          try simp only [Exit.inBlock, Exit.then]
          have BE := (BA).all (cs := [.int .i64 0, .int .i64 0, .int .i64 0, .bool false, .int .i64 0, .int .i64 0, .int .i64 0, .int .i64 0, .slice none 0 0, .slice none 0 0]) rfl
          change bodyPost _ _ _ _ _ (w1.setCells tA 0 [.int .i64 0, .int .i64 0, .int .i64 0, .bool false, .int .i64 0, .int .i64 0, .int .i64 0, .int .i64 0, .slice none 0 0, .slice none 0 0])
          refine bodyPost_ret (results_cell_bx2 rfl _ (w1.setCells tA 0 [.int .i64 0, .int .i64 0, .int .i64 0, .bool false, .int .i64 0, .int .i64 0, .int .i64 0, .int .i64 0, .slice none 0 0, .slice none 0 0]) tA [.int .i64 0, .int .i64 0, .int .i64 0, .bool false, .int .i64 0, .int .i64 0, .int .i64 0, .int .i64 0, .slice none 0 0, .slice none 0 0] _ rfl BE.range Try.underlying58 rfl (by kernel_rfl)) rfl ?_
          have kE : Kp w (w1.setCells tA 0 [.int .i64 0, .int .i64 0, .int .i64 0, .bool false, .int .i64 0, .int .i64 0, .int .i64 0, .int .i64 0, .slice none 0 0, .slice none 0 0]) := Kp.setCells (by rw [htA.out]; exact Nat.le_refl _) _ 0 _ k0
          exact ⟨kE, .inl ⟨HF.out, rfl⟩⟩
        · have e4 : decide (n ≤ i) = false := decide_eq_false h4
          have HF : Hid (badNew n i = false) := hid (by rw [HB.out, e1, e2, e3, e4]; rfl)
          obtain ⟨m, rfl⟩ := Int.eq_ofNat_of_zero_le (show 0 ≤ n by omega)
          have hm5 : m ≤ 5 := by omega
          clear HB
          go_upto_region 3 with (fail)
          have hw1 := hid k0.size
          go_wp2_with (refine wpl_make_flat (enc := encAV) (base := w1.heap.size) rfl (.tmp 24) (.tmp 24) rfl stask zAV (zero_of (u := .agg #[.int .i64 0, .int .i64 0, .int .i64 0, .int .i64 0, .int .i64 0, .slice none 0 0]) (by kernel_rfl) rfl) m rfl rfl (by omega) (by omega) (Nat.le_refl _) ?_; intro w2 own1 k1 z1; have BA2 := BA.kp k1 hlA; have y0 := BA2.cell (j := 0) rfl; have y1 := BA2.cell (j := 1) rfl; have y2 := BA2.cell (j := 2) rfl; have y3 := BA2.cell (j := 3) rfl; have y4 := BA2.cell (j := 4) rfl; have y5 := BA2.cell (j := 5) rfl; have y6 := BA2.cell (j := 6) rfl; have y7 := BA2.cell (j := 7) rfl; have y8 := BA2.cell (j := 8) rfl; have y9 := BA2.cell (j := 9) rfl; have f0 := BA2.free (j := 0) (by simp); have f1 := BA2.free (j := 1) (by simp); have f2 := BA2.free (j := 2) (by simp); have f3 := BA2.free (j := 3) (by simp); have f4 := BA2.free (j := 4) (by simp); have f5 := BA2.free (j := 5) (by simp); have f6 := BA2.free (j := 6) (by simp); have f7 := BA2.free (j := 7) (by simp); have f8 := BA2.free (j := 8) (by simp); have f9 := BA2.free (j := 9) (by simp); have hl2 := BA2.lt (by simp); have k02 := k0.trans k1; replace z1 := hid z1)
          try simp only [Exit.inBlock, Exit.then]
          have BE := BA2.all (cs := [.int .i64 (m : Int), .int .i64 i, .int .i64 0, .bool false, .int .i64 0, .int .i64 0, .int .i64 0, .int .i64 0, .slice none 0 0, .slice (some ⟨w1.heap.size, 0, none⟩) m m]) rfl
          change bodyPost _ _ _ _ _ (w2.setCells tA 0 [.int .i64 (m : Int), .int .i64 i, .int .i64 0, .bool false, .int .i64 0, .int .i64 0, .int .i64 0, .int .i64 0, .slice none 0 0, .slice (some ⟨w1.heap.size, 0, none⟩) m m])
          refine bodyPost_ret (results_cell_bx2 rfl _ _ tA [.int .i64 (m : Int), .int .i64 i, .int .i64 0, .bool false, .int .i64 0, .int .i64 0, .int .i64 0, .int .i64 0, .slice none 0 0, .slice (some ⟨w1.heap.size, 0, none⟩) m m] _ rfl BE.range Try.underlying58 rfl (by kernel_rfl)) rfl ?_
          have kE : Kp w (w2.setCells tA 0 [.int .i64 (m : Int), .int .i64 i, .int .i64 0, .bool false, .int .i64 0, .int .i64 0, .int .i64 0, .int .i64 0, .slice none 0 0, .slice (some ⟨w1.heap.size, 0, none⟩) m m]) := Kp.setCells (by rw [htA.out]; exact Nat.le_refl _) _ 0 _ k02
          have e5 : (newB (m : Int) i).n.toNat = m := Int.toNat_natCast m
          refine ⟨kE, .inr ⟨HF.out, _, rfl, fun X hX => ⟨fun w3 k3 => Sl.nil _ _ _, ⟨List.replicate m zAV, ?_, fun w3 k3 => ?_, fun x hx => ?_⟩, okB_new HF.out⟩⟩⟩
          · rw [e5, show (newB (m : Int) i).heard = fun _ => none from rfl, hdL_new, List.map_replicate]
            rfl
          · have hkz : Fx (fun q => q = tA) w2 (w2.setCells tA 0 [.int .i64 (m : Int), .int .i64 i, .int .i64 0, .bool false, .int .i64 0, .int .i64 0, .int .i64 0, .int .i64 0, .slice none 0 0, .slice (some ⟨w1.heap.size, 0, none⟩) m m]) := (Kg.setCells (.inl rfl) _ 0 (Kg.refl w2 tA)).fx (.inl rfl)
            have o2 := own1.fx hkz (fun q hq e => by have h9 := own1.ge q hq; have e : q = tA := e; omega)
            have o3 := o2.fx k3 (fun q hq e => by have h9 := o2.ge q hq; have h8 := hX q e; have := hw1.out; omega)
            exact o3.sl encAV_len
          · have := List.eq_of_mem_replicate hx
            subst this
            exact fun w3 k3 => Sl.nil _ _ _
end Go.Proofs.Ytbcekihjcgnhkaa
