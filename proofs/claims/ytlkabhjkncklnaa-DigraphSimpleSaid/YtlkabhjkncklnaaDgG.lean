
/-
Graphs: all simple cycles, yielded one by one: the walk.
-/
import Derived.Test.YtlkabhjkncklnaaDgF
import Derived.Laws.EntriesVeiled
namespace Go.Proofs.Ytlkabhjkncklnaa
set_option linter.unusedSimpArgs false
set_option linter.unusedVariables false
open Go.RowKit

/-- all simple cycles, as they are yielded -/
def allC (n : Nat) (es : List Bool) (k : Nat) : List (List Nat) := (List.range k).flatMap fun a => visitF n es n [a]
theorem allC_succ (n : Nat) (es : List Bool) (k : Nat) : allC n es (k + 1) = allC n es k ++ visitF n es n [k] := by
  unfold allC
  rw [List.range_succ, List.flatMap_append]
  simp
theorem allC_pre (n : Nat) (es : List Bool) {k m : Nat} (h : k ≤ m) : ∃ r, allC n es m = allC n es k ++ r := by
  induction m with
  | zero => exact ⟨[], by rw [show k = 0 by omega]; simp⟩
  | succ m ih =>
    by_cases hk : k = m + 1
    · subst hk; exact ⟨[], by simp⟩
    · obtain ⟨r, hr⟩ := ih (by omega)
      exact ⟨r ++ visitF n es n [m], by rw [allC_succ, hr, List.append_assoc]⟩
set_option maxRecDepth 8000 in
set_option maxHeartbeats 4000000 in
theorem dCycles0_any (n : Nat) (es : List Bool) (vg : Value) (lp bn : Nat) (Wz W : World) (hg : GrV Wz vg n es) (hz : Kp Wz W) (hzb : Wz.heap.size ≤ bn) (hzl : Wz.heap.size ≤ lp) (hbn : bn < W.heap.size) (hlp : lp < W.heap.size) (hX : ∀ q, Xof bn W q → Wz.heap.size ≤ q ∧ q < W.heap.size) (J : List (List Nat) → World → Prop) (Jx : World → Prop)
    (hJ0 : ∀ s A B, J s A → Kp A B → J s B) (hY0 : YieldsAt lp bn J Jx (allC n es n)) (h0 : J [] W) :
    Calls Try.prog 43 #[vg, .func (.yield lp) #[] #[]] W fun e W' => (∃ v, e = .returned v) ∧ (J (allC n es n) W' ∨ Jx W') ∧ KX bn lp W W' := by
  have hJ := hid hJ0
  have hY := hid hY0
  have HGR := hid hg
  obtain ⟨vb, rfl, hes, hl, h1, h6⟩ := hg
  obtain ⟨A, c, rfl, hc, hm⟩ := hes.form
  clear hJ0 hY0 hes hl
  have hw3 : ∃ w3, w3 = ((W.alloc (.cells #[.int .i64 (n : Int), .slice A es.length c] 51)).alloc (.cells #[.func (.yield lp) #[] #[]] 43)).alloc (.cells #[.nilFunc] 43) ∧ Kp W w3 ∧ w3.heap.size = W.heap.size + 1 + 1 + 1 ∧ Bx w3 W.heap.size [.int .i64 (n : Int), .slice A es.length c] ∧ Bx w3 (W.heap.size + 1) [.func (.yield lp) #[] #[]] ∧ Bx w3 (W.heap.size + 1 + 1) [.nilFunc] := by
    have B1 := Bx.new W #[.int .i64 (n : Int), .slice A es.length c] 51
    have k1 := (Kp.refl W).alloc (.cells #[.int .i64 (n : Int), .slice A es.length c] 51)
    have z1 := World.size_alloc W (.cells #[.int .i64 (n : Int), .slice A es.length c] 51)
    generalize W.alloc (.cells #[.int .i64 (n : Int), .slice A es.length c] 51) = w1 at *
    have B2 := Bx.new w1 #[.func (.yield lp) #[] #[]] 43
    have k2 := (Kp.refl w1).alloc (.cells #[.func (.yield lp) #[] #[]] 43)
    have z2 := World.size_alloc w1 (.cells #[.func (.yield lp) #[] #[]] 43)
    generalize w1.alloc (.cells #[.func (.yield lp) #[] #[]] 43) = w2 at *
    have B3 := Bx.new w2 #[.nilFunc] 43
    have k3 := (Kp.refl w2).alloc (.cells #[.nilFunc] 43)
    have z3 := World.size_alloc w2 (.cells #[.nilFunc] 43)
    rw [z1] at B2
    rw [z2, z1] at B3
    refine ⟨_, rfl, (k1.trans k2).trans k3, by rw [z3, z2, z1], (B1.kp k2 (by omega)).kp k3 (by omega), B2.kp k3 (by omega), B3⟩
  obtain ⟨w3, hw3, k3, z3, B1, B2, B3⟩ := hw3
  go_enter Try.func43, Try.ntmps43
  go_upto_region 2 with (fail)
  rw [← hw3]
  clear hw3
  generalize hb : W.heap.size = b at *
  have HB := hid hb
  clear hb
  generalize hbj : b + 1 = bj at *
  generalize hbv : bj + 1 = bv at *
  have hbb : b < bj ∧ b < bv ∧ bj < bv ∧ bv < w3.heap.size := by omega
  have HZ3 : Hid (w3.heap.size = bv + 1) := hid (by omega)
  clear hbj hbv z3
  obtain ⟨q1, q2, q3, q4⟩ := hbb
  have c3 := B3.cell (j := 0) rfl
  have f3 := B3.free (j := 0) (by simp)
  go_upto_region 3 with (fail)
  have kg := (Kg.refl w3 bv).set (p := ⟨bv, 0, none⟩) (.inl rfl) (.func (.func 56) #[] #[.pointer (some ⟨b, 0, none⟩), .pointer (some ⟨bj, 0, none⟩), .pointer (some ⟨bv, 0, none⟩)])
  have B3' := B3.set (j := 0) (by simp) (.func (.func 56) #[] #[.pointer (some ⟨b, 0, none⟩), .pointer (some ⟨bj, 0, none⟩), .pointer (some ⟨bv, 0, none⟩)])
  have k4 : Kp W (w3.setCell ⟨bv, 0, none⟩ (.func (.func 56) #[] #[.pointer (some ⟨b, 0, none⟩), .pointer (some ⟨bj, 0, none⟩), .pointer (some ⟨bv, 0, none⟩)])) := k3.set (p := ⟨bv, 0, none⟩) (by rw [HB.out]; show b ≤ bv; omega) _
  have z4 := set_size w3 ⟨bv, 0, none⟩ (.func (.func 56) #[] #[.pointer (some ⟨b, 0, none⟩), .pointer (some ⟨bj, 0, none⟩), .pointer (some ⟨bv, 0, none⟩)])
  rw [List.set_cons_zero] at B3'
  have B1' := B1.kg kg (by omega) (by omega)
  have B2' := B2.kg kg (by omega) (by omega)
  have HVI : Hid (VI n A es.length c lp bn b bj bv Wz (w3.setCell ⟨bv, 0, none⟩ (.func (.func 56) #[] #[.pointer (some ⟨b, 0, none⟩), .pointer (some ⟨bj, 0, none⟩), .pointer (some ⟨bv, 0, none⟩)]))) := hid ⟨hz.trans k4, hzb, hzl, B1', B2', B3', ⟨by omega, by omega⟩, ⟨by omega, by omega⟩, ⟨by omega, by omega⟩, by rw [z4, HZ3.out]; omega, fun q hq => by
    obtain ⟨x1, x2⟩ := hX q (xof_kp k4 (by rw [HB.out]; exact hbn) hq)
    exact ⟨x1, by rw [z4, HZ3.out]; omega, by omega, by omega, by omega⟩⟩
  have hJ4 := hJ.out _ _ _ h0 k4
  clear c3 f3 B1 B2 B3 B1' B2' B3' kg h0 k3
  have HZ4 : Hid (bv + 1 ≤ (w3.setCell ⟨bv, 0, none⟩ (.func (.func 56) #[] #[.pointer (some ⟨b, 0, none⟩), .pointer (some ⟨bj, 0, none⟩), .pointer (some ⟨bv, 0, none⟩)])).heap.size) := hid (by rw [z4, HZ3.out]; exact Nat.le_refl _)
  clear z4
  generalize w3.setCell ⟨bv, 0, none⟩ (.func (.func 56) #[] #[.pointer (some ⟨b, 0, none⟩), .pointer (some ⟨bj, 0, none⟩), .pointer (some ⟨bv, 0, none⟩)]) = w4 at *
  have c0 := HVI.out.g.cell (j := 0) rfl
  go_wp2_with fail
  go_loopw [9] (fun i wr => ∃ k : Nat, k ≤ n ∧ i = .int .i64 (k : Int) ∧ J (allC n es k) wr ∧ KX bn lp w4 wr) (fun i _ => n - (intOf i).toNat)
  case atStart => exact ⟨0, Nat.zero_le _, rfl, hJ4, KX.refl _ _ _⟩
  case round =>
    clear hJ4 c0
    obtain ⟨k, hk, rfl, hJr, hkb⟩ := hrel
    have hvi := HVI.out.kb hkb
    have c0 := hvi.g.cell (j := 0) rfl
    have c1 := hvi.g.cell (j := 1) rfl
    have c2 := hvi.v.cell (j := 0) rfl
    have hzr := hkb.size
    have HZR : Hid (bv + 1 ≤ wr.heap.size) := hid (by have := HZ4.out; omega)
    by_cases hkn : k < n
    · have hkl : (k : Int) < (n : Int) := by omega
      have HS := hid (allC_succ n es k)
      obtain ⟨rr, HR⟩ : ∃ rr, Hid (allC n es n = allC n es (k + 1) ++ rr) := (allC_pre n es (Nat.succ_le_of_lt hkn)).imp fun _ h => hid h
      have oL := Own.lit (base := bv + 1) (size := 1) encInt (e := 3) wr #[.int .i64 (k : Int)] [(k : Int)] HZR.out (by simp) rfl rfl
      have kA := (Kp.refl wr).alloc (.cells #[.int .i64 (k : Int)] 3)
      go_wp2_with fail
      refine (dVisit_any n es A c lp bn b bj bv (bv + 1) Wz HGR.out J Jx (allC n es n) (by omega) (by omega) hJ.out hY.out n [k] (allC n es k) rr _ _ oL (by simp) (by simp) (fun x hx => by simp only [List.mem_singleton] at hx; omega) (by simp; omega) (by rw [HR.out, HS.out]) (hJ.out _ _ _ hJr kA) (hvi.kp kA) (Nat.le_trans HZR.out kA.size) (fun q hq hx => by have h2 := (hvi.xs q (xof_kp kA hvi.nb hx)).2.1; simp only [Value.ownBlock, Option.some.injEq] at hq; omega)).mono ?_
      rintro e w5 (⟨rfl, hJ5, hk5⟩ | ⟨rfl, hx5, hk5⟩)
      · have hkb5 := (hkb.trans (kA.kx hvi.nb lp)).trans hk5
        clear c0 c1 c2
        go_wp2_with fail
        go_roundw
        case rel => exact ⟨k + 1, by omega, by go_num, by rw [HS.out]; exact hJ5, hkb5⟩
        case measure => simp [intOf]; omega
      · have hkb5 := (hkb.trans (kA.kx hvi.nb lp)).trans hk5
        clear c0 c1 c2
        go_wp2
        (try simp only [Exit.inBlock, Exit.then])
        refine bodyPost_ret (results_none rfl _ _ _) rfl ?_
        exact ⟨⟨_, rfl⟩, .inr hx5, (k4.kx (by rw [HB.out]; exact hbn) lp).trans hkb5⟩
    · obtain rfl : k = n := by omega
      have hkl : ¬ (k : Int) < (k : Int) := by omega
      go_wp2
      go_end0
      exact ⟨⟨_, rfl⟩, .inl hJr, (k4.kx (by rw [HB.out]; exact hbn) lp).trans hkb⟩
end Go.Proofs.Ytlkabhjkncklnaa
