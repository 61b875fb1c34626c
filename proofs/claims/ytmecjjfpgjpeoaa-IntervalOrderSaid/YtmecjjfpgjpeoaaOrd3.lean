
/-
IntervalOrder's closure: what it returns where the box it is handed lies in the fixed one.
-/
import Derived.Test.YtmecjjfpgjpeoaaOrd2
import Derived.Test.YtmecjjfpgjpeoaaPlain5
namespace Go.Proofs.Ytmecjjfpgjpeoaa
open Go.RowKit

theorem lawOrder1_real : Real Try.prog 39 := ⟨_, Try.func39, by kernel_rfl, by kernel_rfl⟩
set_option maxRecDepth 8000 in
set_option maxHeartbeats 2000000 in
theorem lawOrder1_any (vl vf : Value) (l F : List Rng) (is ok : Bool) (ga gf : Nat) (w : World) (hl : Rngs w vl l) (hF : Rngs w vf F)
    (c0 : w.cell? ⟨ga, 0, none⟩ = some (.bool ok)) (c1 : w.cell? ⟨gf, 0, none⟩ = some vf)
    (h : is = true → ok = true ∧ l.length = F.length ∧ Sub l F) :
    Calls Try.prog 39 #[vl, .bool is, .pointer (some ⟨ga, 0, none⟩), .pointer (some ⟨gf, 0, none⟩)] w fun e w' => e = .returned (.bool true) ∧ Kp w w' := by
  obtain ⟨A, c, rfl, hc, hm⟩ := hl.form
  obtain ⟨A', c', rfl, hc', hm'⟩ := hF.form
  cases is with
  | false =>
    clear h
    go_enter Try.func39, Try.ntmps39
    go_wp2
    go_ret
    exact ⟨rfl, Kp.refl _⟩
  | true =>
    obtain ⟨rfl, hlen, hS⟩ := h rfl
    have HS := hid hS
    clear h hS
    have l0 : ga < w.heap.size := block_lt_of_cell c0
    have l1 : gf < w.heap.size := block_lt_of_cell c1
    rw [hlen] at hl ⊢
    go_enter Try.func39, Try.ntmps39
    go_wp2
    go_loopw [22] (fun i wr => ∃ k : Nat, k ≤ F.length ∧ i = .int .i64 k ∧ Kp w wr) (fun i _ => F.length - (intOf i).toNat)
    case atStart => exact ⟨0, Nat.zero_le _, rfl, Kp.refl _⟩
    case round =>
      obtain ⟨k, hk, rfl, hbel⟩ := hrel
      by_cases hlt : k < F.length
      · have hltl : k < l.length := by omega
        obtain ⟨g, o, rfl, hg, y1', y2'⟩ := hl.rng hltl
        have y1 := hbel.cellS y1'
        have y2 := hbel.cellS y2'
        obtain ⟨g0, o0, rfl, hg0, z1', z2'⟩ := hF.rng hlt
        have z1 := hbel.cellS z1'
        have z2 := hbel.cellS z2'
        have k1 := hbel.cellS c1
        obtain ⟨s1, s2⟩ := sub_at HS.out k hltl hlt
        have lg : g < wr.heap.size := by have := hbel.size; omega
        have lg0 : g0 < wr.heap.size := by have := hbel.size; omega
        have lg1 : gf < wr.heap.size := by have := hbel.size; omega
        have q1 : (0 : Int) ≤ k := by omega
        have q2 : (k : Int) < F.length := by omega
        clear y1' y2' z1' z2' c0 c1 hl hF
        generalize l[k] = x at *
        generalize F[k] = s at *
        obtain ⟨xl, xh⟩ := x
        obtain ⟨sl, sh⟩ := s
        dsimp only at y1 y2 z1 z2 s1 s2
        have d1 : decide (xl < sl) = false := by simp; omega
        have d2 : decide (sh < xh) = false := by simp; omega
        have d3 : decide (xh > sh) = false := by simp; omega
        go_wp2
        have kA := (Kp.refl wr).alloc (.cells #[.int .i64 xl, .int .i64 xh] 27)
        have x0 := alloc_cell wr #[.int .i64 xl, .int .i64 xh] 27 0 rfl
        have x1 := alloc_cell wr #[.int .i64 xl, .int .i64 xh] 27 1 rfl
        have x2 := alloc_lt wr (.cells #[.int .i64 xl, .int .i64 xh] 27)
        have z1 := kA.cellS z1
        have z2 := kA.cellS z2
        have k1 := kA.cellS k1
        have lg2 : g0 < (wr.alloc (.cells #[.int .i64 xl, .int .i64 xh] 27)).heap.size := by omega
        have lg3 : gf < (wr.alloc (.cells #[.int .i64 xl, .int .i64 xh] 27)).heap.size := by omega
        have hbel3 := hbel.trans kA
        clear kA y1 y2
        generalize wr.alloc (.cells #[.int .i64 xl, .int .i64 xh] 27) = w3 at *
        generalize wr.heap.size = hp at *
        refine wp_region_kw (by kernel_rfl) (by kernel_rfl) ?_
        repeat (go_big_quiet_step ((fail)))
        refine wpQuiet_nil ?_
        intro _ hw'
        obtain ⟨u, hw''⟩ := hw'
        subst hw''
        go_wp2
        go_roundw
        case rel => exact ⟨k + 1, by omega, by go_num, hbel3.trans (kw_kp _ _)⟩
        case measure => simp [intOf]; omega
      · go_wp2
        go_ret
        exact ⟨rfl, hbel⟩
end Go.Proofs.Ytmecjjfpgjpeoaa
