
/-
An event compared with the zero event: the walk.
-/
import Derived.Test.YtcddllaljgfjbaaEvC
namespace Go.Proofs.Ytcddllaljgfjbaa
set_option linter.unusedSimpArgs false
set_option linter.unusedVariables false
open Go.RowKit

set_option maxRecDepth 100000 in
theorem eqRt3 (w : World) (n : Nat) (a b c d e f : Int) : (Op.equalIn (n + 2) 29 (.agg #[.int .i64 a, .int .i64 b, .int .i64 c]) (.agg #[.int .i64 d, .int .i64 e, .int .i64 f])).run Try.prog w = .ok (a == d && b == e && c == f) w := by
  have hu : Try.prog.underlying 29 = some (.struct (Try.prog.fieldsOf 29)) := by kernel_rfl
  have hf := run_equalIn_struct (P := Try.prog) w (n + 1) 29 #[.int .i64 a, .int .i64 b, .int .i64 c] #[.int .i64 d, .int .i64 e, .int .i64 f] hu (by kernel_rfl)
  have hfs : (Try.prog.fieldsOf 29).toList = (match Try.prog.underlying 29 with | some (.struct fs) => fs.toList | _ => []) := rfl
  rw [Try.underlying29] at hfs
  rw [hf, hfs]
  go_simp
  by_cases h1 : a = d
  · by_cases h2 : b = e
    · by_cases h3 : c = f <;> simp [h1, h2, h3]
    · simp [h1, h2]
  · simp [h1]
set_option maxRecDepth 100000 in
theorem eqNd4 (w : World) (n : Nat) (a b c d a' b' c' d' : Int) : (Op.equalIn (n + 3) 31 (.agg #[.int .i64 a, .int .i64 b, .int .i64 c, .int .i64 d]) (.agg #[.int .i64 a', .int .i64 b', .int .i64 c', .int .i64 d'])).run Try.prog w = .ok (a == a' && b == b' && c == c' && d == d') w := by
  have hu : Try.prog.underlying 31 = some (.struct (Try.prog.fieldsOf 31)) := by kernel_rfl
  have hf := run_equalIn_struct (P := Try.prog) w (n + 2) 31 #[.int .i64 a, .int .i64 b, .int .i64 c, .int .i64 d] #[.int .i64 a', .int .i64 b', .int .i64 c', .int .i64 d'] hu (by kernel_rfl)
  have hfs : (Try.prog.fieldsOf 31).toList = (match Try.prog.underlying 31 with | some (.struct fs) => fs.toList | _ => []) := rfl
  rw [Try.underlying31] at hfs
  have hr := eqRt3 w n a b c a' b' c'
  rw [hf, hfs]
  go_simp
  by_cases h1 : a = a'
  · by_cases h2 : b = b'
    · by_cases h3 : c = c'
      · by_cases h4 : d = d' <;> simp [h1, h2, h3, h4]
      · simp [h1, h2, h3]
    · simp [h1, h2]
  · simp [h1]
theorem run_eql_nd (w : World) (a b c d : Int) : (binOp .eql 31 (.agg #[.int .i64 a, .int .i64 b, .int .i64 c, .int .i64 d]) (.agg #[.int .i64 0, .int .i64 0, .int .i64 0, .int .i64 0])).run Try.prog w = .ok (.bool (decide (((a, b, c), d) = (((0, 0, 0), 0) : Gv)))) w := by
  have h : Sem.run Try.prog (Op.equal 31 (.agg #[.int .i64 a, .int .i64 b, .int .i64 c, .int .i64 d]) (.agg #[.int .i64 0, .int .i64 0, .int .i64 0, .int .i64 0])) w = .ok (a == 0 && b == 0 && c == 0 && d == 0) w := eqNd4 w 9997 a b c d 0 0 0 0
  have e : (a == 0 && b == 0 && c == 0 && d == 0) = decide (((a, b, c), d) = (((0, 0, 0), 0) : Gv)) := by
    rw [Bool.eq_iff_iff]
    simp [and_assoc]
  simp only [binOp, Sem.run_bind, h, Result.andThen_ok, Sem.run_pure, e]
def restZ (x : Ev) : Bool := decide (x.act = 0) && decide (x.give = ((0, 0, 0), 0)) && decide (x.dst = 0) && decide (x.place = 0) && decide (x.ser = 0)
set_option maxRecDepth 8000 in
set_option maxHeartbeats 2000000 in
theorem evEqual_z (ac g1 g2 g3 g4 ds pl se : Int) (w : World) : Calls Try.prog 71 #[.agg #[.int .i64 0, .int .i64 0, .int .i64 0, .slice none 0 0, .int .i64 0, .int .i64 ac, .int .i64 g1, .int .i64 g2, .int .i64 g3, .int .i64 g4, .int .i64 ds, .int .i64 pl, .int .i64 se], .agg #[.int .i64 0, .int .i64 0, .int .i64 0, .slice none 0 0, .int .i64 0, .int .i64 0, .int .i64 0, .int .i64 0, .int .i64 0, .int .i64 0, .int .i64 0, .int .i64 0, .int .i64 0]] w fun y w' => y = .returned (.bool (restZ ⟨0, 0, 0, [], 0, ac, ((g1, g2, g3), g4), ds, pl, se⟩)) ∧ Kp w w' := by
  have HR : Hid (restZ ⟨0, 0, 0, [], 0, ac, ((g1, g2, g3), g4), ds, pl, se⟩ = (decide (ac = 0) && decide (((g1, g2, g3), g4) = (((0, 0, 0), 0) : Gv)) && decide (ds = 0) && decide (pl = 0) && decide (se = 0))) := hid rfl
  generalize restZ ⟨0, 0, 0, [], 0, ac, ((g1, g2, g3), g4), ds, pl, se⟩ = rz at *
  have hA := (Bx.new w #[.int .i64 0, .int .i64 0, .int .i64 0, .slice none 0 0, .int .i64 0, .int .i64 ac, .int .i64 g1, .int .i64 g2, .int .i64 g3, .int .i64 g4, .int .i64 ds, .int .i64 pl, .int .i64 se] 33).keep (heap_alloc_old _ (.cells #[.int .i64 0, .int .i64 0, .int .i64 0, .slice none 0 0, .int .i64 0, .int .i64 0, .int .i64 0, .int .i64 0, .int .i64 0, .int .i64 0, .int .i64 0, .int .i64 0, .int .i64 0] 33) (by simp))
  have hB := Bx.new (w.alloc (.cells #[.int .i64 0, .int .i64 0, .int .i64 0, .slice none 0 0, .int .i64 0, .int .i64 ac, .int .i64 g1, .int .i64 g2, .int .i64 g3, .int .i64 g4, .int .i64 ds, .int .i64 pl, .int .i64 se] 33)) #[.int .i64 0, .int .i64 0, .int .i64 0, .slice none 0 0, .int .i64 0, .int .i64 0, .int .i64 0, .int .i64 0, .int .i64 0, .int .i64 0, .int .i64 0, .int .i64 0, .int .i64 0] 33
  rw [World.size_alloc] at hB
  have k0 := ((Kp.refl w).alloc (.cells #[.int .i64 0, .int .i64 0, .int .i64 0, .slice none 0 0, .int .i64 0, .int .i64 ac, .int .i64 g1, .int .i64 g2, .int .i64 g3, .int .i64 g4, .int .i64 ds, .int .i64 pl, .int .i64 se] 33)).alloc (.cells #[.int .i64 0, .int .i64 0, .int .i64 0, .slice none 0 0, .int .i64 0, .int .i64 0, .int .i64 0, .int .i64 0, .int .i64 0, .int .i64 0, .int .i64 0, .int .i64 0, .int .i64 0] 33)
  have heq := fun W => run_eql_nd W g1 g2 g3 g4
  go_enter Try.func71, Try.ntmps71
  go_upto_region 1 with (fail)
  generalize (w.alloc (.cells #[.int .i64 0, .int .i64 0, .int .i64 0, .slice none 0 0, .int .i64 0, .int .i64 ac, .int .i64 g1, .int .i64 g2, .int .i64 g3, .int .i64 g4, .int .i64 ds, .int .i64 pl, .int .i64 se] 33)).alloc (.cells #[.int .i64 0, .int .i64 0, .int .i64 0, .slice none 0 0, .int .i64 0, .int .i64 0, .int .i64 0, .int .i64 0, .int .i64 0, .int .i64 0, .int .i64 0, .int .i64 0, .int .i64 0] 33) = w1 at *
  generalize w.heap.size + 1 = rb at *
  generalize w.heap.size = eb at *
  have a0 := hA.cell (j := 0) rfl
  have a1 := hA.cell (j := 1) rfl
  have a2 := hA.cell (j := 2) rfl
  have a3 := hA.cell (j := 3) rfl
  have b0 := hB.cell (j := 0) rfl
  have b1 := hB.cell (j := 1) rfl
  have b2 := hB.cell (j := 2) rfl
  have b3 := hB.cell (j := 3) rfl
  have hN : Ints w1 (.slice none 0 0) [] := Sl.nil _ _ _
  have hal := hA.lt (by simp)
  have hbl := hB.lt (by simp)
  go_wp2_with fail
  refine (EqualI_any _ _ [] [] w1 hN hN).mono ?_
  rintro y w2 ⟨rfl, k2⟩
  rw [show decide (([] : List Int) = []) = true from rfl]
  have hA2 := hA.keep (k2.block hal)
  have hB2 := hB.keep (k2.block hbl)
  have kf := k0.trans k2
  clear a0 a1 a2 a3 b0 b1 b2 b3 hA hB hN k0 k2 hal hbl
  have a4 := hA2.cell (j := 4) rfl
  have a5 := hA2.cell (j := 5) rfl
  have a6 := hA2.cell (j := 6) rfl
  have a7 := hA2.cell (j := 7) rfl
  have a8 := hA2.cell (j := 8) rfl
  have a9 := hA2.cell (j := 9) rfl
  have a10 := hA2.cell (j := 10) rfl
  have a11 := hA2.cell (j := 11) rfl
  have a12 := hA2.cell (j := 12) rfl
  have b4 := hB2.cell (j := 4) rfl
  have b5 := hB2.cell (j := 5) rfl
  have b6 := hB2.cell (j := 6) rfl
  have b7 := hB2.cell (j := 7) rfl
  have b8 := hB2.cell (j := 8) rfl
  have b9 := hB2.cell (j := 9) rfl
  have b10 := hB2.cell (j := 10) rfl
  have b11 := hB2.cell (j := 11) rfl
  have b12 := hB2.cell (j := 12) rfl
  clear hA2 hB2
  generalize decide (((g1, g2, g3), g4) = (((0, 0, 0), 0) : Gv)) = gz at *
  by_cases h1 : ac = 0
  · cases gz with
    | false =>
      have HQ : Hid (rz = false) := hid (by rw [HR.out]; simp [h1])
      subst h1
      go_wp2
      go_ret
      exact ⟨ret_bool HQ.out.symm, kf⟩
    | true =>
      by_cases h2 : ds = 0
      · by_cases h3 : pl = 0
        · by_cases h4 : se = 0
          · have HQ : Hid (rz = true) := hid (by rw [HR.out]; simp [h1, h2, h3, h4])
            have d1 : (ac == 0) = true := by simpa using h1
            have d2 : (ds == 0) = true := by simpa using h2
            have d3 : (pl == 0) = true := by simpa using h3
            have d4 : (se == 0) = decide (se = 0) := by rw [Bool.eq_iff_iff]; simp
            rw [decide_eq_true h4] at d4
            clear h1 h2 h3 h4
            go_wp2
            go_ret
            exact ⟨ret_bool HQ.out.symm, kf⟩
          · have HQ : Hid (rz = false) := hid (by rw [HR.out]; simp [h1, h2, h3, h4])
            have d1 : (ac == 0) = true := by simpa using h1
            have d2 : (ds == 0) = true := by simpa using h2
            have d3 : (pl == 0) = true := by simpa using h3
            have d4 : (se == 0) = decide (se = 0) := by rw [Bool.eq_iff_iff]; simp
            rw [decide_eq_false h4] at d4
            clear h1 h2 h3 h4
            go_wp2
            go_ret
            exact ⟨ret_bool HQ.out.symm, kf⟩
        · have HQ : Hid (rz = false) := hid (by rw [HR.out]; simp [h1, h2, h3])
          subst h1
          subst h2
          have d3 : (pl == 0) = false := by simpa using h3
          clear h3
          go_wp2
          go_ret
          exact ⟨ret_bool HQ.out.symm, kf⟩
      · have HQ : Hid (rz = false) := hid (by rw [HR.out]; simp [h1, h2])
        subst h1
        have d2 : (ds == 0) = false := by simpa using h2
        clear h2
        go_wp2
        go_ret
        exact ⟨ret_bool HQ.out.symm, kf⟩
  · have HQ : Hid (rz = false) := hid (by rw [HR.out]; simp [h1])
    have d1 : (ac == 0) = false := by simpa using h1
    clear h1
    go_wp2
    go_ret
    exact ⟨ret_bool HQ.out.symm, kf⟩
end Go.Proofs.Ytcddllaljgfjbaa
