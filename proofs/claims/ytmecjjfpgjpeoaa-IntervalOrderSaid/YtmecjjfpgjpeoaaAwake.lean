
/-
What the laws' own 'awake' returns: true.
-/
import Derived.Test.YtmecjjfpgjpeoaaLaw1
import Derived.Deep.RegionHeld3
namespace Go.Proofs.Ytmecjjfpgjpeoaa
open Go.RowKit

def awT : List Term := [⟨0, 2⟩, ⟨1, -1⟩]
def awB : List Rng := [⟨0, 3⟩, ⟨0, 5⟩]
def awB2 : List Rng := [⟨2, 3⟩, ⟨0, 5⟩]
def awR : List Row := [⟨[⟨0, 1⟩, ⟨1, -1⟩], -1⟩, ⟨[⟨0, -1⟩, ⟨1, 1⟩], -1⟩]
theorem aw_sum1 : (sumB ⟨awT, 1⟩ awB).1 = -5 := by decide +kernel
theorem aw_sum2 : (sumB ⟨awT, 1⟩ awB).2 = 6 := by decide +kernel
theorem aw_fix : (fixB awB awR).isSome = false := by decide +kernel
theorem aw_next1 : (nextB awB [0, 5]).isSome = true := by decide +kernel
theorem aw_next2 : (nextB awB [0, 5]).getD [] = [1, 0] := by decide +kernel
theorem aw_t1 : (tightenB ⟨awT, 1⟩ awB 0).lo = 0 ∧ (tightenB ⟨awT, 1⟩ awB 0).hi = 3 := by decide +kernel
theorem aw_t2 : (tightenB ⟨awT, 1⟩ awB2 1).lo = 3 ∧ (tightenB ⟨awT, 1⟩ awB2 1).hi = 5 := by decide +kernel
theorem aw_size : sizeB awB = 24 := by decide +kernel
theorem aw_valid : validB awB [⟨awT, 1⟩] = true := by decide +kernel
theorem aw_middle : middle ⟨-3, 0⟩ = -2 := by decide +kernel
theorem aw_contains : containsB awB [1, 0] = true := by decide +kernel

theorem litTerms2 (w : World) (a b : Term) : Terms (w.alloc (.cells #[.int .i64 a.cell, .int .i64 a.factor, .int .i64 b.cell, .int .i64 b.factor] 60)) (.slice (some ⟨w.heap.size, 0, none⟩) 2 2) [a, b] :=
  (Own.lit (base := w.heap.size) encTerm w _ [a, b] (Nat.le_refl _) (by simp) rfl rfl).sl encTerm_len
theorem litRngs2 (w : World) (a b : Rng) : Rngs (w.alloc (.cells #[.int .i64 a.lo, .int .i64 a.hi, .int .i64 b.lo, .int .i64 b.hi] 27)) (.slice (some ⟨w.heap.size, 0, none⟩) 2 2) [a, b] :=
  (Own.lit (base := w.heap.size) encRng w _ [a, b] (Nat.le_refl _) (by simp) rfl rfl).sl encRng_len
theorem litInts2 (w : World) (a b : Int) : Ints (w.alloc (.cells #[.int .i64 a, .int .i64 b] 3)) (.slice (some ⟨w.heap.size, 0, none⟩) 2 2) [a, b] :=
  (Own.lit (base := w.heap.size) encInt w _ [a, b] (Nat.le_refl _) (by simp) rfl rfl).sl encInt_len
theorem litRows2 (w : World) (va vb : Value) (a b : Row) (ha : Terms w va a.terms) (hb : Terms w vb b.terms) :
    RowsL (w.alloc (.cells #[va, .int .i64 a.bound, vb, .int .i64 b.bound] 41)) (.slice (some ⟨w.heap.size, 0, none⟩) 2 2) [a, b] := by
  have hk := (Kp.refl w).alloc (.cells #[va, .int .i64 a.bound, vb, .int .i64 b.bound] 41)
  refine ⟨_, 2, rfl, Nat.le_refl _, by omega, fun k hk' => ?_⟩
  match k, hk' with
  | 0, _ => exact ⟨w.heap.size, 0, [va, .int .i64 a.bound], rfl, by simp, rfl, fun j u hu => alloc_cell w _ _ _ (by
      match j, hu with
      | 0, hu => simpa using hu
      | 1, hu => simpa using hu), ⟨va, rfl, ha.keep (pl_stable _) hk⟩⟩
  | 1, _ => exact ⟨w.heap.size, 0, [vb, .int .i64 b.bound], rfl, by simp, rfl, fun j u hu => alloc_cell w _ _ _ (by
      match j, hu with
      | 0, hu => simpa using hu
      | 1, hu => simpa using hu), ⟨vb, rfl, hb.keep (pl_stable _) hk⟩⟩

theorem run_eql_rng (w : World) (a b c d : Int) : (binOp .eql 27 (.agg #[.int .i64 a, .int .i64 b]) (.agg #[.int .i64 c, .int .i64 d])).run Try.prog w = .ok (.bool (a == c && b == d)) w := by
  have hu : Try.prog.underlying 27 = some (.struct (Try.prog.fieldsOf 27)) := by kernel_rfl
  have hf := run_equalIn_struct (P := Try.prog) w 9999 27 #[.int .i64 a, .int .i64 b] #[.int .i64 c, .int .i64 d] hu (by kernel_rfl)
  simp only [binOp]
  have hfs : (Try.prog.fieldsOf 27).toList = (match Try.prog.underlying 27 with | some (.struct fs) => fs.toList | _ => []) := rfl
  rw [Try.underlying27] at hfs
  simp only [Op.equal, Op.maxDepth, Sem.run_bind, hf, hfs]
  go_simp
  by_cases h1 : a = c
  · by_cases h2 : b = d <;> simp [h1, h2]
  · simp [h1]

/-- what stays as it is through the examples -/
structure AwI (w0 : Nat) (w : World) : Prop where
  tm : Terms w (.slice (some ⟨w0, 0, none⟩) 2 2) awT
  bx : Rngs w (.slice (some ⟨w0 + 1 + 1, 0, none⟩) 2 2) awB
  c0 : w.cell? ⟨w0 + 1, 0, none⟩ = some (.slice (some ⟨w0, 0, none⟩) 2 2)
  c1 : w.cell? ⟨w0 + 1, 1, none⟩ = some (.int .i64 1)
  b0 : w.cell? ⟨w0 + 1 + 1, 0, none⟩ = some (.int .i64 0)
  b1 : w.cell? ⟨w0 + 1 + 1, 1, none⟩ = some (.int .i64 3)
  b2 : w.cell? ⟨w0 + 1 + 1, 2, none⟩ = some (.int .i64 0)
  b3 : w.cell? ⟨w0 + 1 + 1, 3, none⟩ = some (.int .i64 5)
  lt : w0 + 1 + 1 < w.heap.size
theorem AwI.keep {w0 : Nat} {w w' : World} (h : AwI w0 w) (k : Kp w w') : AwI w0 w' :=
  ⟨h.tm.keep (pl_stable _) k, h.bx.keep (pl_stable _) k, k.cellS h.c0, k.cellS h.c1, k.cellS h.b0, k.cellS h.b1, k.cellS h.b2, k.cellS h.b3, Nat.lt_of_lt_of_le h.lt k.size⟩

structure AwS (w0 : Nat) (v3 : Value) (w3 w : World) : Prop where
  i : AwI w0 w
  s : Ints w v3 [1, 0]
  k : Kp w3 w
section
variable {w0 : Nat} {v3 : Value} {w3 w w' : World}
theorem AwS.call (k : Kp w w') (h : AwS w0 v3 w3 w) : AwS w0 v3 w3 w' := ⟨h.i.keep k, h.s.keep (pl_stable _) k, h.k.trans k⟩
theorem AwS.alloc (h : AwS w0 v3 w3 w) (o : Obj) : AwS w0 v3 w3 (w.alloc o) := h.call ((Kp.refl _).alloc _)
theorem AwS.drew (h : AwS w0 v3 w3 w) : AwS w0 v3 w3 w.drew := h.call (Kp.refl _).drew
theorem aws_of (h : AwS w0 v3 w3 w) : w.cell? ⟨w0 + 1, 0, none⟩ = some (.slice (some ⟨w0, 0, none⟩) 2 2) ∧ w.cell? ⟨w0 + 1, 1, none⟩ = some (.int .i64 1) ∧ w.cell? ⟨w0 + 1 + 1, 0, none⟩ = some (.int .i64 0) ∧ w.cell? ⟨w0 + 1 + 1, 1, none⟩ = some (.int .i64 3) ∧ w.cell? ⟨w0 + 1 + 1, 2, none⟩ = some (.int .i64 0) ∧ w.cell? ⟨w0 + 1 + 1, 3, none⟩ = some (.int .i64 5) ∧ AwS w0 v3 w3 w :=
  ⟨h.i.c0, h.i.c1, h.i.b0, h.i.b1, h.i.b2, h.i.b3, h⟩
theorem awC1 (h : AwS w0 v3 w3 w) : Calls Try.prog 29 #[.agg #[.slice (some ⟨w0, 0, none⟩) 2 2, .int .i64 1], .slice (some ⟨w0 + 1 + 1, 0, none⟩) 2 2, .int .i64 0] w fun e w' => e = .returned (.agg #[.int .i64 0, .int .i64 3]) ∧ Kp w w' := by
  have := Tighten_any _ _ ⟨awT, 1⟩ awB 0 _ h.i.tm h.i.bx
  rwa [aw_t1.1, aw_t1.2] at this
theorem awC2 (h : AwS w0 v3 w3 (w.alloc (.cells #[.int .i64 2, .int .i64 3, .int .i64 0, .int .i64 5] 27))) : Calls Try.prog 29 #[.agg #[.slice (some ⟨w0, 0, none⟩) 2 2, .int .i64 1], .slice (some ⟨w.heap.size, 0, none⟩) 2 2, .int .i64 1] (w.alloc (.cells #[.int .i64 2, .int .i64 3, .int .i64 0, .int .i64 5] 27)) fun e w' => e = .returned (.agg #[.int .i64 3, .int .i64 5]) ∧ Kp (w.alloc (.cells #[.int .i64 2, .int .i64 3, .int .i64 0, .int .i64 5] 27)) w' := by
  have := Tighten_any _ _ ⟨awT, 1⟩ awB2 1 _ h.i.tm (litRngs2 w ⟨2, 3⟩ ⟨0, 5⟩)
  rwa [aw_t2.1, aw_t2.2] at this
theorem awC3 (h : AwS w0 v3 w3 (w.alloc (.cells #[.int .i64 1, .int .i64 0] 3))) : Calls Try.prog 26 #[v3, .slice (some ⟨w.heap.size, 0, none⟩) 2 2] (w.alloc (.cells #[.int .i64 1, .int .i64 0] 3)) fun e w' => e = .returned (.bool true) ∧ Kp (w.alloc (.cells #[.int .i64 1, .int .i64 0] 3)) w' :=
  EqualInt_any _ _ [1, 0] [1, 0] _ h.s (litInts2 w 1 0)
theorem awC4 (h : AwS w0 v3 w3 w) : Calls Try.prog 24 #[.slice (some ⟨w0 + 1 + 1, 0, none⟩) 2 2] w fun e w' => e = .returned (.int .i64 24) ∧ Kp w w' := by
  have := Size_any _ awB _ h.i.bx
  rwa [aw_size] at this
theorem awC5 (h : AwS w0 v3 w3 (w.alloc (.cells #[.slice (some ⟨w0, 0, none⟩) 2 2, .int .i64 1] 41))) : Calls Try.prog 18 #[.slice (some ⟨w0 + 1 + 1, 0, none⟩) 2 2, .slice (some ⟨w.heap.size, 0, none⟩) 1 1] (w.alloc (.cells #[.slice (some ⟨w0, 0, none⟩) 2 2, .int .i64 1] 41)) fun e w' => e = .returned (.bool true) ∧ Kp (w.alloc (.cells #[.slice (some ⟨w0, 0, none⟩) 2 2, .int .i64 1] 41)) w' := by
  have := Valid_any _ _ awB [⟨awT, 1⟩] _ h.i.bx (Sl.one (R := rdRow) w [.slice (some ⟨w0, 0, none⟩) 2 2, .int .i64 1] 41 2 ⟨awT, 1⟩ rfl ⟨_, rfl, h.i.tm⟩)
  rwa [aw_valid] at this
theorem awC6 (w : World) : Calls Try.prog 12 #[.agg #[.int .i64 (-3), .int .i64 0]] w fun e w' => e = .returned (.int .i64 (-2)) ∧ Kp w w' := by
  have := Middle_any (-3) 0 w
  rwa [aw_middle] at this
theorem awC7 (h : AwS w0 v3 w3 w) : Calls Try.prog 22 #[.slice (some ⟨w0 + 1 + 1, 0, none⟩) 2 2, v3] w fun e w' => e = .returned (.bool true) ∧ Kp w w' := by
  have := Contains_any _ _ awB [1, 0] _ h.i.bx h.s
  rwa [aw_contains] at this
theorem awC8 (w : World) : Calls Try.prog 14 #[.agg #[.int .i64 0, .int .i64 3], .agg #[.int .i64 0, .int .i64 5]] w fun e w' => e = .returned (.agg #[.int .i64 0, .int .i64 3]) ∧ Kp w w' := Meet_any 0 3 0 5 w
end
set_option maxRecDepth 10000 in
set_option maxHeartbeats 8000000 in
theorem awake_any (w : World) : Calls Try.prog 11 #[] w fun e w' => e = .returned (.bool true) ∧ Kp w w' := by
  go_enter Try.func11, Try.ntmps11
  have kA := (Kp.refl w).alloc (.cells #[.int .i64 0, .int .i64 2, .int .i64 1, .int .i64 (-1)] 60)
  have kB := kA.alloc (.cells #[.slice (some ⟨w.heap.size, 0, none⟩) 2 2, .int .i64 1] 41)
  have kC := kB.alloc (.cells #[.int .i64 0, .int .i64 3, .int .i64 0, .int .i64 5] 27)
  have hB0 := litRngs2 ((w.alloc (.cells #[.int .i64 0, .int .i64 2, .int .i64 1, .int .i64 (-1)] 60)).alloc (.cells #[.slice (some ⟨w.heap.size, 0, none⟩) 2 2, .int .i64 1] 41)) ⟨0, 3⟩ ⟨0, 5⟩
  rw [World.size_alloc, World.size_alloc] at hB0
  have I0 : AwI w.heap.size (((w.alloc (.cells #[.int .i64 0, .int .i64 2, .int .i64 1, .int .i64 (-1)] 60)).alloc (.cells #[.slice (some ⟨w.heap.size, 0, none⟩) 2 2, .int .i64 1] 41)).alloc (.cells #[.int .i64 0, .int .i64 3, .int .i64 0, .int .i64 5] 27)) :=
    ⟨(litTerms2 w ⟨0, 2⟩ ⟨1, -1⟩).keep (pl_stable _) (((Kp.refl _).alloc _).alloc _), hB0, by go_simp, by go_simp, by go_simp, by go_simp, by go_simp, by go_simp, by simp⟩
  clear hB0 kA kB
  go_wp2_with fail
  refine (Sum_any _ _ ⟨awT, 1⟩ awB _ I0.tm I0.bx).mono ?_
  rintro e w1 ⟨rfl, hk1⟩
  rw [aw_sum1, aw_sum2]
  have I1 := I0.keep hk1
  have K1 := kC.trans hk1
  clear I0 kC hk1
  have kA := (((Kp.refl w1).alloc (.cells #[.int .i64 0, .int .i64 1, .int .i64 1, .int .i64 (-1)] 60)).alloc (.cells #[.int .i64 0, .int .i64 (-1), .int .i64 1, .int .i64 1] 60)).alloc (.cells #[.slice (some ⟨w1.heap.size, 0, none⟩) 2 2, .int .i64 (-1), .slice (some ⟨w1.heap.size + 1, 0, none⟩) 2 2, .int .i64 (-1)] 41)
  have hR := litRows2 ((w1.alloc (.cells #[.int .i64 0, .int .i64 1, .int .i64 1, .int .i64 (-1)] 60)).alloc (.cells #[.int .i64 0, .int .i64 (-1), .int .i64 1, .int .i64 1] 60)) (.slice (some ⟨w1.heap.size, 0, none⟩) 2 2) (.slice (some ⟨w1.heap.size + 1, 0, none⟩) 2 2) ⟨[⟨0, 1⟩, ⟨1, -1⟩], -1⟩ ⟨[⟨0, -1⟩, ⟨1, 1⟩], -1⟩
    ((litTerms2 w1 ⟨0, 1⟩ ⟨1, -1⟩).keep (pl_stable _) ((Kp.refl _).alloc _)) (by have := litTerms2 (w1.alloc (.cells #[.int .i64 0, .int .i64 1, .int .i64 1, .int .i64 (-1)] 60)) ⟨0, -1⟩ ⟨1, 1⟩; rw [World.size_alloc] at this; exact this)
  rw [World.size_alloc, World.size_alloc] at hR
  have HR := hid hR
  clear hR
  go_wp2_with fail
  refine (Fix_any _ _ awB awR _ (I1.keep kA).bx HR.out).mono ?_
  rintro e w2 ⟨v2, rfl, -, hk2⟩
  rw [aw_fix]
  have I2 := I1.keep (kA.trans hk2)
  have K2 := K1.trans (kA.trans hk2)
  clear I1 K1 HR kA hk2
  have kA := (Kp.refl w2).alloc (.cells #[.int .i64 0, .int .i64 5] 3)
  have HI := hid (litInts2 w2 0 5)
  go_wp2_with fail
  refine (Next_any _ _ awB [0, 5] _ (I2.keep kA).bx HI.out).mono ?_
  rintro e w3 ⟨v3, rfl, hown3, hk3⟩
  rw [aw_next1]
  rw [aw_next2] at hown3
  have I3 := I2.keep (kA.trans hk3)
  have K3 := K2.trans (kA.trans hk3)
  have S3 := hown3.sl encInt_len
  clear I2 K2 HI kA hk3 hown3
  obtain ⟨A3, c3, rfl, -, -⟩ := S3.form
  have hneq := fun W a b c d => run_eql_rng W a b c d
  have c0 := I3.c0
  have c1 := I3.c1
  have b0 := I3.b0
  have b1 := I3.b1
  have b2 := I3.b2
  have b3 := I3.b3
  have l1 := I3.lt
  go_wp2_with fail
  simp only [List.append_eq, List.cons_append, List.nil_append]
  have s3 : AwS w.heap.size (.slice A3 2 c3) w3 w3 := ⟨I3, S3, Kp.refl _⟩
  go_region_held3 (fun W => W.cell? ⟨w.heap.size + 1, 0, none⟩ = some (.slice (some ⟨w.heap.size, 0, none⟩) 2 2) ∧ W.cell? ⟨w.heap.size + 1, 1, none⟩ = some (.int .i64 1) ∧ W.cell? ⟨w.heap.size + 1 + 1, 0, none⟩ = some (.int .i64 0) ∧ W.cell? ⟨w.heap.size + 1 + 1, 1, none⟩ = some (.int .i64 3) ∧ W.cell? ⟨w.heap.size + 1 + 1, 2, none⟩ = some (.int .i64 0) ∧ W.cell? ⟨w.heap.size + 1 + 1, 3, none⟩ = some (.int .i64 5) ∧ AwS w.heap.size (.slice A3 2 c3) w3 W)
    (first
      | exact aws_of (AwS.drew (by assumption))
      | (go_split_ands; exact aws_of (AwS.alloc (by assumption) _))
      | (go_split_ands; exact aws_of (AwS.call (by assumption) (by assumption))))
    (first
      | (go_split_ands; go_at_call 29; (with_reducible refine (awC1 (by assumption)).mono ?_); rintro e w' ⟨rfl, hk⟩)
      | (go_split_ands; go_at_call 29; (with_reducible refine (awC2 (by assumption)).mono ?_); rintro e w' ⟨rfl, hk⟩)
      | (go_split_ands; go_at_call 26; (with_reducible refine (awC3 (by assumption)).mono ?_); rintro e w' ⟨rfl, hk⟩)
      | (go_split_ands; go_at_call 24; (with_reducible refine (awC4 (by assumption)).mono ?_); rintro e w' ⟨rfl, hk⟩)
      | (go_split_ands; go_at_call 18; (with_reducible refine (awC5 (by assumption)).mono ?_); rintro e w' ⟨rfl, hk⟩)
      | (go_split_ands; go_at_call 12; (with_reducible refine (awC6 _).mono ?_); rintro e w' ⟨rfl, hk⟩)
      | (go_split_ands; go_at_call 22; (with_reducible refine (awC7 (by assumption)).mono ?_); rintro e w' ⟨rfl, hk⟩)
      | (go_split_ands; go_at_call 14; (with_reducible refine (awC8 _).mono ?_); rintro e w' ⟨rfl, hk⟩))
  go_wp2
  go_ret
  go_split_ands
  exact ⟨rfl, K3.trans (AwS.k (by assumption))⟩
end Go.Proofs.Ytmecjjfpgjpeoaa
