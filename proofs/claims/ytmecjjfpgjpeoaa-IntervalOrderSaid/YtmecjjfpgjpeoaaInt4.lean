
/-
What Size, Sum and Tighten return, for any input.
-/
import Derived.Test.YtmecjjfpgjpeoaaInt3
namespace Go.Proofs.Ytmecjjfpgjpeoaa
open Go.RowKit

theorem boxL_all : ∀ (l : List Rng), boxL l = true → ∀ r ∈ l, ¬ bad r
  | [], _, r, hr => by simp at hr
  | x :: l, h, r, hr => by
    unfold boxL at h
    split at h
    · simp at h
    · rename_i hb
      rcases List.mem_cons.1 hr with rfl | hr
      · exact hb
      · exact boxL_all l h r hr
theorem boxB_all {l : List Rng} (h : boxB l = true) : (∀ r ∈ l, ¬ bad r) ∧ l.length ≤ 128 := by
  unfold boxB at h
  rw [Bool.and_eq_true] at h
  exact ⟨boxL_all l h.1, by simpa using h.2⟩
theorem not_bad {r : Rng} (h : ¬ bad r) : -1000000 ≤ r.lo ∧ r.lo ≤ 1000000 ∧ -1000000 ≤ r.hi ∧ r.hi ≤ 1000000 := by
  unfold bad at h
  omega

/-! Size -/
def sizeL : Int → List Rng → Int
  | n, [] => n
  | n, r :: l => sizeL (min (n * (r.hi - r.lo + 1)) 1073741824) l
def sizeB (b : List Rng) : Int := if boxB b = true ∧ b.any emptyR = false then sizeL 1 b else 0
theorem size_bd (n lo hi : Int) (h1 : 1 ≤ n) (h2 : n ≤ 1073741824) (h3 : lo ≤ hi) (h4 : -1000000 ≤ lo) (h5 : hi ≤ 1000000) : 1 ≤ n * (hi - lo + 1) ∧ n * (hi - lo + 1) ≤ 2147484721741824 := by
  constructor
  · have : (1 : Int) * 1 ≤ n * (hi - lo + 1) := Int.mul_le_mul h1 (by omega) (by omega) (by omega)
    omega
  · have : n * (hi - lo + 1) ≤ 1073741824 * 2000001 := Int.mul_le_mul h2 (by omega) (by omega) (by omega)
    omega
set_option maxHeartbeats 1000000 in
theorem Size_any (vb : Value) (b : List Rng) (w : World) (hb : Rngs w vb b) :
    Calls Try.prog 24 #[vb] w fun e w' => e = .returned (.int .i64 (sizeB b)) ∧ Kp w w' := by
  obtain ⟨A, c, rfl, hc, hm⟩ := hb.form
  go_enter Try.func24, Try.ntmps24
  go_wp2_with fail
  refine (box_any _ b _ hb).mono ?_
  rintro e w1 ⟨rfl, hk1⟩
  have hbel1 := ((Kp.refl _)).trans hk1
  cases hB : boxB b with
  | false =>
    have HF : Hid (sizeB b = 0) := hid (by simp [sizeB, hB])
    clear hB
    go_wp2
    go_ret
    exact ⟨ret_int HF.out.symm, hbel1⟩
  | true =>
    obtain ⟨hall, h128⟩ := boxB_all hB
    have HA := hid hall
    have HB := hid hB
    clear hB hall
    go_wp2_with fail
    refine (Empty_any _ b _ (hb.keep (pl_stable _) hk1)).mono ?_
    rintro e w2 ⟨rfl, hk2⟩
    have hbel2 := (hbel1).trans hk2
    cases hE : b.any emptyR with
    | true =>
      have HF : Hid (sizeB b = 0) := hid (by simp [sizeB, hE])
      clear hE
      go_wp2
      go_ret
      exact ⟨ret_int HF.out.symm, hbel2⟩
    | false =>
      have HE := hid hE
      have hS : Hid (sizeB b = sizeL 1 b) := hid (by simp [sizeB, hE, HB.out])
      clear hE
      go_wp2
      go_loopw [3, 15] (fun z i wr => ∃ (k : Nat) (n : Int), k ≤ b.length ∧ i = .int .i64 k ∧ 1 ≤ n ∧ n ≤ 1073741824 ∧ z = .int .i64 n ∧ Hid (sizeB b = sizeL n (b.drop k)) ∧ Kp w wr) (fun _ i _ => b.length - (intOf i).toNat)
      case atStart => exact ⟨0, 1, Nat.zero_le _, rfl, by omega, by omega, rfl, hS, hbel2⟩
      case round =>
        obtain ⟨k, n, hk, rfl, hn1, hn2, rfl, HL, hbel⟩ := hrel
        by_cases hlt : k < b.length
        · obtain ⟨g, o, rfl, hg, h1, h2⟩ := (hb.keep (pl_stable _) hbel).rng hlt
          have HD := hid (List.drop_eq_getElem_cons hlt)
          have hnb := not_bad (HA.out b[k] (List.getElem_mem hlt))
          have hne : b[k].lo ≤ b[k].hi := by
            have h0 := List.any_eq_false.1 HE.out b[k] (List.getElem_mem hlt)
            unfold emptyR at h0
            simpa using h0
          generalize b[k] = r at *
          obtain ⟨lo, hi⟩ := r
          clear hb
          dsimp only at h1 h2 hnb hne
          obtain ⟨g1, g2, g3, g4⟩ := hnb
          have HF : Hid (sizeB b = sizeL (min (n * (hi - lo + 1)) 1073741824) (b.drop (k + 1))) := hid (by rw [HL.out, HD.out, sizeL])
          obtain ⟨p1, p2⟩ := size_bd n lo hi hn1 hn2 hne g1 g4
          have HW : wrap64 (n * (hi - lo + 1)) = n * (hi - lo + 1) := IntWalk.wrap64_in _ (by omega)
          go_wp2
          all_goals
            go_roundw
            case rel => exact ⟨k + 1, _, by omega, by go_num, by omega, by omega, by go_num, HF, (by repeat (first | assumption | exact Kp.refl _ | apply Kp.alloc | apply Kp.drew | apply Kp.drewN))⟩
            case measure => simp [intOf]; omega
        · have HF : Hid (sizeB b = n) := hid (by rw [HL.out, List.drop_of_length_le (by omega)]; rfl)
          go_wp2
          go_ret
          exact ⟨ret_int HF.out.symm, hbel⟩

/-! the least and the greatest sum -/
def pick (b : List Rng) (c : Int) : Rng := b.getD c.toNat ⟨0, 0⟩
def termV (b : List Rng) (without sign : Int) (t : Term) : Int :=
  if t.cell = without then 0 else if 0 < t.factor * sign then t.factor * (pick b t.cell).lo else t.factor * (pick b t.cell).hi
def boundL (b : List Rng) (without sign : Int) : Int → List Term → Int
  | acc, [] => acc
  | acc, t :: l => boundL b without sign (acc + termV b without sign t) l
def okT (n : Nat) (t : Term) : Prop := 0 ≤ t.cell ∧ t.cell < n ∧ -1000 ≤ t.factor ∧ t.factor ≤ 1000
theorem mul_bd (f x : Int) (h1 : -1000 ≤ f) (h2 : f ≤ 1000) (h3 : -1000000 ≤ x) (h4 : x ≤ 1000000) : -1000000000 ≤ f * x ∧ f * x ≤ 1000000000 := by
  have h : (f * x).natAbs ≤ 1000 * 1000000 := by
    rw [Int.natAbs_mul]
    exact Nat.mul_le_mul (by omega) (by omega)
  omega
theorem pick_at (b : List Rng) (j : Nat) (h : j < b.length) : pick b (j : Int) = b[j] := by
  unfold pick
  simp [List.getD, h]
set_option maxHeartbeats 1000000 in
theorem bound_any (vt vb : Value) (ts : List Term) (bd : Int) (b : List Rng) (without sign : Int) (w : World) (ht : Terms w vt ts) (hb : Rngs w vb b)
    (hs : sign = 1 ∨ sign = -1) (hok : ∀ t ∈ ts, okT b.length t) (hbox : ∀ r ∈ b, ¬ bad r) (hl : ts.length ≤ 128) :
    Calls Try.prog 53 #[.agg #[vt, .int .i64 bd], vb, .int .i64 without, .int .i64 sign] w fun e w' => e = .returned (.int .i64 (boundL b without sign 0 ts)) ∧ Kp w w' := by
  obtain ⟨A, c, rfl, hc, hm⟩ := ht.form
  obtain ⟨A', c', rfl, hc', hm'⟩ := hb.form
  have HOK := hid hok
  have HBX := hid hbox
  clear hok hbox
  go_enter Try.func53, Try.ntmps53
  go_wp2
  have hk0 := (Kp.refl w).alloc (.cells #[.slice A ts.length c, .int .i64 bd] 41)
  generalize w.alloc (.cells #[.slice A ts.length c, .int .i64 bd] 41) = w0 at *
  have ht0 := ht.keep (pl_stable _) hk0
  have hb0 := hb.keep (pl_stable _) hk0
  clear ht hb
  go_loopw [9, 16] (fun z i wr => ∃ (k : Nat) (n : Int), k ≤ ts.length ∧ i = .int .i64 k ∧ -1000000000 * (k : Int) ≤ n ∧ n ≤ 1000000000 * (k : Int) ∧ z = .int .i64 n ∧ Hid (boundL b without sign 0 ts = boundL b without sign n (ts.drop k)) ∧ Kp w0 wr) (fun _ i _ => ts.length - (intOf i).toNat)
  case atStart => exact ⟨0, 0, Nat.zero_le _, rfl, by omega, by omega, rfl, rfl, Kp.refl _⟩
  case round =>
    obtain ⟨k, n, hk, rfl, hn1, hn2, rfl, HL, hbel⟩ := hrel
    have hbel' := hk0.trans hbel
    by_cases hlt : k < ts.length
    · obtain ⟨g, o, rfl, hg, h1, h2⟩ := (ht0.keep (pl_stable _) hbel).term hlt
      have HD := hid (List.drop_eq_getElem_cons hlt)
      obtain ⟨o1, o2, o3, o4⟩ := HOK.out ts[k] (List.getElem_mem hlt)
      generalize ts[k] = t at *
      obtain ⟨ce, fa⟩ := t
      dsimp only at h1 h2 o1 o2 o3 o4
      obtain ⟨j, rfl⟩ := Int.eq_ofNat_of_zero_le o1
      have hj : j < b.length := by omega
      obtain ⟨g', o', rfl, hg', h3, h4⟩ := (hb0.keep (pl_stable _) hbel).rng hj
      have HP := hid (pick_at b j hj)
      have hnb := not_bad (HBX.out b[j] (List.getElem_mem hj))
      generalize b[j] = r at *
      obtain ⟨lo, hi⟩ := r
      clear ht0 hb0
      dsimp only at h3 h4 hnb
      obtain ⟨g1, g2, g3, g4⟩ := hnb
      obtain ⟨p1, p2⟩ := mul_bd fa lo o3 o4 g1 g2
      obtain ⟨p3, p4⟩ := mul_bd fa hi o3 o4 g3 g4
      have HW1 : wrap64 (fa * lo) = fa * lo := IntWalk.wrap64_in _ (by omega)
      have HW2 : wrap64 (fa * hi) = fa * hi := IntWalk.wrap64_in _ (by omega)
      have HF : Hid (boundL b without sign 0 ts = boundL b without sign (n + termV b without sign ⟨j, fa⟩) (ts.drop (k + 1))) := hid (by rw [HL.out, HD.out, boundL])
      have HT : Hid (termV b without sign ⟨j, fa⟩ = if (j : Int) = without then 0 else if 0 < fa * sign then fa * lo else fa * hi) := hid (by unfold termV; dsimp only; rw [HP.out])
      by_cases hw : (j : Int) = without
      · have b1 : ((j : Int) == without) = true := by simpa using hw
        have HV : Hid (termV b without sign ⟨j, fa⟩ = 0) := hid (by rw [HT.out, if_pos hw])
        clear hw
        go_wp2
        go_roundw
        case rel => exact ⟨k + 1, _, by omega, by go_num, by omega, by omega, rfl, hid (by rw [HF.out, HV.out, Int.add_zero]), (by repeat (first | assumption | exact Kp.refl _ | apply Kp.alloc | apply Kp.drew | apply Kp.drewN))⟩
        case measure => simp [intOf]; omega
      · have b1 : ((j : Int) == without) = false := by simpa using hw
        by_cases hp : 0 < fa * sign
        · have HV : Hid (termV b without sign ⟨j, fa⟩ = fa * lo) := hid (by rw [HT.out, if_neg hw, if_pos hp])
          clear hw
          rcases hs with rfl | rfl
          all_goals
            go_wp2
            go_roundw
            case rel => exact ⟨k + 1, _, by omega, by go_num, by omega, by omega, rfl, hid (by rw [HF.out, HV.out]), (by repeat (first | assumption | exact Kp.refl _ | apply Kp.alloc | apply Kp.drew | apply Kp.drewN))⟩
            case measure => simp [intOf]; omega
        · have HV : Hid (termV b without sign ⟨j, fa⟩ = fa * hi) := hid (by rw [HT.out, if_neg hw, if_neg hp])
          clear hw
          rcases hs with rfl | rfl
          all_goals
            go_wp2
            go_roundw
            case rel => exact ⟨k + 1, _, by omega, by go_num, by omega, by omega, rfl, hid (by rw [HF.out, HV.out]), (by repeat (first | assumption | exact Kp.refl _ | apply Kp.alloc | apply Kp.drew | apply Kp.drewN))⟩
            case measure => simp [intOf]; omega
    · have HF : Hid (boundL b without sign 0 ts = n) := hid (by rw [HL.out, List.drop_of_length_le (by omega)]; rfl)
      go_wp2
      go_ret
      exact ⟨ret_int HF.out.symm, hbel'⟩
end Go.Proofs.Ytmecjjfpgjpeoaa
