
/-
Graphs: Order: the walk.
-/
import Derived.Test.YtlkabhjkncklnaaDgC
namespace Go.Proofs.Ytlkabhjkncklnaa
set_option linter.unusedSimpArgs false
set_option linter.unusedVariables false
open Go.RowKit

/-- whether a vertex could stand next -/
def freeB (n : Nat) (es : List Bool) (out : List Nat) (v : Nat) : Bool := !decide (v ∈ out) && (List.range n).all fun u => !hasE n es u v || decide (u ∈ out)
/-- the least one of the last d vertices that could -/
def nextD (n : Nat) (es : List Bool) (out : List Nat) : Nat → Option Nat
  | 0 => none
  | d + 1 => if freeB n es out (n - (d + 1)) then some (n - (d + 1)) else nextD n es out d
def optI : Option Nat → Int
  | none => -1
  | some v => (v : Int)
theorem nextD_lt (n : Nat) (es : List Bool) (out : List Nat) : ∀ d, d ≤ n → ∀ v, nextD n es out d = some v → v < n
  | 0, _, v, h => by cases h
  | d + 1, hd, v, h => by
    unfold nextD at h
    split at h
    · injection h with h
      omega
    · exact nextD_lt n es out d (by omega) v h
def orderF (n : Nat) (es : List Bool) : Nat → List Nat → List Nat × Bool
  | 0, out => (out, true)
  | f + 1, out => match nextD n es out n with
    | none => ([], false)
    | some v => orderF n es f (out ++ [v])
def orderPub (s : Int) (es : List Bool) : List Int × Bool := if openB s es.length = true then (castL (orderF s.toNat es s.toNat []).1, (orderF s.toNat es s.toNat []).2) else ([], false)
theorem mem_castL (l : List Nat) (x : Nat) : (x : Int) ∈ castL l ↔ x ∈ l := by
  unfold castL
  rw [List.mem_map]
  constructor
  · rintro ⟨y, hy, e⟩
    have : y = x := by omega
    exact this ▸ hy
  · intro h
    exact ⟨x, h, rfl⟩
theorem all_range_succ (p : Nat → Bool) (k : Nat) : (List.range (k + 1)).all p = ((List.range k).all p && p k) := by
  rw [List.range_succ, List.all_append]
  simp
theorem ContainsN_any (v : Value) (l : List Nat) (x : Nat) (w : World) (hl : Ints w v (castL l)) : Calls Try.prog 32 #[v, .int .i64 (x : Int)] w fun e w' => e = .returned (.bool (decide (x ∈ l))) ∧ w' = w :=
  (ContainsI_any v (castL l) (x : Int) w hl).mono fun e w' ⟨h1, h2⟩ => ⟨by rw [h1]; congr 2; rw [Bool.eq_iff_iff, decide_eq_true_iff, decide_eq_true_iff]; exact mem_castL l x, h2⟩
set_option maxRecDepth 8000 in
set_option maxHeartbeats 4000000 in
theorem dOrder_any (s : Int) (v : Value) (es : List Bool) (w : World) (hes : Bools w v es) : Calls Try.prog 19 #[.int .i64 s, v] w fun e w' => ∃ v', e = .returned (.tuple #[v', .bool (orderPub s es).2]) ∧ Ints w' v' (orderPub s es).1 ∧ Kp w w' := by
  obtain ⟨A, c, rfl, hc, hm⟩ := hes.form
  have HES := hid hes
  generalize hR : orderPub s es = R
  have HR : Hid (R = if openB s es.length = true then (castL (orderF s.toNat es s.toNat []).1, (orderF s.toNat es s.toNat []).2) else ([], false)) := hid hR.symm
  clear hR hes
  go_enter Try.func19, Try.ntmps19
  go_wp2_with fail
  refine (dOpen_any s A es.length c w (by omega)).mono ?_
  rintro e w1 ⟨rfl, k1⟩
  have k2 := k1.alloc (.cells #[.int .i64 s, .slice A es.length c] 51)
  cases ho : openB s es.length with
  | false =>
    have HF : Hid (R = ([], false)) := hid (by rw [HR.out, if_neg (by rw [ho]; simp)])
    replace ho := hid ho
    go_wp2
    go_ret2
    exact ⟨_, by rw [HF.out]; rfl, by rw [HF.out]; exact Sl.nil _ _ _, k2⟩
  | true =>
    obtain ⟨n, rfl, h1, h6, hl⟩ := openB_iff ho
    have HF : Hid (R = (castL (orderF n es n []).1, (orderF n es n []).2)) := hid (by rw [HR.out, if_pos ho]; rfl)
    have HL := hid hl
    replace ho := hid ho
    have hA := Bx.new w1 #[.int .i64 (n : Int), .slice A es.length c] 51
    have la := alloc_lt w1 (.cells #[.int .i64 (n : Int), .slice A es.length c] 51)
    have h1w := k1.size
    clear hl HR
    go_upto_region 2 with (fail)
    generalize hw2 : w1.alloc (.cells #[.int .i64 (n : Int), .slice A es.length c] 51) = w2 at *
    generalize hb0 : w1.heap.size = b0 at *
    clear hw2 k1
    go_wp2_with fail
    go_loopw [8] (fun ov wr => ∃ (f : Nat) (out : List Nat), out.length + f = n ∧ Own encInt 3 1 (b0 + 1) wr ov (castL out) ∧ Hid (R = (castL (orderF n es f out).1, (orderF n es f out).2)) ∧ Kp w wr ∧ Bx wr b0 [.int .i64 (n : Int), .slice A es.length c] ∧ b0 < wr.heap.size) (fun ov _ => match ov with | .slice _ m _ => n - m | _ => n)
    case atStart => exact ⟨n, [], by simp, Own.nil _ _ _ _ _, HF, k2, hA, la⟩
    case round =>
      clear k2 hA la HF
      obtain ⟨f, out, hfn, own, HO, kr, hB, lb⟩ := hrel
      obtain ⟨Ao, co, e0, hco, hmo⟩ := own.form
      rw [castL_len] at e0 hco
      generalize hlo : out.length = lo at *
      subst e0
      have HLO := hid hlo
      clear hlo
      cases f with
      | zero =>
        have hnl : ¬ (lo : Int) < (n : Int) := by omega
        have HF : Hid (R = (castL out, true)) := hid HO.out
        go_wp2
        go_ret2
        exact ⟨_, by rw [HF.out]; rfl, by rw [HF.out]; have := own.sl encInt_len; exact this, kr⟩
      | succ f =>
        have hnl : (lo : Int) < (n : Int) := by omega
        have HOW := hid own
        have HBX := hid hB
        have HSL := hid (own.sl encInt_len)
        have HNL := hid hnl
        clear own hB
        go_wp2_with fail
        obtain ⟨wo, rfl⟩ : ∃ wo : World, wo = wr := ⟨_, rfl⟩
        go_loopw [9, 10] (fun nv vv wi => ∃ (d : Nat) (j : Int), d ≤ n ∧ j = (n : Int) - 1 - (d : Int) ∧ vv = .int .i64 j ∧ nv = .int .i64 (optI (nextD n es out d)) ∧ Kp wo wi) (fun _ vv _ => (intOf vv + 1).toNat)
        case atStart => exact ⟨0, (n : Int) - 1, Nat.zero_le _, by omega, rfl, rfl, Kp.refl _⟩
        case round =>
          obtain ⟨d, j, hd, hj, rfl, rfl, kd⟩ := hrel
          by_cases hdn : d < n
          · obtain ⟨jn, rfl⟩ := Int.eq_ofNat_of_zero_le (show 0 ≤ j by omega)
            have hjn : jn < n := by omega
            have hjd : n - (d + 1) = jn := by omega
            have HND : Hid (nextD n es out (d + 1) = if freeB n es out jn then some jn else nextD n es out d) := hid (by rw [nextD, hjd])
            have HFR : Hid (freeB n es out jn = (!decide (jn ∈ out) && (List.range n).all fun u => !hasE n es u jn || decide (u ∈ out))) := hid rfl
            have HJ := hid hj
            have hjp : (0 : Int) ≤ (jn : Int) := by omega
            clear hj hjd
            generalize hnx : optI (nextD n es out d) = nx at *
            have HNX := hid hnx
            clear hnx
            go_wp2_with fail
            refine (ContainsN_any _ out jn _ (HSL.out.keep (pl_stable _) kd)).mono ?_
            rintro e w5 ⟨rfl, rfl⟩
            go_wp2_with fail
            go_loopw [11, 36] (fun fv iv wi => ∃ u : Nat, u ≤ n ∧ iv = .int .i64 (u : Int) ∧ fv = .bool (!decide (jn ∈ out) && (List.range u).all fun u => !hasE n es u jn || decide (u ∈ out)) ∧ Kp wo wi) (fun _ iv _ => n - (intOf iv).toNat)
            case atStart => exact ⟨0, Nat.zero_le _, rfl, by simp, kd⟩
            case round =>
              obtain ⟨u, hu, rfl, rfl, ku⟩ := hrel
              have HUS := hid (all_range_succ (fun u => !hasE n es u jn || decide (u ∈ out)) u)
              by_cases hun : u < n
              · have hul : (u : Int) < (n : Int) := by omega
                cases hfb : (!decide (jn ∈ out) && (List.range u).all fun u => !hasE n es u jn || decide (u ∈ out)) with
                | false =>
                  have HFU : Hid ((!decide (jn ∈ out) && (List.range (u + 1)).all fun u => !hasE n es u jn || decide (u ∈ out)) = false) := hid (by rw [HUS.out, ← Bool.and_assoc, hfb]; rfl)
                  replace hfb := hid hfb
                  go_wp2_with fail
                  go_roundw
                  case rel => exact ⟨u + 1, by omega, by go_num, by rw [HFU.out], ku⟩
                  case measure => simp [intOf]; omega
                | true =>
                  have HFV : Hid ((!decide (jn ∈ out) && (List.range (u + 1)).all fun u => !hasE n es u jn || decide (u ∈ out)) = (!hasE n es u jn || decide (u ∈ out))) := hid (by rw [HUS.out, ← Bool.and_assoc, hfb]; rfl)
                  have HG : Hid (GrV wr (.agg #[.int .i64 (n : Int), .slice A es.length c]) n es) := hid ⟨_, rfl, HES.out.keep (pl_stable _) (kr.trans ku), HL.out, h1, h6⟩
                  have hBu := HBX.out.kp ku lb
                  have c0 := hBu.cell (j := 0) rfl
                  have c1 := hBu.cell (j := 1) rfl
                  replace hfb := hid hfb
                  go_wp2_with fail
                  refine (dHas_any _ n es u jn _ HG.out hun hjn).mono ?_
                  rintro e w7 ⟨rfl, k7⟩
                  have ku7 := ku.trans k7
                  clear c0 c1 hBu
                  cases hE : hasE n es u jn with
                  | false =>
                    have HFU : Hid ((!decide (jn ∈ out) && (List.range (u + 1)).all fun u => !hasE n es u jn || decide (u ∈ out)) = true) := hid (by rw [HFV.out, hE]; rfl)
                    replace hE := hid hE
                    go_wp2_with fail
                    go_roundw
                    case rel => exact ⟨u + 1, by omega, by go_num, by rw [HFU.out], ku7⟩
                    case measure => simp [intOf]; omega
                  | true =>
                    have HFU : Hid ((!decide (jn ∈ out) && (List.range (u + 1)).all fun u => !hasE n es u jn || decide (u ∈ out)) = decide (u ∈ out)) := hid (by rw [HFV.out, hE]; rfl)
                    replace hE := hid hE
                    go_wp2_with fail
                    refine (ContainsN_any _ out u _ (HSL.out.keep (pl_stable _) ku7)).mono ?_
                    rintro e w8 ⟨rfl, rfl⟩
                    generalize decide (u ∈ out) = ub at *
                    go_wp2_with fail
                    go_roundw
                    case rel => exact ⟨u + 1, by omega, by go_num, by rw [HFU.out], ku7⟩
                    case measure => simp [intOf]; omega
              · obtain rfl : u = n := by omega
                have hul : ¬ (u : Int) < (u : Int) := by omega
                rw [← HFR.out]
                cases hfb : freeB u es out jn with
                | false =>
                  have HN2 : Hid (nextD u es out (d + 1) = nextD u es out d) := hid (by rw [HND.out, hfb]; rfl)
                  replace hfb := hid hfb
                  go_wp2_with fail
                  go_roundw
                  case rel => exact ⟨d + 1, (jn : Int) - 1, by omega, by have := HJ.out; omega, rfl, by rw [HN2.out, HNX.out], ku⟩
                  case measure => simp [intOf]
                | true =>
                  have HN2 : Hid (nextD u es out (d + 1) = some jn) := hid (by rw [HND.out, hfb]; rfl)
                  replace hfb := hid hfb
                  go_wp2_with fail
                  go_roundw
                  case rel => exact ⟨d + 1, (jn : Int) - 1, by omega, by have := HJ.out; omega, rfl, by rw [HN2.out]; rfl, ku⟩
                  case measure => simp [intOf]
          · obtain rfl : d = n := by omega
            obtain rfl : j = -1 := by omega
            have own := HOW.out.kp kd
            have hB := HBX.out.kp kd lb
            have krd := kr.trans kd
            have lbd := Nat.lt_of_lt_of_le lb kd.size
            have hlo6 : lo ≤ 6 := by omega
            clear hj
            cases hN : nextD d es out d with
            | none =>
              have HF : Hid (R = ([], false)) := hid (by rw [HO.out, orderF, hN]; rfl)
              replace hN := hid hN
              have e1 : optI none = -1 := rfl
              go_wp2
              go_ret2
              exact ⟨_, by rw [HF.out]; rfl, by rw [HF.out]; exact Sl.nil _ _ _, krd⟩
            | some x =>
              have HO2 : Hid (R = (castL (orderF d es f (out ++ [x])).1, (orderF d es f (out ++ [x])).2)) := hid (by rw [HO.out, orderF, hN])
              have e1 : optI (some x) = (x : Int) := rfl
              rw [e1]
              replace hN := hid hN
              have hx0 : ¬ (x : Int) < 0 := by omega
              clear e1
              have hcl : (castL out).length ≤ 6 := by rw [castL_len, HLO.out]; exact hlo6
              have hb9 : b0 + 1 ≤ wr.heap.size := lbd
              go_wp2_with (at_builtin; refine wpl_append_flat rfl (.tmp 57) (.tmp 59) rfl stIntM encInt_len encInt_one rfl (own.alloc _) rfl (Sl.one (R := Pl encInt) wr _ 3 1 (x : Int) rfl rfl) (by simp; omega) (by simp; omega) (by simp; omega) ?_; intro vA wA ownA hgr hat hnil)
              have hgrA : (wr.alloc (.cells #[.int .i64 (x : Int)] 3)).grownBy wA (Value.slice Ao lo co).ownBlock := hgr
              have hge := own.ge
              have hsA := hgrA.size
              have hsa := alloc_lt wr (.cells #[.int .i64 (x : Int)] 3)
              have krA := (krd.alloc (.cells #[.int .i64 (x : Int)] 3)).grown hgrA (fun q hq => by have := hge q hq; omega)
              have hBA := (hB.kp ((Kp.refl wr).alloc (.cells #[.int .i64 (x : Int)] 3)) (by omega)).grown hgrA (fun e => by have := hge b0 e; omega) (by omega)
              clear hgr hat hnil hgrA own krd hB
              obtain ⟨AA, cA, eA, hcA, hmA⟩ := ownA.form
              have hlA : (castL out ++ [(x : Int)]).length = lo + 1 := by rw [List.length_append, castL_len, HLO.out]; rfl
              rw [hlA] at eA
              subst eA
              go_roundw
              case rel => exact ⟨f, out ++ [x], by have := HLO.out; simp; omega, by rw [castL_snoc]; exact ownA, HO2, krA, hBA, by omega⟩
              case measure =>
                show d - (lo + 1) < d - lo
                omega
end Go.Proofs.Ytlkabhjkncklnaa
