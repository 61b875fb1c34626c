
/-
The reference's test for cycles: the walk.
-/
import Derived.Test.YtfllmnaillilhaaRefS12
namespace Go.Proofs.Ytfllmnaillilhaa
set_option linter.unusedSimpArgs false
set_option linter.unusedVariables false
open Go.RowKit

/-- a vertex to which no edge leads from one that is left -/
def freeQ (s : Nat) (es left : List Bool) (a : Nat) : Bool := !(List.range s).any fun b => left.getD b false && es.getD (b * s + a) false
def passQ (s : Nat) (es : List Bool) : List Nat → List Bool → List Bool
  | [], left => left
  | a :: r, left => passQ s es r (if freeQ s es left a then left.set a false else left)
def roundsQ (s : Nat) (es : List Bool) : Nat → List Bool → List Bool
  | 0, left => left
  | n + 1, left => roundsQ s es n (passQ s es (List.range s) left)
def acyQ (s : Nat) (es : List Bool) : Bool := !(roundsQ s es s (List.replicate s true)).any id
theorem range_drop {s a : Nat} (h : a < s) : (List.range s).drop a = a :: (List.range s).drop (a + 1) := by
  rw [List.drop_eq_getElem_cons (by simpa using h)]
  simp
theorem idx_wraps {b k m a : Nat} (hm : b * k = m) (h : m ≤ 36) (ha : a ≤ 6) : IntKind.i64.wrap ((b : Int) * (k : Int)) = (m : Int) ∧ wrap64 ((b : Int) * (k : Int)) = (m : Int) ∧ IntKind.i64.wrap ((m : Int) + (a : Int)) = (m : Int) + (a : Int) ∧ (0 : Int) ≤ (m : Int) + (a : Int) ∧ ((m : Int) + (a : Int)).toNat = m + a := by
  have hmc : ((b : Int) * (k : Int)) = (m : Int) := by rw [← hm]; simp
  rw [hmc]
  exact ⟨IntWalk.i64_in _ (by omega), IntWalk.wrap64_in _ (by omega), IntWalk.i64_in _ (by omega), by omega, by omega⟩
theorem idx_lt {m a n : Nat} (h : m + a < n) : (m : Int) + (a : Int) < n := by omega
theorem le_six {b k : Nat} (h : b < k) (hk : k ≤ 6) : b * k ≤ 36 := Nat.le_trans (Nat.mul_le_mul (by omega : b ≤ 6) hk) (by omega)
set_option maxRecDepth 8000 in
set_option maxHeartbeats 8000000 in
theorem qAcyclic_any (s : Nat) (ve : Value) (es : List Bool) (w : World) (hE : Bools w ve es) (hs1 : 1 ≤ s) (hs : s ≤ 6) (hl : es.length = s * s) :
    Calls Try.prog 106 #[.int .i64 (s : Int), ve] w fun e w' => e = .returned (.bool (acyQ s es)) ∧ Kp w w' := by
  have hpos : 0 < es.length := by rw [hl]; exact Nat.mul_pos hs1 hs1
  obtain ⟨A, c, rfl, hc, hm⟩ := hE.form
  obtain ⟨pe, oe, rfl, hpe, -⟩ := hE.bools hpos
  have HL := hid hl
  have HQ : Hid (acyQ s es = !(roundsQ s es s (List.replicate s true)).any id) := hid rfl
  clear hl hpos
  go_enter Try.func106, Try.ntmps106
  go_wp2
  go_loopw [5, 6] (fun v i wr => ∃ k : Nat, k ≤ s ∧ i = .int .i64 k ∧ Own encBool 4 1 w.heap.size wr v (List.replicate k true) ∧ Kp w wr) (fun _ i _ => s - (intOf i).toNat)
  case atStart => exact ⟨0, Nat.zero_le _, rfl, Own.lit (base := w.heap.size) encBool w #[] [] (Nat.le_refl _) (by simp) rfl rfl, (Kp.refl _).alloc _⟩
  case round =>
    obtain ⟨k, hk, rfl, hown, hbel⟩ := hrel
    by_cases hlt : k < s
    · have hsz := hbel.size
      have HR := hid (show List.replicate (k + 1) true = List.replicate k true ++ [true] from List.replicate_succ')
      have hlen : (List.replicate k true).length = k := by simp
      generalize List.replicate k true = L at *
      go_wp2_with (at_builtin; refine wpl_append_flat rfl (.tmp 18) (.tmp 19) rfl stBoolM encBool_len encBool_one rfl (hown.alloc _) rfl (srcBool wr true) (by first | omega | (simp; omega)) (by first | omega | (simp; omega)) (by simp; omega) ?_; intro v1 w1 hown1 hgrow1 hat1 hnil1)
      go_roundw
      case rel => exact ⟨k + 1, by omega, by go_num, by rw [HR.out]; exact hown1, (hbel.alloc _).grown hgrow1 hown.ge⟩
      case measure => simp [intOf]; omega
    · obtain rfl : k = s := by omega
      have HI := hid (show (List.replicate k true).length = k by simp)
      generalize List.replicate k true = left0 at *
      obtain ⟨A5, c5, rfl, _, _⟩ := hown.form
      obtain ⟨g, rfl, hgb, hg⟩ := hown.at_ (by rw [HI.out]; omega)
      rw [HI.out] at hown ⊢
      obtain ⟨wx, hwx⟩ : ∃ wx : World, wx = wr := ⟨_, rfl⟩
      subst hwx
      have g0 : decide ((k : Int) < (k : Int)) = false := decide_eq_false (by omega)
      go_wp2
      clear g0
      go_loopw [7] (fun i wr => ∃ (j : Nat) (left : List Bool), j ≤ k ∧ i = .int .i64 j ∧ Hid (left.length = k) ∧ Own encBool 4 1 w.heap.size wr (.slice (some ⟨g, 0, none⟩) k c5) left ∧ Kp w wr ∧ Hid (roundsQ k es k left0 = roundsQ k es (k - j) left)) (fun i _ => k - (intOf i).toNat)
      case atStart => exact ⟨0, left0, Nat.zero_le _, rfl, HI, hown, hbel, hid rfl⟩
      case round =>
        clear hown hbel HI
        obtain ⟨j, left, hj, rfl, HLl, own, hbel, HT⟩ := hrel
        by_cases hjl : j < k
        · have HT2 : Hid (roundsQ k es k left0 = roundsQ k es (k - (j + 1)) (passQ k es (List.range k) left)) := hid (by
            rw [HT.out, show k - j = (k - (j + 1)) + 1 by omega]
            rfl)
          obtain ⟨wx, hwx⟩ : ∃ wx : World, wx = wr := ⟨_, rfl⟩
          subst hwx
          have g0 : decide ((j : Int) < (k : Int)) = true := decide_eq_true (by omega)
          generalize hP : passQ k es (List.range k) left = P at *
          have HP : Hid (P = passQ k es (List.range k) left) := hid hP.symm
          clear hP
          go_wp2
          clear g0
          go_loopw [8] (fun i wr => ∃ (a : Nat) (l2 : List Bool), a ≤ k ∧ i = .int .i64 a ∧ Hid (l2.length = k) ∧ Own encBool 4 1 w.heap.size wr (.slice (some ⟨g, 0, none⟩) k c5) l2 ∧ Kp w wr ∧ Hid (P = passQ k es ((List.range k).drop a) l2)) (fun i _ => k - (intOf i).toNat)
          case atStart => exact ⟨0, left, Nat.zero_le _, rfl, HLl, own, hbel, hid (by rw [HP.out]; rfl)⟩
          case round =>
            clear own hbel HLl HP
            obtain ⟨a, l2, ha, rfl, HL2, own, hbel, HP⟩ := hrel
            by_cases hal : a < k
            · have HP2 : Hid (P = passQ k es ((List.range k).drop (a + 1)) (if freeQ k es l2 a then l2.set a false else l2)) := hid (by rw [HP.out, range_drop hal]; rfl)
              have HF : Hid (freeQ k es l2 a = !(List.range k).any fun b => l2.getD b false && es.getD (b * k + a) false) := hid rfl
              obtain ⟨wx, hwx⟩ : ∃ wx : World, wx = wr := ⟨_, rfl⟩
              subst hwx
              have g0 : decide ((a : Int) < (k : Int)) = true := decide_eq_true (by omega)
              go_wp2
              clear g0
              go_loopw [9, 10] (fun v i wr => ∃ b : Nat, b ≤ k ∧ i = .int .i64 b ∧ v = .bool (!(List.range b).any fun b => l2.getD b false && es.getD (b * k + a) false) ∧ Kp wx wr) (fun _ i _ => k - (intOf i).toNat)
              case atStart => exact ⟨0, Nat.zero_le _, rfl, rfl, Kp.refl _⟩
              case round =>
                obtain ⟨b, hb, rfl, rfl, hbx⟩ := hrel
                have own2 := own.kp hbx
                by_cases hbl : b < k
                · have i1 := at_row hbl hal (Nat.le_refl (k * k))
                  have i0 : b * k ≤ 36 := le_six hbl hs
                  have hbl2 : b < l2.length := by rw [HL2.out]; exact hbl
                  have hidx : b * k + a < es.length := by rw [HL.out]; exact i1
                  have cb := own2.boolCell HL2.out.symm hbl2
                  obtain ⟨pe', oe', he', hpe', ce⟩ := (hE.keep (pl_stable _) (hbel.trans hbx)).bools hidx
                  injection he' with he'
                  injection he' with e1 e2
                  subst e1 e2
                  have HS : Hid ((List.range (b + 1)).any (fun b => l2.getD b false && es.getD (b * k + a) false) = ((List.range b).any (fun b => l2.getD b false && es.getD (b * k + a) false) || (l2[b] && es[b * k + a]))) := hid (by
                    rw [List.range_succ, List.any_append]
                    simp [List.getD, hbl2, hidx])
                  generalize (List.range b).any (fun b => l2.getD b false && es.getD (b * k + a) false) = z at *
                  generalize l2[b] = x at *
                  generalize es[b * k + a] = y at *
                  generalize hmm : b * k = m at *
                  have hgl := block_lt_of_cell cb
                  have hpl := block_lt_of_cell ce
                  have ha6 : a ≤ 6 := Nat.le_trans (Nat.le_of_lt hal) hs
                  obtain ⟨w1, w1', w2, q1, q3⟩ := idx_wraps hmm i0 ha6
                  have q2 := idx_lt hidx
                  have q4 : (b : Int) < k := by omega
                  clear hmm i0 i1 ha6 own2 own hbl2 hidx
                  cases x with
                  | false =>
                    have HS2 : Hid ((List.range (b + 1)).any (fun b => l2.getD b false && es.getD (b * k + a) false) = z) := hid (by rw [HS.out]; simp)
                    clear HS
                    go_wp2
                    go_roundw
                    case rel => exact ⟨b + 1, by omega, by go_num, by rw [HS2.out], hbx⟩
                    case measure => simp [intOf]; omega
                  | true =>
                    cases y with
                    | false =>
                      have HS2 : Hid ((List.range (b + 1)).any (fun b => l2.getD b false && es.getD (b * k + a) false) = z) := hid (by rw [HS.out]; simp)
                      clear HS
                      go_wp2
                      go_roundw
                      case rel => exact ⟨b + 1, by omega, by go_num, by rw [HS2.out], hbx⟩
                      case measure => simp [intOf]; omega
                    | true =>
                      have HS2 : Hid ((List.range (b + 1)).any (fun b => l2.getD b false && es.getD (b * k + a) false) = true) := hid (by rw [HS.out]; simp)
                      clear HS
                      go_wp2
                      go_roundw
                      case rel => exact ⟨b + 1, by omega, by go_num, by rw [HS2.out]; rfl, hbx⟩
                      case measure => simp [intOf]; omega
                · obtain rfl : b = k := by omega
                  have g0 : decide ((b : Int) < (b : Int)) = false := decide_eq_false (by omega)
                  rw [← HF.out]
                  have hal2 : a < l2.length := by rw [HL2.out]; exact hal
                  have q1 : (a : Int) < b := by omega
                  cases hf : freeQ b es l2 a with
                  | false =>
                    rw [hf] at HP2
                    have HP3 : Hid (P = passQ b es ((List.range b).drop (a + 1)) l2) := hid (by rw [HP2.out]; simp)
                    clear hf HP2 HF
                    go_wp2
                    go_roundw
                    case rel => exact ⟨a + 1, l2, by omega, by go_num, HL2, own2, hbel.trans hbx, HP3⟩
                    case measure => simp [intOf]; omega
                  | true =>
                    rw [hf] at HP2
                    have HP3 : Hid (P = passQ b es ((List.range b).drop (a + 1)) (l2.set a false)) := hid (by rw [HP2.out]; simp)
                    have hfz := own2.frozen HL2.out.symm a
                    have hcell := own2.boolCell HL2.out.symm hal2
                    have own6 := own2.boolSet HL2.out.symm hal2 false
                    have HL3 : Hid ((l2.set a false).length = b) := hid (by rw [List.length_set, HL2.out])
                    have kk6 := Kg.to_kp (hbel.trans hbx) ((Kg.refl wr g).set (p := ⟨g, a, none⟩) (.inl rfl) (.bool false)) hgb
                    generalize l2.set a false = l3 at *
                    generalize l2[a] = old at *
                    clear hf HP2 HF own2 own
                    go_wp2
                    go_roundw
                    case rel => exact ⟨a + 1, l3, by omega, by go_num, HL3, own6, kk6, HP3⟩
                    case measure => simp [intOf]; omega
            · have HPE : Hid (P = l2) := hid (by rw [HP.out, List.drop_of_length_le (by simp; omega)]; rfl)
              have g0 : decide ((a : Int) < (k : Int)) = false := decide_eq_false (by omega)
              rw [HPE.out] at HT2
              go_wp2
              go_roundw
              case rel => exact ⟨j + 1, l2, by omega, by go_num, HL2, own, hbel, HT2⟩
              case measure => simp [intOf]; omega
        · have HTE : Hid (acyQ k es = !left.any id) := hid (by rw [HQ.out, HT.out, show k - j = 0 by omega]; rfl)
          obtain ⟨wx, hwx⟩ : ∃ wx : World, wx = wr := ⟨_, rfl⟩
          subst hwx
          have g0 : decide ((j : Int) < (k : Int)) = false := decide_eq_false (by omega)
          go_wp2
          clear g0
          go_loopw [11] (fun i wr => ∃ a : Nat, a ≤ k ∧ i = .int .i64 a ∧ Hid (left.any id = (left.drop a).any id) ∧ Kp wx wr) (fun i _ => k - (intOf i).toNat)
          case atStart => exact ⟨0, Nat.zero_le _, rfl, hid rfl, Kp.refl _⟩
          case round =>
            obtain ⟨a, ha, rfl, HA, hbx⟩ := hrel
            have own2 := own.kp hbx
            by_cases hal : a < k
            · have hal2 : a < left.length := by rw [HLl.out]; exact hal
              have cb := own2.boolCell HLl.out.symm hal2
              have hgl := block_lt_of_cell cb
              have HA2 : Hid (left.any id = (left[a] || (left.drop (a + 1)).any id)) := hid (by rw [HA.out, List.drop_eq_getElem_cons hal2, List.any_cons]; rfl)
              generalize left[a] = x at *
              have q1 : (a : Int) < k := by omega
              clear own own2 hal2
              cases x with
              | true =>
                have HE : Hid (acyQ k es = false) := hid (by rw [HTE.out, HA2.out]; rfl)
                go_wp2
                go_ret
                exact ⟨ret_bool HE.out.symm, hbel.trans hbx⟩
              | false =>
                have HA3 : Hid (left.any id = (left.drop (a + 1)).any id) := hid (by rw [HA2.out]; simp)
                clear HA2
                go_wp2
                go_roundw
                case rel => exact ⟨a + 1, by omega, by go_num, HA3, hbx⟩
                case measure => simp [intOf]; omega
            · have HE : Hid (acyQ k es = true) := hid (by rw [HTE.out, HA.out, List.drop_of_length_le (by rw [HLl.out]; omega)]; rfl)
              have g0 : decide ((a : Int) < (k : Int)) = false := decide_eq_false (by omega)
              go_wp2
              go_ret
              exact ⟨ret_bool HE.out.symm, hbel.trans hbx⟩
end Go.Proofs.Ytfllmnaillilhaa
