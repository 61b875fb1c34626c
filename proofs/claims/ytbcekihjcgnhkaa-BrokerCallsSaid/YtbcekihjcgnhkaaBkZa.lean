
/-
Lists of calls; how much of a right a list names; the law's own closures: the walks.
-/
import Derived.Test.YtbcekihjcgnhkaaBkO
import Derived.Deep.CutRange
namespace Go.Proofs.Ytbcekihjcgnhkaa
set_option linter.unusedSimpArgs false
set_option linter.unusedVariables false
open Go.RowKit

/-- a call -/
structure Ac where
  kind : Int
  frm : Int
  ask : Ak
  all : List Nd
instance : Inhabited Ak := ⟨zAk⟩
instance : Inhabited Ac := ⟨⟨0, 0, zAk, []⟩⟩
def rdAc : Rd Ac := fun w cs x => ∃ vn va, cs = [.int .i64 x.kind, .int .i64 x.frm, .int .i64 x.ask.num, .int .i64 x.ask.pri.1, .int .i64 x.ask.pri.2.1, .int .i64 x.ask.pri.2.2.1, .int .i64 x.ask.pri.2.2.2, vn, va] ∧ Nds w vn x.ask.needs ∧ Nds w va x.all
theorem rdAc_stable : Stable rdAc := fun w w' cs x hk ⟨vn, va, e, h1, h2⟩ => ⟨vn, va, e, h1.keep (pl_stable _) hk, h2.keep (pl_stable _) hk⟩
abbrev Acs := Sl rdAc 9
theorem Sl.ac {w : World} {A : Option Addr} {n c : Nat} {l : List Ac} (h : Acs w (.slice A n c) l) {k : Nat} (hk : k < l.length) :
    ∃ b o A1 c1 A2 c2, A = some ⟨b, o, none⟩ ∧ b < w.heap.size ∧ w.cell? ⟨b, o + k * 9, none⟩ = some (.int .i64 l[k].kind) ∧ w.cell? ⟨b, o + k * 9 + 1, none⟩ = some (.int .i64 l[k].frm) ∧
      w.cell? ⟨b, o + k * 9 + 2, none⟩ = some (.int .i64 l[k].ask.num) ∧ w.cell? ⟨b, o + k * 9 + 3, none⟩ = some (.int .i64 l[k].ask.pri.1) ∧ w.cell? ⟨b, o + k * 9 + 4, none⟩ = some (.int .i64 l[k].ask.pri.2.1) ∧
      w.cell? ⟨b, o + k * 9 + 5, none⟩ = some (.int .i64 l[k].ask.pri.2.2.1) ∧ w.cell? ⟨b, o + k * 9 + 6, none⟩ = some (.int .i64 l[k].ask.pri.2.2.2) ∧ w.cell? ⟨b, o + k * 9 + 7, none⟩ = some (.slice A1 l[k].ask.needs.length c1) ∧
      w.cell? ⟨b, o + k * 9 + 8, none⟩ = some (.slice A2 l[k].all.length c2) ∧ Nds w (.slice A1 l[k].ask.needs.length c1) l[k].ask.needs ∧ Nds w (.slice A2 l[k].all.length c2) l[k].all := by
  obtain ⟨b, o, cs, hA, had, hcs, hc, vn, va, rfl, h1, h2⟩ := h.at_ hk
  have h1' := h1
  have h2' := h2
  obtain ⟨A1, c1, e1, -, -⟩ := h1.form
  obtain ⟨A2, c2, e2, -, -⟩ := h2.form
  refine ⟨b, o, A1, c1, A2, c2, hA, had, by simpa using hc 0 _ rfl, hc 1 _ rfl, hc 2 _ rfl, hc 3 _ rfl, hc 4 _ rfl, hc 5 _ rfl, hc 6 _ rfl, ?_, ?_, by rw [← e1]; exact h1', by rw [← e2]; exact h2'⟩
  · rw [← e1]; exact hc 7 _ rfl
  · rw [← e2]; exact hc 8 _ rfl
def fewA (x : Ac) : Bool := decide (x.ask.needs.length ≤ 12) && decide (x.all.length ≤ 12)
def fewL (l : List Ac) : Bool := l.all fewA && decide (l.length ≤ 40)
theorem fewL_no {l : List Ac} {k : Nat} (hk : k < l.length) (h : fewA l[k] = false) : fewL l = false := by
  unfold fewL
  have : l.all fewA = false := by
    rw [List.all_eq_false]
    exact ⟨l[k], List.getElem_mem hk, by simp [h]⟩
  rw [this]
  rfl
set_option maxHeartbeats 1600000 in
theorem rFew41_any (l : List Ac) (v : Value) (w : World) (hS : Acs w v l) : Calls Try.prog 19 #[v] w fun e w' => e = .returned (.bool (fewL l)) ∧ Kp w w' := by
  obtain ⟨A, c, rfl, hc, hm⟩ := hS.form
  go_enter Try.func19, Try.ntmps19
  go_wp2
  go_loopw [3] (fun i wr => ∃ k : Nat, k ≤ l.length ∧ i = .int .i64 k ∧ Hid (∀ x ∈ l.take k, fewA x = true) ∧ Kp w wr) (fun i _ => l.length - (intOf i).toNat)
  case atStart => exact ⟨0, Nat.zero_le _, rfl, hid (fun x hx => by simp at hx), Kp.refl _⟩
  case round =>
    obtain ⟨k, hk, rfl, HF, kr⟩ := hrel
    by_cases hlt : k < l.length
    · have hkl : (k : Int) < (l.length : Int) := by omega
      obtain ⟨b, o, A1, c1, A2, c2, rfl, hb, i0, i1, i2, i3, i4, i5, i6, i7, i8, h1, h2⟩ := (hS.keep rdAc_stable kr).ac hlt
      have HN := hid (fewL_no hlt)
      have HT := hid (List.take_succ_eq_append_getElem hlt)
      generalize l[k] = x at *
      obtain ⟨xk, xf, ⟨num, pri, ns⟩, al⟩ := x
      dsimp only at *
      by_cases g1 : 12 < ns.length
      · have e1 : decide ((12 : Int) < (ns.length : Int)) = true := decide_eq_true (by omega)
        have HG : Hid (fewL l = false) := hid (HN.out (by unfold fewA; rw [decide_eq_false (by dsimp only; omega)]; rfl))
        clear HN HT g1
        go_wp2_with fail
        go_ret
        exact ⟨ret_bool HG.out.symm, kr⟩
      · have e1 : decide ((12 : Int) < (ns.length : Int)) = false := decide_eq_false (by omega)
        by_cases g2 : 12 < al.length
        · have e2 : decide ((12 : Int) < (al.length : Int)) = true := decide_eq_true (by omega)
          have HG : Hid (fewL l = false) := hid (HN.out (by unfold fewA; rw [decide_eq_false (show ¬ al.length ≤ 12 by omega), Bool.and_false]))
          clear HN HT g1 g2
          go_wp2_with fail
          go_ret
          exact ⟨ret_bool HG.out.symm, kr⟩
        · have e2 : decide ((12 : Int) < (al.length : Int)) = false := decide_eq_false (by omega)
          have HF2 : Hid (∀ x ∈ l.take (k + 1), fewA x = true) := hid (fun x hx => by
            rw [HT.out] at hx
            rcases List.mem_append.1 hx with hx | hx
            · exact HF.out x hx
            · simp only [List.mem_singleton] at hx
              subst hx
              unfold fewA
              rw [decide_eq_true (show ns.length ≤ 12 by omega), decide_eq_true (show al.length ≤ 12 by omega)]
              rfl)
          clear HN HT HF g1 g2
          go_wp2_with fail
          go_roundw
          case rel => exact ⟨k + 1, by omega, by go_num, HF2, kr⟩
          case measure => simp [intOf]; omega
    · have hkl : ¬ (k : Int) < (l.length : Int) := by omega
      obtain rfl : k = l.length := by omega
      have HG : Hid (fewL l = decide ((l.length : Int) ≤ 40)) := hid (by
        have h1 := HF.out
        rw [List.take_length] at h1
        unfold fewL
        rw [List.all_eq_true.2 h1, Bool.true_and, Bool.eq_iff_iff]
        simp only [decide_eq_true_eq]
        omega)
      clear HF
      go_wp2
      go_ret
      exact ⟨ret_bool HG.out.symm, kr⟩
/-! how much of a right a list names -/
def ofN : List Nd → Rt → Int
  | [], _ => 0
  | y :: l, x => (if y.1 = x then y.2 else 0) + ofN l x
theorem ofN_append (x : Rt) : ∀ a b : List Nd, ofN (a ++ b) x = ofN a x + ofN b x
  | [], b => by rw [List.nil_append, ofN]; omega
  | y :: a, b => by rw [List.cons_append, ofN, ofN, ofN_append x a b]; omega
theorem ofN_snoc (l : List Nd) (k : Nat) (hk : k < l.length) (x : Rt) : ofN (l.take (k + 1)) x = ofN (l.take k) x + if l[k].1 = x then l[k].2 else 0 := by
  rw [List.take_succ_eq_append_getElem hk, ofN_append, ofN, ofN]
  omega
theorem ofN_bound (x : Rt) : ∀ l : List Nd, (∀ z ∈ l, 0 ≤ z.2 ∧ z.2 ≤ 1000000) → 0 ≤ ofN l x ∧ ofN l x ≤ l.length * 1000000
  | [], _ => by simp [ofN]
  | y :: l, h => by
    have h1 := ofN_bound x l fun z hz => h z (by simp [hz])
    have h2 := h y (by simp)
    rw [ofN, List.length_cons]
    split <;> omega
theorem ofN_none (x : Rt) : ∀ l : List Nd, x ∉ l.map (·.1) → ofN l x = 0
  | [], _ => rfl
  | y :: l, h => by
    rw [List.map_cons, List.mem_cons, not_or] at h
    rw [ofN, if_neg (fun e => h.1 e.symm), ofN_none x l h.2]
    rfl
theorem ofN_amt (x : Rt) : ∀ l : List Nd, (l.map (·.1)).Nodup → ofN l x = amt l x
  | [], _ => rfl
  | y :: l, h => by
    rw [List.map_cons, List.nodup_cons] at h
    rw [ofN, amt_cons]
    split
    · rename_i e
      rw [ofN_none x l (by rw [← e]; exact h.1)]
      omega
    · rw [ofN_amt x l h.2]
      omega
set_option maxHeartbeats 1600000 in
theorem lOf_any (x : Rt) (l : List Nd) (v : Value) (w : World) (hv : Nds w v l) (hb : ∀ z ∈ l, 0 ≤ z.2 ∧ z.2 ≤ 1000000) (hl : l.length ≤ 1024) :
    Calls Try.prog 35 #[v, rtV x] w fun e w' => e = .returned (.int .i64 (ofN l x)) ∧ Kp w w' := by
  obtain ⟨x1, x2, x3⟩ := x
  obtain ⟨A, c, rfl, hc, hm⟩ := hv.form
  have k0 := (Kp.refl w).alloc (.cells #[.int .i64 x1, .int .i64 x2, .int .i64 x3] 39)
  have hX := Bx.new w #[.int .i64 x1, .int .i64 x2, .int .i64 x3] 39
  have HB := hid hb
  have HS := hid hv
  clear hb hv
  go_enter Try.func35, Try.ntmps35
  go_upto_region 1 with (fail)
  generalize w.alloc (.cells #[.int .i64 x1, .int .i64 x2, .int .i64 x3] 39) = w1 at *
  have hxl := hX.lt (by simp)
  generalize w.heap.size = xb at *
  go_wp2_with fail
  go_loopw [5, 10] (fun n i wr => ∃ k : Nat, k ≤ l.length ∧ n = .int .i64 (ofN (l.take k) (x1, x2, x3)) ∧ i = .int .i64 k ∧ Kp w1 wr) (fun _ i _ => l.length - (intOf i).toNat)
  case atStart => exact ⟨0, Nat.zero_le _, rfl, rfl, Kp.refl _⟩
  case round =>
    obtain ⟨k, hk, rfl, rfl, kr⟩ := hrel
    obtain ⟨wo, hwo⟩ : ∃ wo, wo = wr := ⟨_, rfl⟩
    subst hwo
    have hX2 := hX.keep (kr.block hxl)
    by_cases hlt : k < l.length
    · have hkl : (k : Int) < (l.length : Int) := by omega
      obtain ⟨g, o, rfl, hg, i0, i1, i2, i3⟩ := (HS.out.keep (pl_stable _) (k0.trans kr)).nd hlt
      have HN := hid (ofN_snoc l k hlt (x1, x2, x3))
      have hb := HB.out l[k] (List.getElem_mem hlt)
      have hbn := ofN_bound (x1, x2, x3) (l.take k) fun z hz => HB.out z (List.mem_of_mem_take hz)
      have htl : (l.take k).length ≤ 1024 := by rw [List.length_take]; omega
      generalize ofN (l.take k) (x1, x2, x3) = s at *
      generalize (l.take k).length = tl at *
      generalize l[k] = y at *
      obtain ⟨⟨y1, y2, y3⟩, y4⟩ := y
      dsimp only at i0 i1 i2 i3 hb
      have hY := Bx.new wo #[.int .i64 y1, .int .i64 y2, .int .i64 y3, .int .i64 y4] 41
      have kb := (Kp.refl wo).alloc (.cells #[.int .i64 y1, .int .i64 y2, .int .i64 y3, .int .i64 y4] 41)
      have hX3 := hX2.keep (kb.block (hX2.lt (by simp)))
      go_upto_region 5 with (fail)
      generalize wo.alloc (.cells #[.int .i64 y1, .int .i64 y2, .int .i64 y3, .int .i64 y4] 41) = wb at *
      generalize wo.heap.size = bb at *
      have d0 := hY.cell (j := 0) rfl
      have d1 := hY.cell (j := 1) rfl
      have d2 := hY.cell (j := 2) rfl
      have d3 := hY.cell (j := 3) rfl
      have X0 := hX3.cell (j := 0) rfl
      have X1 := hX3.cell (j := 1) rfl
      have X2 := hX3.cell (j := 2) rfl
      have heq := fun W => run_eql_rt W (y1, y2, y3) (x1, x2, x3)
      by_cases he : ((y1, y2, y3) : Rt) = (x1, x2, x3)
      · rw [decide_eq_true he] at heq
        have HS2 : Hid (ofN (l.take (k + 1)) (x1, x2, x3) = s + y4) := hid (by rw [HN.out]; dsimp only; rw [if_pos he])
        have z1 := IntWalk.i64_in (s + y4) (by omega)
        have z2 := IntWalk.wrap64_in (s + y4) (by omega)
        clear HN he i0 i1 i2 i3
        go_wp2_with fail
        go_roundw
        case rel =>
          clear z1 z2
          exact ⟨k + 1, by omega, by rw [HS2.out], by go_num, kr.trans kb⟩
        case measure =>
          clear z1 z2
          simp [intOf]
          omega
      · rw [decide_eq_false he] at heq
        have HS2 : Hid (ofN (l.take (k + 1)) (x1, x2, x3) = s) := hid (by rw [HN.out]; dsimp only; rw [if_neg he]; omega)
        clear HN he i0 i1 i2 i3
        go_wp2_with fail
        go_roundw
        case rel => exact ⟨k + 1, by omega, by rw [HS2.out], by go_num, kr.trans kb⟩
        case measure => simp [intOf]; omega
    · have hkl : ¬ (k : Int) < (l.length : Int) := by omega
      obtain rfl : k = l.length := by omega
      rw [List.take_length]
      go_wp2
      go_ret
      exact ⟨rfl, k0.trans kr⟩
/-! the law's closures -/
theorem Sl.av {w : World} {A : Option Addr} {n c : Nat} {l : List AV} (h : Sl (Pl encAV) 6 w (.slice A n c) l) {k : Nat} (hk : k < l.length) :
    ∃ b o, A = some ⟨b, o, none⟩ ∧ b < w.heap.size ∧ w.cell? ⟨b, o + k * 6, none⟩ = some (.int .i64 l[k].a.num) ∧ w.cell? ⟨b, o + k * 6 + 1, none⟩ = some (.int .i64 l[k].a.pri.1) ∧
      w.cell? ⟨b, o + k * 6 + 2, none⟩ = some (.int .i64 l[k].a.pri.2.1) ∧ w.cell? ⟨b, o + k * 6 + 3, none⟩ = some (.int .i64 l[k].a.pri.2.2.1) ∧ w.cell? ⟨b, o + k * 6 + 4, none⟩ = some (.int .i64 l[k].a.pri.2.2.2) ∧ w.cell? ⟨b, o + k * 6 + 5, none⟩ = some l[k].v := by
  obtain ⟨b, o, cs, hA, had, hcs, hc, hr⟩ := h.at_ hk
  unfold Pl encAV askL at hr
  subst hr
  exact ⟨b, o, hA, had, by simpa using hc 0 _ rfl, hc 1 _ rfl, hc 2 _ rfl, hc 3 _ rfl, hc 4 _ rfl, hc 5 _ rfl⟩
abbrev AVs := Sl (Pl encAV) 6
set_option maxHeartbeats 400000 in
theorem IndexFuncAsk_any (p : AV → Bool) (F : FuncId) (cap : List Value) (v : Value) (l : List AV) (w : World) (hS : AVs w v l) (hr : Real Try.prog F)
    (hf : ∀ (w' : World) (num p1 p2 p3 p4 : Int) (ns : List Nd) (xA : Option Addr) (xn xc : Nat), Kp w w' →  Calls Try.prog F (.agg #[.int .i64 num, .int .i64 p1, .int .i64 p2, .int .i64 p3, .int .i64 p4, .slice xA xn xc] :: cap).toArray w' fun e w'' => e = .returned (.bool (p ⟨⟨num, ⟨p1, p2, p3, p4⟩, ns⟩, xA, xn, xc⟩)) ∧ Kp w' w'') :
    Calls Try.prog 31 #[v, .func (.func F) #[] cap.toArray] w fun e w' => e = .returned (.int .i64 (idxF p 0 l)) ∧ Kp w w' := by
  have HC := hid hf
  clear hf
  have hcf := fun args w => hr.run args w
  obtain ⟨A, c, rfl, hc, hm⟩ := hS.form
  go_enter Try.func31, Try.ntmps31
  go_wp2
  go_loopw [8] (fun i wr => ∃ k : Nat, k ≤ l.length ∧ i = .int .i64 k ∧ Hid (idxF p 0 l = idxF p k (l.drop k)) ∧ Kp w wr) (fun i _ => l.length - (intOf i).toNat)
  case atStart => exact ⟨0, Nat.zero_le _, rfl, rfl, Kp.refl _⟩
  case round =>
    obtain ⟨k, hk, rfl, HB, hbel⟩ := hrel
    by_cases hlt : k < l.length
    · obtain ⟨b, o, rfl, hb, i0, i1, i2, i3, i4, i5⟩ := (hS.keep (pl_stable _) hbel).av hlt
      have HD := hid (List.drop_eq_getElem_cons hlt)
      generalize l[k] = r at *
      obtain ⟨⟨num, ⟨p1, p2, p3, p4⟩, ns⟩, xA, xn, xc⟩ := r
      clear hS
      try dsimp only at *
      by_cases hp : p ⟨⟨num, ⟨p1, p2, p3, p4⟩, ns⟩, xA, xn, xc⟩ = true
      · have HF : Hid (idxF p 0 l = k) := hid (by rw [HB.out, HD.out, idxF, if_pos hp])
        have HP := hid hp
        clear hp
        go_wp2_with fail
        refine (HC.out wr num p1 p2 p3 p4 ns xA xn xc hbel).mono ?_
        rintro e w1 ⟨rfl, hk1⟩
        have hbel1 := hbel.trans hk1
        rw [HP.out]
        go_wp2
        go_ret
        exact ⟨ret_int HF.out.symm, (by repeat (first | assumption | exact Kp.refl _ | apply Kp.alloc | apply Kp.drew | apply Kp.drewN))⟩
      · have HF : Hid (idxF p 0 l = idxF p (k + 1) (l.drop (k + 1))) := hid (by rw [HB.out, HD.out, idxF, if_neg hp])
        have HP := hid (show p ⟨⟨num, ⟨p1, p2, p3, p4⟩, ns⟩, xA, xn, xc⟩ = false by simpa using hp)
        clear hp
        go_wp2_with fail
        refine (HC.out wr num p1 p2 p3 p4 ns xA xn xc hbel).mono ?_
        rintro e w1 ⟨rfl, hk1⟩
        have hbel1 := hbel.trans hk1
        rw [HP.out]
        go_wp2
        go_roundw
        case rel => exact ⟨k + 1, by omega, by go_num, HF, (by repeat (first | assumption | exact Kp.refl _ | apply Kp.alloc | apply Kp.drew | apply Kp.drewN))⟩
        case measure => simp [intOf]; omega
    · have HF : Hid (idxF p 0 l = -1) := hid (by rw [HB.out, List.drop_of_length_le (by omega)]; rfl)
      go_wp2
      go_ret
      exact ⟨ret_int HF.out.symm, (by repeat (first | assumption | exact Kp.refl _ | apply Kp.alloc | apply Kp.drew | apply Kp.drewN))⟩
theorem lGives1_any (num p1 p2 p3 p4 : Int) (u : Value) (tb : Nat) (tg : Int) (w : World) (h0 : w.cell? ⟨tb, 0, none⟩ = some (.int .i64 tg)) :
    Calls Try.prog 32 #[.agg #[.int .i64 num, .int .i64 p1, .int .i64 p2, .int .i64 p3, .int .i64 p4, u], .pointer (some ⟨tb, 0, none⟩)] w fun e w' => e = .returned (.bool (p3 == tg)) ∧ Kp w w' := by
  have hlt := block_lt_of_cell h0
  have hlt : tb < w.heap.size := hlt
  go_enter Try.func32, Try.ntmps32
  go_wp2
  go_ret
  exact ⟨rfl, (Kp.refl w).alloc _⟩
theorem lGives2_any (x1 x2 x3 x4 : Int) (tb : Nat) (y1 y2 y3 : Int) (w : World) (h1 : w.cell? ⟨tb, 1, none⟩ = some (.int .i64 y1)) (h2 : w.cell? ⟨tb, 2, none⟩ = some (.int .i64 y2)) (h3 : w.cell? ⟨tb, 3, none⟩ = some (.int .i64 y3)) :
    Calls Try.prog 34 #[.agg #[.int .i64 x1, .int .i64 x2, .int .i64 x3, .int .i64 x4], .pointer (some ⟨tb, 0, none⟩)] w fun e w' => e = .returned (.bool (decide (((x1, x2, x3) : Rt) = (y1, y2, y3)))) ∧ Kp w w' := by
  have hlt := block_lt_of_cell h1
  have hlt : tb < w.heap.size := hlt
  have heq := fun W => run_eql_rt W (x1, x2, x3) (y1, y2, y3)
  generalize decide (((x1, x2, x3) : Rt) = (y1, y2, y3)) = d at *
  go_enter Try.func34, Try.ntmps34
  go_wp2
  go_ret
  exact ⟨rfl, (Kp.refl w).alloc _⟩
theorem lGives3_any (x1 x2 x3 x4 : Int) (w : World) : Calls Try.prog 37 #[.agg #[.int .i64 x1, .int .i64 x2, .int .i64 x3, .int .i64 x4]] w fun e w' => e = .returned (.bool (x4 == 0)) ∧ Kp w w' := by
  go_enter Try.func37, Try.ntmps37
  go_wp2
  go_ret
  exact ⟨rfl, (Kp.refl w).alloc _⟩
end Go.Proofs.Ytbcekihjcgnhkaa
