
/-
Calls of a buffer as data; whether they are few; a clock with a further event: the walks.
-/
import Derived.Test.YtcddllaljgfjbaaLwA
namespace Go.Proofs.Ytcddllaljgfjbaa
set_option linter.unusedSimpArgs false
set_option linter.unusedVariables false
open Go.RowKit

section
variable {P : Program}
theorem wpl_load_mid_g {ops : Array Oper} {rest : List Oper} {op : Oper} {a : Act} {w : World} {Q : Exit → Act → World → Prop} (hw : Region.wanted op (yielded ops a.tmps) = true) (ty : TypeId) (x : Operand) (ho : op.op = .load ty x)
    (b o : Nat) (hx : a.eval x = .pointer (some ⟨b, o, none⟩)) (cs : List Value) (d : TypeDesc) (hc : w.rangeAt b o cs)
    (hu : P.underlying ty = some d) (hd : d.isRow = true) (hi : (P.info? ty).map (·.size) = some cs.length)
    (h : wpList P ops Q rest (a.put op.dst (.agg cs.toArray)) w) : wpList P ops Q (op :: rest) a w :=
  wpList_step fun K hK => by
    rw [if_pos hw]
    exact wp_load_mid ty x ho b o hx cs d hc hu hd hi (hK _ _ h)
theorem results_tmp_cell_tmp {fn : Func} {p q u : Tmp} {ty : TypeId} (h : fn.results = #[.tmp p, .cell q ty, .tmp u]) (tmps : Array Value) (w : World) (b : Nat) (cs : List Value) (d : TypeDesc)
    (hq : tmps.getD q undef = .pointer (some ⟨b, 0, none⟩)) (hc : w.rangeAt b 0 cs) (hu : P.underlying ty = some d) (hd : d.isRow = true) (hi : (P.info? ty).map (·.size) = some cs.length) :
    (results fn tmps).run P w = .ok (.tuple #[tmps.getD p undef, .agg cs.toArray, tmps.getD u undef]) w := by
  have e1 := run_loadVar_mid w b 0 ty cs d hc hu hd hi
  have hq' : tmps[q]?.getD undef = .pointer (some ⟨b, 0, none⟩) := by rw [← hq]; simp [Array.getD_eq_getD_getElem?]
  simp only [results, h]
  simp [Sem.run_bind, Result.andThen, hq', asAddr, e1]
end
/-! calls -/
structure Ac where
  e : Ev
  c : List Int
instance : Inhabited Ac := ⟨⟨zEv, []⟩⟩
def acL (x : Ac) (v u : Value) : List Value := evL x.e v ++ [u]
def rdAc : Rd Ac := fun w cs x => ∃ v u, cs = acL x v u ∧ Ints w v x.e.past ∧ Ints w u x.c
theorem rdAc_stable : Stable rdAc := fun _ _ _ _ hk ⟨v, u, e, h1, h2⟩ => ⟨v, u, e, h1.keep (pl_stable _) hk, h2.keep (pl_stable _) hk⟩
abbrev Acs := Sl rdAc 14
theorem Sl.acAt {w : World} {A : Option Addr} {n c : Nat} {l : List Ac} (h : Acs w (.slice A n c) l) {k : Nat} (hk : k < l.length) : ∃ b o v u, A = some ⟨b, o, none⟩ ∧ b < w.heap.size ∧ w.rangeAt b (o + k * 14) (acL l[k] v u) ∧ Ints w v l[k].e.past ∧ Ints w u l[k].c := by
  obtain ⟨b, o, cs, hA, had, hcs, hc, v, u, rfl, hv, hu⟩ := h.at_ hk
  exact ⟨b, o, v, u, hA, had, fun j u hu => hc j u hu, hv, hu⟩
def Few33R (l : List Ac) (w : World) (x : Ending) (w' : World) : Prop := ∃ r, x = .returned (.bool r) ∧ (r = true → l.length ≤ 40 ∧ ∀ a ∈ l, a.e.past.length ≤ 8 ∧ a.c.length ≤ 8) ∧ Kp w w'
set_option maxRecDepth 8000 in
set_option maxHeartbeats 4000000 in
theorem rFew33_any (l : List Ac) (v : Value) (w : World) (hS : Acs w v l) : Calls Try.prog 15 #[v] w (Few33R l w) := by
  obtain ⟨A, ca, rfl, hca, hma⟩ := hS.form
  go_enter Try.func15, Try.ntmps15
  go_wp2
  go_loopw [3] (fun i wr => ∃ k : Nat, k ≤ l.length ∧ i = .int .i64 k ∧ Hid (∀ a ∈ l.take k, a.e.past.length ≤ 8 ∧ a.c.length ≤ 8) ∧ Kp w wr) (fun i _ => l.length - (intOf i).toNat)
  case atStart => exact ⟨0, Nat.zero_le _, rfl, hid (by simp), Kp.refl _⟩
  case round =>
    obtain ⟨k, hk, rfl, HF, kr⟩ := hrel
    by_cases hlt : k < l.length
    · have hkl : (k : Int) < (l.length : Int) := by omega
      obtain ⟨b, o, v, u, rfl, hb, hr, hv, hu⟩ := Sl.acAt (hS.keep rdAc_stable kr) hlt
      have HT := hid (List.take_succ_eq_append_getElem hlt)
      generalize l[k] = x at *
      obtain ⟨Av, cv, rfl, hcv, hmv⟩ := hv.form
      obtain ⟨Au, cu, rfl, hcu, hmu⟩ := hu.form
      have i1 := hr 1 (.int .i64 x.e.n) rfl
      have i3 := hr 3 (.slice Av x.e.past.length cv) rfl
      have i13 := hr 13 (.slice Au x.c.length cu) rfl
      clear hr
      have HV := hid hv
      clear hv hu hS
      by_cases g1 : x.c.length ≤ 8
      · have e1 : decide ((8 : Int) < (x.c.length : Int)) = false := decide_eq_false (by omega)
        by_cases g2 : x.e.past.length ≤ 8
        · have e2 : decide ((8 : Int) < (x.e.past.length : Int)) = false := decide_eq_false (by omega)
          by_cases g3 : x.e.n ≤ 60
          · have e3 : decide (60 < x.e.n) = false := decide_eq_false (by omega)
            have HF2 : Hid (∀ a ∈ l.take (k + 1), a.e.past.length ≤ 8 ∧ a.c.length ≤ 8) := hid (fun y hy => by
              rw [HT.out] at hy
              rcases List.mem_append.1 hy with hy | hy
              · exact HF.out y hy
              · obtain rfl : y = x := by simpa using hy
                exact ⟨g2, g1⟩)
            go_wp2
            go_loopw [4] (fun i wi => ∃ j : Nat, j ≤ x.e.past.length ∧ i = .int .i64 j ∧ wi = wr) (fun i _ => x.e.past.length - (intOf i).toNat)
            case atStart => exact ⟨0, Nat.zero_le _, rfl, rfl⟩
            case round =>
              obtain ⟨j, hj, rfl, rfl⟩ := hrel
              by_cases hjl : j < x.e.past.length
              · have hjI : (j : Int) < (x.e.past.length : Int) := by omega
                obtain ⟨p, q, rfl, hp, y0⟩ := HV.out.ints hjl
                generalize x.e.past[j] = z at *
                by_cases g4 : z ≤ 60
                · have e4 : decide (60 < z) = false := decide_eq_false (by omega)
                  go_wp2
                  go_roundw
                  case rel => exact ⟨j + 1, by omega, by go_num, trivial⟩
                  case measure => simp [intOf]; omega
                · have e4 : decide (60 < z) = true := decide_eq_true (by omega)
                  go_wp2
                  go_ret
                  exact ⟨false, rfl, (fun h => by cases h), kr⟩
              · have hjI : ¬ (j : Int) < (x.e.past.length : Int) := by omega
                go_wp2
                go_roundw
                case rel => exact ⟨k + 1, by omega, by go_num, HF2, kr⟩
                case measure => simp [intOf]; omega
          · have e3 : decide (60 < x.e.n) = true := decide_eq_true (by omega)
            go_wp2
            go_ret
            exact ⟨false, rfl, (fun h => by cases h), kr⟩
        · have e2 : decide ((8 : Int) < (x.e.past.length : Int)) = true := decide_eq_true (by omega)
          go_wp2
          go_ret
          exact ⟨false, rfl, (fun h => by cases h), kr⟩
      · have e1 : decide ((8 : Int) < (x.c.length : Int)) = true := decide_eq_true (by omega)
        go_wp2
        go_ret
        exact ⟨false, rfl, (fun h => by cases h), kr⟩
    · have hkl : ¬ (k : Int) < (l.length : Int) := by omega
      obtain rfl : k = l.length := by omega
      have HX := HF.out
      rw [List.take_length] at HX
      replace HX := hid HX
      by_cases g : l.length ≤ 40
      · have e1 : decide ((l.length : Int) ≤ 40) = true := decide_eq_true (by omega)
        go_wp2
        go_ret
        exact ⟨true, rfl, fun _ => ⟨g, HX.out⟩, kr⟩
      · have e1 : decide ((l.length : Int) ≤ 40) = false := decide_eq_false (by omega)
        go_wp2
        go_ret
        exact ⟨false, rfl, (fun h => by cases h), kr⟩
set_option maxRecDepth 8000 in
set_option maxHeartbeats 4000000 in
theorem cAdvance_any (c : List Int) (r : Nat) (y : Int) (v : Value) (w : World) (hS : Ints w v c) (hv : validC c = true) (hr : r < c.length) (hy : c.getD r 0 = y) (hx : y < 1024) :
    Calls Try.prog 30 #[v, .int .i64 (r : Int)] w fun x w' => ∃ v', x = .returned (.tuple #[v', .agg #[.int .i64 (r : Int), .int .i64 (y + 1)], .int .i64 0]) ∧ Own encInt 3 1 w.heap.size w' v' (c.set r (y + 1)) ∧ Kp w w' := by
  obtain ⟨A, ca, rfl, hca, hma⟩ := hS.form
  have hc5 := (validC_iff.1 hv).2
  have hy0 := validC_get hv r
  rw [hy] at hy0
  rw [getD_i hr] at hy
  have hrI : (r : Int) < (c.length : Int) := by omega
  have e1 : decide ((r : Int) < 0) = false := decide_eq_false (by omega)
  have e2 : decide ((c.length : Int) ≤ (r : Int)) = false := decide_eq_false (by omega)
  have e3 : (y == 1024) = false := by simp; omega
  have k0 := (Kp.refl w).alloc (.cells #[.int .i64 0, .int .i64 0] 66)
  have hD := Bx.new w #[.int .i64 0, .int .i64 0] 66
  have hS1 := hS.keep (pl_stable _) k0
  have HS := hid hS1
  have hv' := hid hv
  go_enter Try.func30, Try.ntmps30
  go_upto_region 1 with (fail)
  generalize w.alloc (.cells #[.int .i64 0, .int .i64 0] 66) = w1 at *
  obtain ⟨db, hdb⟩ : ∃ db, db = w.heap.size := ⟨_, rfl⟩
  rw [← hdb] at hD ⊢
  have hdl := hD.lt (by simp)
  have hdw : w.heap.size ≤ db := Nat.le_of_eq hdb.symm
  have hdw2 : db ≤ w.heap.size := Nat.le_of_eq hdb
  replace hdb := hid hdb
  have C1 := hid (cValid_any c _ w1 HS.out)
  go_wp2_with fail
  refine C1.out.mono ?_
  rintro z w2 ⟨rfl, k2⟩
  rw [hv'.out]
  obtain ⟨p, o, rfl, hp, i0⟩ := (HS.out.keep (pl_stable _) k2).ints hr
  rw [hy] at i0
  have C2 := hid (CloneI_any _ c w2 (HS.out.keep (pl_stable _) k2) (by omega))
  clear C1 hS hS1
  go_wp2_with fail
  refine C2.out.mono ?_
  rintro z w3 ⟨v3, rfl, own3, k3⟩
  obtain ⟨g, c3, rfl, -, -, hg1, hg2⟩ := own3.row (by omega)
  have j0 := own3.intCell (k := r) rfl hr
  rw [hy] at j0
  have fz := own3.frozen rfl r
  have hset := own3.intSet (k := r) rfl hr (y + 1)
  have k03 := (k0.trans k2).trans k3
  have hdl3 := Nat.lt_of_lt_of_le hdl (k2.trans k3).size
  have hD3 := hD.kp (k2.trans k3) hdl
  have hz2 := k2.size
  have hgd : g ≠ db := by omega
  have k4 := k03.set (p := ⟨g, r, none⟩) (by show w.heap.size ≤ g; omega) (.int .i64 (y + 1))
  have hD4 := hD3.keep (set_block w3 ⟨g, r, none⟩ (.int .i64 (y + 1)) db (fun e => hgd e.symm))
  have hgetI := hset.intCell (k := r) (by rw [List.length_set]) (by rw [List.length_set]; exact hr)
  rw [List.getElem_set_self] at hgetI
  have hz4 : (w3.setCell ⟨g, r, none⟩ (.int .i64 (y + 1))).heap.size = w3.heap.size := set_size _ _ _
  replace hy := hid hy
  clear C2 i0 own3 k0 k2 k3 k03 hD hD3
  go_upto_region 9 with (fail)
  generalize w3.setCell ⟨g, r, none⟩ (.int .i64 (y + 1)) = w4 at *
  have hg4 : g < w4.heap.size := by omega
  have hd4 : db < w4.heap.size := by omega
  replace hz4 := hid hz4
  clear j0 fz
  refine G2.wp_region_growT Kp [] 8 45 (G2.pvL [G2.eqv (.slice (some ⟨g, 0, none⟩) c.length c3), G2.eqv (.int .i64 (r : Int)), G2.eqv (.slice (some ⟨g, 0, none⟩) c.length c3), G2.eqv (.int .i64 (r : Int)), G2.eqv (.pointer (some ⟨g, r, none⟩)), G2.eqv (.int .i64 (y + 1)), G2.eqv (.agg #[.int .i64 (r : Int), .int .i64 (y + 1)]), G2.eqv (.slice (some ⟨g, 0, none⟩) c.length c3)]) (by kernel_rfl) (by kernel_rfl) rfl (fun x => Kp.refl x) (fun _ _ _ h k => h.trans k) (Kp.refl _).drew (by intro _ _ _ _ _ h; exact h) (G2.pvL_keep (G2.stabL_cons (G2.stab_eq _) (G2.stabL_cons (G2.stab_eq _) (G2.stabL_cons (G2.stab_eq _) (G2.stabL_cons (G2.stab_eq _) (G2.stabL_cons (G2.stab_eq _) (G2.stabL_cons (G2.stab_eq _) (G2.stabL_cons (G2.stab_eq _) (G2.stabL_cons (G2.stab_eq _) (G2.stabL_nil)))))))))) (G2.stepsT_cons 0 ?_ (G2.stepsT_cons 1 ?_ (G2.stepsT_cons 2 ?_ (G2.stepsT_cons 3 ?_ (G2.stepsT_cons 4 ?_ (G2.stepsT_cons 5 ?_ (G2.stepsT_cons 6 ?_ (G2.stepsT_cons 7 ?_ (G2.stepsT_nil _ _ _))))))))) ?_ ?_
  · intro a w' hk hF hD K hK
    have h7 : a.tmps[7]?.getD undef = .slice (some ⟨g, 0, none⟩) c.length c3 := hF 7 (by kernel_rfl)
    clear hF hD
    go_simp
    exact hK.out _ _ (Kp.refl _) rfl
  · intro a w' hk hF hD K hK
    have h1 : a.tmps[1]?.getD undef = .int .i64 (r : Int) := hF 1 (by kernel_rfl)
    clear hF hD
    go_simp
    exact hK.out _ _ (Kp.refl _) rfl
  · intro a w' hk hF hD K hK
    have h7 : a.tmps[7]?.getD undef = .slice (some ⟨g, 0, none⟩) c.length c3 := hF 7 (by kernel_rfl)
    clear hF hD
    go_simp
    exact hK.out _ _ (Kp.refl _) rfl
  · intro a w' hk hF hD K hK
    have h1 : a.tmps[1]?.getD undef = .int .i64 (r : Int) := hF 1 (by kernel_rfl)
    clear hF hD
    go_simp
    exact hK.out _ _ (Kp.refl _) rfl
  · intro a w' hk hF hD K hK
    have h40 : a.tmps[40]?.getD undef = .slice (some ⟨g, 0, none⟩) c.length c3 := hD 2 (by kernel_rfl)
    have h41 : a.tmps[41]?.getD undef = .int .i64 (r : Int) := hD 3 (by kernel_rfl)
    clear hF hD
    go_simp
    exact hK.out _ _ (Kp.refl _) rfl
  · intro a w' hk hF hD K hK
    have h42 : a.tmps[42]?.getD undef = .pointer (some ⟨g, r, none⟩) := hD 4 (by kernel_rfl)
    clear hF hD
    have z0 := hk.cellS hgetI
    go_simp
    exact hK.out _ _ (Kp.refl _) rfl
  · intro a w' hk hF hD K hK
    have h39 : a.tmps[39]?.getD undef = .int .i64 (r : Int) := hD 1 (by kernel_rfl)
    have h43 : a.tmps[43]?.getD undef = .int .i64 (y + 1) := hD 5 (by kernel_rfl)
    clear hF hD
    go_simp
    exact hK.out _ _ (Kp.refl _) rfl
  · intro a w' hk hF hD K hK
    have h38 : a.tmps[38]?.getD undef = .slice (some ⟨g, 0, none⟩) c.length c3 := hD 0 (by kernel_rfl)
    clear hF hD
    go_simp
    exact hK.out _ _ (Kp.refl _) rfl
  · exact fun i0 hi0 => by simp at hi0
  intro v w9 k9 hv
  have v6 : v 6 = .agg #[.int .i64 (r : Int), .int .i64 (y + 1)] := hv 6 (by omega)
  have v7 : v 7 = .slice (some ⟨g, 0, none⟩) c.length c3 := hv 7 (by omega)
  clear hv
  simp only [G2.growPut, G2.gSlot, List.getElem?_toArray, List.getElem?_cons_zero, List.getElem?_cons_succ, Option.bind_some, List.setIfInBounds_toArray, List.set_cons_zero, List.set_cons_succ, List.drop_succ_cons, List.drop_zero, v6, v7]
  have hD9 := hD4.kp k9 hd4
  have hset9 := hset.kp k9
  have hD5 := hD9.all (cs := [.int .i64 (r : Int), .int .i64 (y + 1)]) rfl
  have kf := Kp.setCells (a := w) (b := db) (by have := hdb.out; omega) [.int .i64 (r : Int), .int .i64 (y + 1)] 0 w9 (k4.trans k9)
  have hset5 := hset9.owS (w9.setCells db 0 [.int .i64 (r : Int), .int .i64 (y + 1)]) (by rw [setCells_size]; exact Nat.le_refl _) fun q hq hlt => setCells_block db q (fun e => by
    obtain rfl : g = q := by simpa [Value.ownBlock] using hq
    exact hgd e) _ 0 _
  have hth := hD9.there
  have hD5r := hD5.range
  clear hD4 hD9 hset9 hset hgetI
  refine wpList_store_mid rfl 66 (.tmp 5) (.tmp 44) rfl db 0 #[.int .i64 (r : Int), .int .i64 (y + 1)] rfl rfl hth (by kernel_rfl) (all_oneCell_toArray (by simp [Value.oneCell'])) ?_
  go_wp2
  try simp only [Exit.inBlock, Exit.then]
  change bodyPost _ _ _ _ _ (w9.setCells db 0 [.int .i64 (r : Int), .int .i64 (y + 1)])
  refine bodyPost_ret (results_tmp_cell_tmp rfl _ _ db _ _ rfl hD5r Try.underlying66 rfl (by kernel_rfl)) rfl ?_
  refine ⟨.slice (some ⟨g, 0, none⟩) c.length c3, rfl, ?_, kf⟩
  exact hset5.less (by have := hdb.out; omega)
end Go.Proofs.Ytcddllaljgfjbaa
