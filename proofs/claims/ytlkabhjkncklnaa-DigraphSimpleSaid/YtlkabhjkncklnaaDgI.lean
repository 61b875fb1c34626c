
/-
Graphs: Acyclic: the walk.
-/
import Derived.Test.YtlkabhjkncklnaaDgH
namespace Go.Proofs.Ytlkabhjkncklnaa
set_option linter.unusedSimpArgs false
set_option linter.unusedVariables false
open Go.RowKit
attribute [local go_sem] Oper.semAt_some

theorem results_cell_bool {P : Program} {fn : Func} {p : Tmp} (h : fn.results = #[.cell p 4]) (hu : P.underlying 4 = some .bool) (tmps : Array Value) (w : World) (b : Nat) (v : Value)
    (hp : tmps.getD p undef = .pointer (some ⟨b, 0, none⟩)) (hc : w.cell? ⟨b, 0, none⟩ = some v) : (results fn tmps).run P w = .ok v w := by
  have hp' : tmps[p]?.getD undef = .pointer (some ⟨b, 0, none⟩) := by simpa using hp
  have hagg : (isAgg 4).run P w = .ok false w := by
    have hu2 := run_underlying (w := w) hu
    simp [isAgg, go_sem, hu2]
  simp [results, h, hp', asAddr, go_sem, hagg, hc]
theorem kx_set {W : World} {b : Nat} {u : Value} (h : Bx W b [u]) (v : Value) (hv : v.ownBlock ≠ none → ∀ q, v.ownBlock = some q → W.heap.size ≤ q ∧ False) : KX b b W (W.setCell ⟨b, 0, none⟩ v) := by
  have hz := set_size W ⟨b, 0, none⟩ v
  refine ⟨rfl, rfl, rfl, by omega, fun k hk h1 _ _ => set_block W ⟨b, 0, none⟩ v k h1, fun q ⟨y, h1, h2⟩ => ?_⟩
  have h3 := (h.set (j := 0) (by simp) v).cell (j := 0) rfl
  rw [h3] at h1
  injection h1 with h1
  subst h1
  exact absurd (hv (by rw [h2]; simp) q h2).2 (by simp)
def acyD (s : Int) (es : List Bool) : Bool := openB s es.length && decide (allC s.toNat es s.toNat = [])
set_option maxRecDepth 100000 in
set_option maxHeartbeats 8000000 in
theorem dAcyclic_any (s : Int) (v : Value) (es : List Bool) (w : World) (hes : Bools w v es) : Calls Try.prog 11 #[.int .i64 s, v] w fun e w' => e = .returned (.bool (acyD s es)) ∧ Kp w w' := by
  obtain ⟨A, c, rfl, hc, hm⟩ := hes.form
  have HES := hid hes
  generalize hR : acyD s es = R
  have HR : Hid (R = (openB s es.length && decide (allC s.toNat es s.toNat = []))) := hid hR.symm
  clear hR hes
  have B0 := Bx.new w #[.bool false] 4
  have k0 := (Kp.refl w).alloc (.cells #[.bool false] 4)
  have z0 := World.size_alloc w (.cells #[.bool false] 4)
  refine (callsIn_wide (n := 5)).1 ?_
  refine callsIn_of_wp_marks Try.func11 rfl trivial ?_ rfl
  simp only [Try.ntmps11, List.size_toArray, List.length_cons, List.length_nil, Nat.reduceAdd, Nat.reduceSub, Array.replicate_succ, Array.replicate_zero, List.push_toArray, List.append_toArray, List.nil_append, List.cons_append]
  refine wpIn_wide.2 ?_
  go_upto_region 1 with (fail)
  generalize w.alloc (.cells #[.bool false] 4) = w0 at *
  generalize hbR : w.heap.size = bR at *
  have HBR := hid hbR
  clear hbR
  go_wp2_with fail
  refine (dOpen_any s A es.length c _ (by omega)).mono ?_
  rintro e w1 ⟨rfl, k1⟩
  have B1 := B0.kp k1 (by omega)
  have k2 := (k0.trans k1).alloc (.cells #[.int .i64 s, .slice A es.length c] 51)
  have B2 := B1.kp ((Kp.refl w1).alloc (.cells #[.int .i64 s, .slice A es.length c] 51)) (by have := k1.size; omega)
  have hA := Bx.new w1 #[.int .i64 s, .slice A es.length c] 51
  have la := alloc_lt w1 (.cells #[.int .i64 s, .slice A es.length c] 51)
  have h1w := k1.size
  go_upto_region 2 with (fail)
  generalize hw2 : w1.alloc (.cells #[.int .i64 s, .slice A es.length c] 51) = w2 at *
  generalize hb0 : w1.heap.size = b0 at *
  clear hw2 k1 k0 B0 B1
  have c0 := B2.cell (j := 0) rfl
  have f0 := B2.free (j := 0) (by simp)
  cases ho : openB s es.length with
  | false =>
    have HF : Hid (R = false) := hid (by rw [HR.out, ho]; rfl)
    replace ho := hid ho
    go_wp2
    have hBX := B2.set (j := 0) (by simp) (.bool false)
    rw [List.set_cons_zero] at hBX
    exact ⟨_, results_cell_bool rfl Try.underlying4 _ _ bR _ rfl (hBX.cell (j := 0) rfl), by rw [HF.out], k2.set (by show _ ≤ bR; have := HBR.out; omega) _⟩
  | true =>
    obtain ⟨n, rfl, h1, h6, hl⟩ := openB_iff ho
    have HF : Hid (R = decide (allC n es n = [])) := hid (by rw [HR.out, ho]; rfl)
    replace ho := hid ho
    have HG : Hid (GrV w (.agg #[.int .i64 (n : Int), .slice A es.length c]) n es) := hid ⟨_, rfl, HES.out, hl, h1, h6⟩
    replace hl := hid hl
    have c1 := hA.cell (j := 0) rfl
    have c2 := hA.cell (j := 1) rfl
    go_wp2
    clear c0 c1 c2 f0 hA la
    have hbr : w.heap.size ≤ bR := by have := HBR.out; omega
    have hb2 := B2.lt (by simp)
    refine (wpIn_wide (n := 5)).1 ?_
    refine wpIn_rangeC (n := n) (es := es) (vg := .agg #[.int .i64 (n : Int), .slice A es.length c]) (bn := bR) (Wz := w) rfl HG.out k2 hbr hb2 (fun q ⟨u, h1, h2⟩ => by rw [B2.cell (j := 0) rfl] at h1; cases h1; cases h2)
      (fun pre W => pre = [] ∧ Kp w W ∧ Bx W bR [.bool false]) (fun W => allC n es n ≠ [] ∧ Kp w W ∧ Bx W bR [.bool false]) ?hI ?hIx (fun s A ⟨_, _, i3⟩ q ⟨u, h1, h2⟩ => by rw [i3.cell (j := 0) rfl] at h1; cases h1; cases h2) ⟨rfl, k2, B2⟩
      (fun v => { tmps := #[.int .i64 (n : Int), .slice A es.length c, undef, undef, .pointer (some ⟨bR, 0, none⟩), .pointer (some ⟨b0, 0, none⟩), .bool true, .tuple #[.agg #[.int .i64 (n : Int), .slice A es.length c], .bool true], .int .i64 (n : Int), .slice A es.length c, .tuple #[.agg #[.int .i64 (n : Int), .slice A es.length c], .bool true], .agg #[.int .i64 (n : Int), .slice A es.length c], .bool true, .bool true, .bool false, .agg #[.int .i64 (n : Int), .slice A es.length c], .func (.func 43) #[.agg #[.int .i64 (n : Int), .slice A es.length c]] #[], v], defers := [] })
      ?assign ?body ?done ?stop
    case hI =>
      rintro l pre X Y hl ⟨i1, i2, i3⟩ hk
      exact ⟨i1, Kg.to_kp i2 hk (by have := k2.size; omega), i3.keep (hk.block bR (i3.lt (by simp)) (by simp; omega))⟩
    case hIx =>
      rintro l X Y hl ⟨i1, i2, i3⟩ hk
      exact ⟨i1, Kg.to_kp i2 hk (by have := k2.size; omega), i3.keep (hk.block bR (i3.lt (by simp)) (by simp; omega))⟩
    case assign =>
      intro l m v W K hK
      gi_wp2
      exact hK
    case body =>
      rintro l m pre x v W0 W hl hl0 ⟨rfl, i2, i3⟩ hk hv ⟨rest, hall⟩
      have i4 := i3.keep (hk.block bR (i3.lt (by simp)) (by simp; omega))
      have i5 := Kg.to_kp i2 hk (by have := k2.size; omega)
      have d0 := i4.cell (j := 0) rfl
      have f0 := i4.free (j := 0) (by simp)
      have hne : allC n es n ≠ [] := by rw [hall]; simp
      replace hall := hid hall
      clear hv HR HF
      gi_wp2
      have hBX := i4.set (j := 0) (by simp) (.bool false)
      rw [List.set_cons_zero] at hBX
      exact ⟨kx_set i4 _ (fun e => absurd rfl e), i5.set (p := ⟨bR, 0, none⟩) hbr _, hBX⟩
    case done =>
      rintro D W hD ⟨i1, i2, i3⟩ hK
      have d0 := i3.cell (j := 0) rfl
      have f0 := i3.free (j := 0) (by simp)
      have HF2 : Hid (R = true) := hid (by rw [HF.out, i1]; rfl)
      replace i1 := hid i1
      clear HR HF
      have hBX := i3.set (j := 0) (by simp) (.bool true)
      rw [List.set_cons_zero] at hBX
      have hK2 : (W.setCell ⟨bR, 0, none⟩ (.bool true)).heap[D]? = some (.deferred (some [])) := (set_block _ _ _ _ (by show D ≠ bR; omega)).trans hK
      have k9 : Kp w (W.setCell ⟨bR, 0, none⟩ (.bool true)) := i2.set (p := ⟨bR, 0, none⟩) hbr _
      go_wp2
      refine ⟨by simp, .inl ⟨_, _, rfl, run_takeDeferred hK2, ?_⟩⟩
      exact ⟨_, results_cell_bool rfl Try.underlying4 _ _ bR _ rfl ((hBX.keep (World.putObj_heap_other (by omega))).cell (j := 0) rfl), by rw [HF2.out], Kg.to_kp k9 (Kg.putObj _ D _) (by have := k2.size; omega)⟩
    case stop =>
      rintro D W hD ⟨i1, i2, i3⟩ hK
      have HF2 : Hid (R = false) := hid (by rw [HF.out]; exact decide_eq_false i1)
      replace i1 := hid i1
      clear HR HF
      go_wp2
      refine ⟨by simp, .inl ⟨_, _, rfl, run_takeDeferred hK, ?_⟩⟩
      exact ⟨_, results_cell_bool rfl Try.underlying4 _ _ bR _ rfl ((i3.keep (World.putObj_heap_other (by omega))).cell (j := 0) rfl), by rw [HF2.out], Kg.to_kp i2 (Kg.putObj _ D _) (by have := k2.size; omega)⟩
end Go.Proofs.Ytlkabhjkncklnaa
