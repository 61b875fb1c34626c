
/-
A broker's new request: the walk.
-/
import Derived.Test.YtbcekihjcgnhkaaBkE
namespace Go.Proofs.Ytbcekihjcgnhkaa
set_option linter.unusedSimpArgs false
set_option linter.unusedVariables false
open Go.RowKit

/-- a block that holds a request; one that holds an own request -/
def askB (w : World) (k : Nat) : Prop := ∃ cs fr, w.heap[k]? = some (.cells cs 29 fr)
def ownB (w : World) (k : Nat) : Prop := ∃ cs fr, w.heap[k]? = some (.cells cs 99 fr)
theorem ownB.keep {w w' : World} {k : Nat} (h : ownB w k) (e : w'.heap[k]? = w.heap[k]?) : ownB w' k := by
  obtain ⟨cs, fr, h⟩ := h
  exact ⟨cs, fr, e.trans h⟩
theorem ownB.lt {w : World} {k : Nat} (h : ownB w k) : k < w.heap.size := by
  obtain ⟨cs, fr, h⟩ := h
  exact (Array.getElem?_eq_some_iff.1 h).1
theorem ownB.nask {w : World} {k : Nat} (h : ownB w k) : ¬ askB w k := fun ⟨cs, fr, h1⟩ => by
  obtain ⟨cs', fr', h2⟩ := h
  rw [h1] at h2
  injection h2 with h2
  injection h2 with _ h2
  exact absurd h2 (by decide)
/-- an own request as it is put into memory -/
def ownP (p1 p2 p3 p4 : Int) (base : Nat) (l : List Nd) (v : Value) (w : World) : Prop := ∃ u, v = .agg #[.int .i64 p1, .int .i64 p2, .int .i64 p3, .int .i64 p4, u] ∧ Own encNd 41 4 base w u l
def ownQ (p1 p2 p3 p4 : Int) (base : Nat) (l : List Nd) (v : Value) (w : World) : Prop := ∃ ob u, v = .pointer (some ⟨ob, 0, none⟩) ∧ base ≤ ob ∧ Bx w ob [.int .i64 p1, .int .i64 p2, .int .i64 p3, .int .i64 p4, u] ∧ Own encNd 41 4 base w u l ∧ ownB w ob
def askP (n p1 p2 p3 p4 : Int) (base : Nat) (l : List Nd) (v : Value) (w : World) : Prop := ∃ u, v = .agg #[.int .i64 n, .int .i64 p1, .int .i64 p2, .int .i64 p3, .int .i64 p4, u] ∧ Own encNd 41 4 base w u l
theorem stab_ownP (p1 p2 p3 p4 : Int) (base : Nat) (l : List Nd) : G2.Stab (ownP p1 p2 p3 p4 base l) := fun _ _ _ ⟨u, e, h⟩ k => ⟨u, e, h.kp k⟩
theorem stab_askP (n p1 p2 p3 p4 : Int) (base : Nat) (l : List Nd) : G2.Stab (askP n p1 p2 p3 p4 base l) := fun _ _ _ ⟨u, e, h⟩ k => ⟨u, e, h.kp k⟩
theorem stab_ownQ (p1 p2 p3 p4 : Int) (base : Nat) (l : List Nd) : G2.Stab (ownQ p1 p2 p3 p4 base l) := fun _ _ _ ⟨ob, u, e, h0, h1, h, h2⟩ k => ⟨ob, u, e, h0, h1.keep (k.block (h1.lt (by simp))), h.kp k, h2.keep (k.block h2.lt)⟩
/-- a slice of the call's own, read by others -/
theorem Own.sx {S : Nat → Prop} {base : Nat} {w : World} {v : Value} {l : List Nd} (h : Own encNd 41 4 base w v l) (hs : ∀ k, base ≤ k → S k) : Sx S w v l :=
  (h.owS.imp fun _ h' => h'.sl encNd_len).mono fun k hk => hs k (h.ge k hk)
theorem own_nask {base g : Nat} {w : World} {v : Value} {l : List Nd} (h : Own encNd 41 4 base w v l) (hv : v.ownBlock = some g) : ¬ askB w g := fun ⟨cs, fr, h1⟩ => by
  rcases h.2 with ⟨rfl, -⟩ | ⟨g', cap, cur, rfl, -, h2, -⟩
  · simp [Value.ownBlock] at hv
  · have e : g' = g := by simpa [Value.ownBlock] using hv
    subst e
    rw [h1] at h2
    injection h2 with h2
    injection h2 with _ h2
    exact absurd h2 (by decide)
/-- what Request returns: the broker's lists lie in no block that holds a request -/
def RequestT (S : Nat → Prop) (w : World) (b mb : Nat) (r : Bk × Ak × Int) (e : Ending) (w' : World) : Prop :=
  ∃ v, e = .returned (.tuple #[askV r.2.1 v, .int .i64 r.2.2]) ∧ Nds w' v r.2.1.needs ∧ (∀ T : Nat → Prop, (∀ k, k < w.heap.size → S k → T k) → (∀ k, w.heap.size ≤ k → ¬ askB w' k → T k) → ¬ T b → ¬ T mb → BrW T w' b mb r.1) ∧ Fx (B2 b mb) w w'
/-- the same, and the needs of the request lie in a new row -/
def RequestU (S : Nat → Prop) (w : World) (b mb : Nat) (r : Bk × Ak × Int) (e : Ending) (w' : World) : Prop :=
  ∃ v, e = .returned (.tuple #[askV r.2.1 v, .int .i64 r.2.2]) ∧ Own encNd 41 4 w.heap.size w' v r.2.1.needs ∧ (∀ T : Nat → Prop, (∀ k, k < w.heap.size → S k → T k) → (∀ k, w.heap.size ≤ k → ¬ askB w' k → T k) → ¬ T b → ¬ T mb → BrW T w' b mb r.1) ∧ Fx (B2 b mb) w w'
/-- what Request returns -/
def RequestR (S : Nat → Prop) (w : World) (b mb : Nat) (r : Bk × Ak × Int) (e : Ending) (w' : World) : Prop :=
  ∃ v, e = .returned (.tuple #[askV r.2.1 v, .int .i64 r.2.2]) ∧ Nds w' v r.2.1.needs ∧ BrW S w' b mb r.1 ∧ Fx (B2 b mb) w w'
set_option maxRecDepth 8000 in
set_option maxHeartbeats 8000000 in
theorem bRequest_U {S S2 : Nat → Prop} {b mb : Nat} {s : Bk} {w : World} (p : Pr) (vm va : Value) (m l : List Nd) (h : BrW S w b mb s) (hs2 : ¬ S2 b) (hm : Sx S2 w vm m) (ha : Sx S2 w va l) :
    Calls Try.prog 17 #[.pointer (some ⟨b, 0, none⟩), prV p, vm, va] w (RequestU S w b mb (request s p m l)) := by
  obtain ⟨p1, p2, p3, p4⟩ := p
  obtain ⟨A, c, rfl, hmc, hmm⟩ := hm.here.form
  obtain ⟨A', c', rfl, hac, ham⟩ := ha.here.form
  obtain ⟨ov, hb, ho⟩ := h.box
  have hlt := h.lt
  have k0 := ((Kp.refl w).alloc (.cells #[.int .i64 p1, .int .i64 p2, .int .i64 p3, .int .i64 p4] 23)).alloc (.cells #[.int .i64 0, .int .i64 0, .int .i64 0, .int .i64 0, .int .i64 0, .slice none 0 0] 29)
  have hP := (Bx.new w #[.int .i64 p1, .int .i64 p2, .int .i64 p3, .int .i64 p4] 23).keep (heap_alloc_old _ (.cells #[.int .i64 0, .int .i64 0, .int .i64 0, .int .i64 0, .int .i64 0, .slice none 0 0] 29) (by simp))
  have hR := Bx.new (w.alloc (.cells #[.int .i64 p1, .int .i64 p2, .int .i64 p3, .int .i64 p4] 23)) #[.int .i64 0, .int .i64 0, .int .i64 0, .int .i64 0, .int .i64 0, .slice none 0 0] 29
  have hb1 := hb.kp k0 hlt
  have hok := h.ok.num
  have HH := hid h
  have HM := hid hm
  have HA := hid ha
  have HO := hid ho
  clear h hb ho hm ha
  rw [World.size_alloc] at hR
  generalize hr : request s (p1, p2, p3, p4) m l = r
  have HRq := hid hr
  clear hr
  go_enter Try.func17, Try.ntmps17
  go_upto_region 1 with (fail)
  generalize (w.alloc (.cells #[.int .i64 p1, .int .i64 p2, .int .i64 p3, .int .i64 p4] 23)).alloc (.cells #[.int .i64 0, .int .i64 0, .int .i64 0, .int .i64 0, .int .i64 0, .slice none 0 0] 29) = w0 at *
  have hrb := hR.lt (by simp)
  have hpb := hP.lt (by simp)
  generalize hpbe : w.heap.size = pb at *
  have HPB := hid hpbe
  clear hpbe
  have hne : b ≠ pb + 1 := by omega
  have hnpb : b ≠ pb := by omega
  have p0 := hP.cell (j := 0) rfl
  have q1 := hP.cell (j := 1) rfl
  have q2 := hP.cell (j := 2) rfl
  have q3 := hP.cell (j := 3) rfl
  have c1 := hb1.cell (j := 1) rfl
  by_cases h1 : ofB (p1, p2, p3, p4) s.i = true
  · by_cases h2 : m.length = 0
    · have e2 : ((m.length : Int) == 0) = true := by rw [h2]; rfl
      obtain rfl : r = (s, zAk, 1) := by rw [← HRq.out, request, if_pos (by simp [h1, h2])]
      replace h2 := hid h2
      refine G2.wp_region_growT Kp [] 22 64 (G2.pvL [G2.eqv (.agg #[.int .i64 p1, .int .i64 p2, .int .i64 p3, .int .i64 p4]), G2.eqv (.pointer (some ⟨b, 0, none⟩)), G2.eqv (.pointer (some ⟨b, 0, none⟩)), G2.eqv (.pointer (some ⟨b, 1, none⟩)), G2.eqv (.int .i64 s.i), G2.eqv (.bool true), G2.eqv (.bool false), G2.eqv (.bool false), G2.eqv (.slice A m.length c), G2.eqv (.int .i64 (m.length : Int)), G2.eqv (.bool true), G2.eqv (.bool true), G2.eqv (.bool true), G2.eqv (undef), G2.eqv (undef), G2.eqv (undef), G2.eqv (.bool true), G2.eqv (.bool true), G2.eqv (undef), G2.eqv (undef), G2.eqv (undef), G2.eqv (.bool true)]) (by kernel_rfl) (by kernel_rfl) rfl (fun x => Kp.refl x) (fun _ _ _ h k => h.trans k) (Kp.refl _).drew (fun _ _ _ _ _ h => h) (G2.pvL_keep (G2.stabL_cons (G2.stab_eq _) (G2.stabL_cons (G2.stab_eq _) (G2.stabL_cons (G2.stab_eq _) (G2.stabL_cons (G2.stab_eq _) (G2.stabL_cons (G2.stab_eq _) (G2.stabL_cons (G2.stab_eq _) (G2.stabL_cons (G2.stab_eq _) (G2.stabL_cons (G2.stab_eq _) (G2.stabL_cons (G2.stab_eq _) (G2.stabL_cons (G2.stab_eq _) (G2.stabL_cons (G2.stab_eq _) (G2.stabL_cons (G2.stab_eq _) (G2.stabL_cons (G2.stab_eq _) (G2.stabL_cons (G2.stab_eq _) (G2.stabL_cons (G2.stab_eq _) (G2.stabL_cons (G2.stab_eq _) (G2.stabL_cons (G2.stab_eq _) (G2.stabL_cons (G2.stab_eq _) (G2.stabL_cons (G2.stab_eq _) (G2.stabL_cons (G2.stab_eq _) (G2.stabL_cons (G2.stab_eq _) (G2.stabL_cons (G2.stab_eq _) (G2.stabL_nil)))))))))))))))))))))))) (G2.stepsT_cons 0 ?_ (G2.stepsT_cons 1 ?_ (G2.stepsT_cons 2 ?_ (G2.stepsT_cons 3 ?_ (G2.stepsT_cons 4 ?_ (G2.stepsT_cons 5 ?_ (G2.stepsT_cons 6 ?_ (G2.stepsT_cons 7 ?_ (G2.stepsT_cons 8 ?_ (G2.stepsT_cons 9 ?_ (G2.stepsT_cons 10 ?_ (G2.stepsT_cons 11 ?_ (G2.stepsT_cons 12 ?_ (G2.stepsT_cons 13 ?_ (G2.stepsT_cons 14 ?_ (G2.stepsT_cons 15 ?_ (G2.stepsT_cons 16 ?_ (G2.stepsT_cons 17 ?_ (G2.stepsT_cons 18 ?_ (G2.stepsT_cons 19 ?_ (G2.stepsT_cons 20 ?_ (G2.stepsT_cons 21 ?_ (G2.stepsT_nil _ _ _))))))))))))))))))))))) ?_ ?_
      · intro a w' hk hF hD K hK
        have h5 : a.tmps[5]?.getD undef = .pointer (some ⟨pb, 0, none⟩) := hF 5 (by kernel_rfl)
        clear hF hD
        have z0 := hk.cellS p0
        have z1 := hk.cellS q1
        have z2 := hk.cellS q2
        have z3 := hk.cellS q3
        go_simp
        exact hK.out _ _ (Kp.refl _) rfl
      · intro a w' hk hF hD K hK
        have h0 : a.tmps[0]?.getD undef = .pointer (some ⟨b, 0, none⟩) := hF 0 (by kernel_rfl)
        clear hF hD
        go_simp
        exact hK.out _ _ (Kp.refl _) rfl
      · intro a w' hk hF hD K hK
        have h12 : a.tmps[12]?.getD undef = .pointer (some ⟨b, 0, none⟩) := hD 1 (by kernel_rfl)
        clear hF hD
        go_simp
        exact hK.out _ _ (Kp.refl _) rfl
      · intro a w' hk hF hD K hK
        have h13 : a.tmps[13]?.getD undef = .pointer (some ⟨b, 0, none⟩) := hD 2 (by kernel_rfl)
        clear hF hD
        go_simp
        exact hK.out _ _ (Kp.refl _) rfl
      · intro a w' hk hF hD K hK
        have h14 : a.tmps[14]?.getD undef = .pointer (some ⟨b, 1, none⟩) := hD 3 (by kernel_rfl)
        clear hF hD
        have z1 := hk.cellS c1
        go_simp
        exact hK.out _ _ (Kp.refl _) rfl
      · intro a w' hk hF hD K hK
        have h11 : a.tmps[11]?.getD undef = .agg #[.int .i64 p1, .int .i64 p2, .int .i64 p3, .int .i64 p4] := hD 0 (by kernel_rfl)
        have h15 : a.tmps[15]?.getD undef = .int .i64 s.i := hD 4 (by kernel_rfl)
        clear hF hD
        go_simp
        refine (bOf_any (p1, p2, p3, p4) s.i _).mono ?_
        rintro e w9 ⟨rfl, hk9⟩
        rw [h1]
        exact hK.out _ _ hk9 rfl
      · intro a w' hk hF hD K hK
        have h16 : a.tmps[16]?.getD undef = .bool true := hD 5 (by kernel_rfl)
        clear hF hD
        go_simp
        exact hK.out _ _ (Kp.refl _) rfl
      · intro a w' hk hF hD K hK
        have h17 : a.tmps[17]?.getD undef = .bool false := hD 6 (by kernel_rfl)
        clear hF hD
        go_simp
        exact hK.out _ _ (Kp.refl _) rfl
      · intro a w' hk hF hD K hK
        have h2 : a.tmps[2]?.getD undef = .slice A m.length c := hF 2 (by kernel_rfl)
        have h18 : a.tmps[18]?.getD undef = .bool false := hD 7 (by kernel_rfl)
        have g18 := guard_get h18
        clear hF hD
        go_simp
        exact hK.out _ _ (Kp.refl _) rfl
      · intro a w' hk hF hD K hK
        have h19 : a.tmps[19]?.getD undef = .slice A m.length c := hD 8 (by kernel_rfl)
        have h18 : a.tmps[18]?.getD undef = .bool false := hD 7 (by kernel_rfl)
        have g18 := guard_get h18
        clear hF hD
        go_simp
        exact hK.out _ _ (Kp.refl _) rfl
      · intro a w' hk hF hD K hK
        have h20 : a.tmps[20]?.getD undef = .int .i64 (m.length : Int) := hD 9 (by kernel_rfl)
        have h18 : a.tmps[18]?.getD undef = .bool false := hD 7 (by kernel_rfl)
        have g18 := guard_get h18
        clear hF hD
        go_simp
        exact hK.out _ _ (Kp.refl _) rfl
      · intro a w' hk hF hD K hK
        have h18 : a.tmps[18]?.getD undef = .bool false := hD 7 (by kernel_rfl)
        have h21 : a.tmps[21]?.getD undef = .bool true := hD 10 (by kernel_rfl)
        clear hF hD
        go_simp
        exact hK.out _ _ (Kp.refl _) rfl
      · intro a w' hk hF hD K hK
        have h22 : a.tmps[22]?.getD undef = .bool true := hD 11 (by kernel_rfl)
        clear hF hD
        go_simp
        exact hK.out _ _ (Kp.refl _) rfl
      · intro a w' hk hF hD K hK
        have h2 : a.tmps[2]?.getD undef = .slice A m.length c := hF 2 (by kernel_rfl)
        have h23 : a.tmps[23]?.getD undef = .bool true := hD 12 (by kernel_rfl)
        have g23 := guard_get h23
        clear hF hD
        go_simp
        exact hK.out _ _ (Kp.refl _) rfl
      · intro a w' hk hF hD K hK
        have h24 : a.tmps[24]?.getD undef = undef := hD 13 (by kernel_rfl)
        have h23 : a.tmps[23]?.getD undef = .bool true := hD 12 (by kernel_rfl)
        have g23 := guard_get h23
        clear hF hD
        go_simp
        exact hK.out _ _ (Kp.refl _) rfl
      · intro a w' hk hF hD K hK
        have h25 : a.tmps[25]?.getD undef = undef := hD 14 (by kernel_rfl)
        have h23 : a.tmps[23]?.getD undef = .bool true := hD 12 (by kernel_rfl)
        have g23 := guard_get h23
        clear hF hD
        go_simp
        exact hK.out _ _ (Kp.refl _) rfl
      · intro a w' hk hF hD K hK
        have h23 : a.tmps[23]?.getD undef = .bool true := hD 12 (by kernel_rfl)
        have h26 : a.tmps[26]?.getD undef = undef := hD 15 (by kernel_rfl)
        clear hF hD
        go_simp
        exact hK.out _ _ (Kp.refl _) rfl
      · intro a w' hk hF hD K hK
        have h27 : a.tmps[27]?.getD undef = .bool true := hD 16 (by kernel_rfl)
        clear hF hD
        go_simp
        exact hK.out _ _ (Kp.refl _) rfl
      · intro a w' hk hF hD K hK
        have h3 : a.tmps[3]?.getD undef = .slice A' l.length c' := hF 3 (by kernel_rfl)
        have h28 : a.tmps[28]?.getD undef = .bool true := hD 17 (by kernel_rfl)
        have g28 := guard_get h28
        clear hF hD
        go_simp
        exact hK.out _ _ (Kp.refl _) rfl
      · intro a w' hk hF hD K hK
        have h29 : a.tmps[29]?.getD undef = undef := hD 18 (by kernel_rfl)
        have h28 : a.tmps[28]?.getD undef = .bool true := hD 17 (by kernel_rfl)
        have g28 := guard_get h28
        clear hF hD
        go_simp
        exact hK.out _ _ (Kp.refl _) rfl
      · intro a w' hk hF hD K hK
        have h30 : a.tmps[30]?.getD undef = undef := hD 19 (by kernel_rfl)
        have h28 : a.tmps[28]?.getD undef = .bool true := hD 17 (by kernel_rfl)
        have g28 := guard_get h28
        clear hF hD
        go_simp
        exact hK.out _ _ (Kp.refl _) rfl
      · intro a w' hk hF hD K hK
        have h28 : a.tmps[28]?.getD undef = .bool true := hD 17 (by kernel_rfl)
        have h31 : a.tmps[31]?.getD undef = undef := hD 20 (by kernel_rfl)
        clear hF hD
        go_simp
        exact hK.out _ _ (Kp.refl _) rfl
      · exact fun i0 hi0 => by simp at hi0
      intro v w9 k9 hv
      have v21 : v 21 = .bool true := hv 21 (by omega)
      clear hv
      simp only [G2.growPut, G2.gSlot, List.getElem?_toArray, List.getElem?_cons_zero, List.getElem?_cons_succ, Option.bind_some, List.setIfInBounds_toArray, List.set_cons_zero, List.set_cons_succ, List.drop_succ_cons, List.drop_zero, v21]
      have hR9 := hR.keep (k9.block hrb)
      have k09 := k0.trans k9
      go_wp2_with (refine wpList_store_mid rfl 29 (.tmp 8) (.tmp 33) rfl (pb + 1) 0 #[.int .i64 0, .int .i64 0, .int .i64 0, .int .i64 0, .int .i64 0, .slice none 0 0] rfl rfl hR9.there (by kernel_rfl) (all_oneCell_toArray (by simp [Value.oneCell'])) ?_)
      try simp only [Exit.inBlock, Exit.then]
      have hRa := hR9.all (cs := [.int .i64 0, .int .i64 0, .int .i64 0, .int .i64 0, .int .i64 0, .slice none 0 0]) (by rfl)
      refine bodyPost_ret (results_cell_bx2 rfl _ _ (pb + 1) _ _ rfl hRa.range Try.underlying29 rfl (by kernel_rfl)) rfl ?_
      have hk := Kp.setCells (a := w) (b := pb + 1) (by have := HPB.out; omega) [.int .i64 0, .int .i64 0, .int .i64 0, .int .i64 0, .int .i64 0, .slice none 0 0] 0 w9 k09
      refine ⟨.slice none 0 0, rfl, Own.nil _ _ _ _ _, fun T h1 _ h3 h4 => (HH.out.to (fun k hk hs => h1 k hk hs) h3 h4).kp hk, hk.fx _⟩
    · have e2 : ((m.length : Int) == 0) = false := beq_false_of_ne (by omega)
      by_cases h3 : validL m = true
      · by_cases h4 : validL l = true
        · replace h2 := hid h2
          refine G2.wp_region_growT Kp [] 22 64 (G2.pvL [G2.eqv (.agg #[.int .i64 p1, .int .i64 p2, .int .i64 p3, .int .i64 p4]), G2.eqv (.pointer (some ⟨b, 0, none⟩)), G2.eqv (.pointer (some ⟨b, 0, none⟩)), G2.eqv (.pointer (some ⟨b, 1, none⟩)), G2.eqv (.int .i64 s.i), G2.eqv (.bool true), G2.eqv (.bool false), G2.eqv (.bool false), G2.eqv (.slice A m.length c), G2.eqv (.int .i64 (m.length : Int)), G2.eqv (.bool false), G2.eqv (.bool false), G2.eqv (.bool false), G2.eqv (.slice A m.length c), G2.eqv (.bool true), G2.eqv (.bool false), G2.eqv (.bool false), G2.eqv (.bool false), G2.eqv (.slice A' l.length c'), G2.eqv (.bool true), G2.eqv (.bool false), G2.eqv (.bool false)]) (by kernel_rfl) (by kernel_rfl) rfl (fun x => Kp.refl x) (fun _ _ _ h k => h.trans k) (Kp.refl _).drew (fun _ _ _ _ _ h => h) (G2.pvL_keep (G2.stabL_cons (G2.stab_eq _) (G2.stabL_cons (G2.stab_eq _) (G2.stabL_cons (G2.stab_eq _) (G2.stabL_cons (G2.stab_eq _) (G2.stabL_cons (G2.stab_eq _) (G2.stabL_cons (G2.stab_eq _) (G2.stabL_cons (G2.stab_eq _) (G2.stabL_cons (G2.stab_eq _) (G2.stabL_cons (G2.stab_eq _) (G2.stabL_cons (G2.stab_eq _) (G2.stabL_cons (G2.stab_eq _) (G2.stabL_cons (G2.stab_eq _) (G2.stabL_cons (G2.stab_eq _) (G2.stabL_cons (G2.stab_eq _) (G2.stabL_cons (G2.stab_eq _) (G2.stabL_cons (G2.stab_eq _) (G2.stabL_cons (G2.stab_eq _) (G2.stabL_cons (G2.stab_eq _) (G2.stabL_cons (G2.stab_eq _) (G2.stabL_cons (G2.stab_eq _) (G2.stabL_cons (G2.stab_eq _) (G2.stabL_cons (G2.stab_eq _) (G2.stabL_nil)))))))))))))))))))))))) (G2.stepsT_cons 0 ?_ (G2.stepsT_cons 1 ?_ (G2.stepsT_cons 2 ?_ (G2.stepsT_cons 3 ?_ (G2.stepsT_cons 4 ?_ (G2.stepsT_cons 5 ?_ (G2.stepsT_cons 6 ?_ (G2.stepsT_cons 7 ?_ (G2.stepsT_cons 8 ?_ (G2.stepsT_cons 9 ?_ (G2.stepsT_cons 10 ?_ (G2.stepsT_cons 11 ?_ (G2.stepsT_cons 12 ?_ (G2.stepsT_cons 13 ?_ (G2.stepsT_cons 14 ?_ (G2.stepsT_cons 15 ?_ (G2.stepsT_cons 16 ?_ (G2.stepsT_cons 17 ?_ (G2.stepsT_cons 18 ?_ (G2.stepsT_cons 19 ?_ (G2.stepsT_cons 20 ?_ (G2.stepsT_cons 21 ?_ (G2.stepsT_nil _ _ _))))))))))))))))))))))) ?_ ?_
          · intro a w' hk hF hD K hK
            have h5 : a.tmps[5]?.getD undef = .pointer (some ⟨pb, 0, none⟩) := hF 5 (by kernel_rfl)
            clear hF hD
            have z0 := hk.cellS p0
            have z1 := hk.cellS q1
            have z2 := hk.cellS q2
            have z3 := hk.cellS q3
            go_simp
            exact hK.out _ _ (Kp.refl _) rfl
          · intro a w' hk hF hD K hK
            have h0 : a.tmps[0]?.getD undef = .pointer (some ⟨b, 0, none⟩) := hF 0 (by kernel_rfl)
            clear hF hD
            go_simp
            exact hK.out _ _ (Kp.refl _) rfl
          · intro a w' hk hF hD K hK
            have h12 : a.tmps[12]?.getD undef = .pointer (some ⟨b, 0, none⟩) := hD 1 (by kernel_rfl)
            clear hF hD
            go_simp
            exact hK.out _ _ (Kp.refl _) rfl
          · intro a w' hk hF hD K hK
            have h13 : a.tmps[13]?.getD undef = .pointer (some ⟨b, 0, none⟩) := hD 2 (by kernel_rfl)
            clear hF hD
            go_simp
            exact hK.out _ _ (Kp.refl _) rfl
          · intro a w' hk hF hD K hK
            have h14 : a.tmps[14]?.getD undef = .pointer (some ⟨b, 1, none⟩) := hD 3 (by kernel_rfl)
            clear hF hD
            have z1 := hk.cellS c1
            go_simp
            exact hK.out _ _ (Kp.refl _) rfl
          · intro a w' hk hF hD K hK
            have h11 : a.tmps[11]?.getD undef = .agg #[.int .i64 p1, .int .i64 p2, .int .i64 p3, .int .i64 p4] := hD 0 (by kernel_rfl)
            have h15 : a.tmps[15]?.getD undef = .int .i64 s.i := hD 4 (by kernel_rfl)
            clear hF hD
            go_simp
            refine (bOf_any (p1, p2, p3, p4) s.i _).mono ?_
            rintro e w9 ⟨rfl, hk9⟩
            rw [h1]
            exact hK.out _ _ hk9 rfl
          · intro a w' hk hF hD K hK
            have h16 : a.tmps[16]?.getD undef = .bool true := hD 5 (by kernel_rfl)
            clear hF hD
            go_simp
            exact hK.out _ _ (Kp.refl _) rfl
          · intro a w' hk hF hD K hK
            have h17 : a.tmps[17]?.getD undef = .bool false := hD 6 (by kernel_rfl)
            clear hF hD
            go_simp
            exact hK.out _ _ (Kp.refl _) rfl
          · intro a w' hk hF hD K hK
            have h2 : a.tmps[2]?.getD undef = .slice A m.length c := hF 2 (by kernel_rfl)
            have h18 : a.tmps[18]?.getD undef = .bool false := hD 7 (by kernel_rfl)
            have g18 := guard_get h18
            clear hF hD
            go_simp
            exact hK.out _ _ (Kp.refl _) rfl
          · intro a w' hk hF hD K hK
            have h19 : a.tmps[19]?.getD undef = .slice A m.length c := hD 8 (by kernel_rfl)
            have h18 : a.tmps[18]?.getD undef = .bool false := hD 7 (by kernel_rfl)
            have g18 := guard_get h18
            clear hF hD
            go_simp
            exact hK.out _ _ (Kp.refl _) rfl
          · intro a w' hk hF hD K hK
            have h20 : a.tmps[20]?.getD undef = .int .i64 (m.length : Int) := hD 9 (by kernel_rfl)
            have h18 : a.tmps[18]?.getD undef = .bool false := hD 7 (by kernel_rfl)
            have g18 := guard_get h18
            clear hF hD
            go_simp
            exact hK.out _ _ (Kp.refl _) rfl
          · intro a w' hk hF hD K hK
            have h18 : a.tmps[18]?.getD undef = .bool false := hD 7 (by kernel_rfl)
            have h21 : a.tmps[21]?.getD undef = .bool false := hD 10 (by kernel_rfl)
            clear hF hD
            go_simp
            exact hK.out _ _ (Kp.refl _) rfl
          · intro a w' hk hF hD K hK
            have h22 : a.tmps[22]?.getD undef = .bool false := hD 11 (by kernel_rfl)
            clear hF hD
            go_simp
            exact hK.out _ _ (Kp.refl _) rfl
          · intro a w' hk hF hD K hK
            have h2 : a.tmps[2]?.getD undef = .slice A m.length c := hF 2 (by kernel_rfl)
            have h23 : a.tmps[23]?.getD undef = .bool false := hD 12 (by kernel_rfl)
            have g23 := guard_get h23
            clear hF hD
            go_simp
            exact hK.out _ _ (Kp.refl _) rfl
          · intro a w' hk hF hD K hK
            have h24 : a.tmps[24]?.getD undef = .slice A m.length c := hD 13 (by kernel_rfl)
            have h23 : a.tmps[23]?.getD undef = .bool false := hD 12 (by kernel_rfl)
            have g23 := guard_get h23
            clear hF hD
            go_simp
            refine (bValid_any _ m _ (HM.out.here.keep (pl_stable _) (k0.trans hk))).mono ?_
            rintro e w9 ⟨rfl, hk9⟩
            rw [h3]
            exact hK.out _ _ hk9 rfl
          · intro a w' hk hF hD K hK
            have h25 : a.tmps[25]?.getD undef = .bool true := hD 14 (by kernel_rfl)
            have h23 : a.tmps[23]?.getD undef = .bool false := hD 12 (by kernel_rfl)
            have g23 := guard_get h23
            clear hF hD
            go_simp
            exact hK.out _ _ (Kp.refl _) rfl
          · intro a w' hk hF hD K hK
            have h23 : a.tmps[23]?.getD undef = .bool false := hD 12 (by kernel_rfl)
            have h26 : a.tmps[26]?.getD undef = .bool false := hD 15 (by kernel_rfl)
            clear hF hD
            go_simp
            exact hK.out _ _ (Kp.refl _) rfl
          · intro a w' hk hF hD K hK
            have h27 : a.tmps[27]?.getD undef = .bool false := hD 16 (by kernel_rfl)
            clear hF hD
            go_simp
            exact hK.out _ _ (Kp.refl _) rfl
          · intro a w' hk hF hD K hK
            have h3 : a.tmps[3]?.getD undef = .slice A' l.length c' := hF 3 (by kernel_rfl)
            have h28 : a.tmps[28]?.getD undef = .bool false := hD 17 (by kernel_rfl)
            have g28 := guard_get h28
            clear hF hD
            go_simp
            exact hK.out _ _ (Kp.refl _) rfl
          · intro a w' hk hF hD K hK
            have h29 : a.tmps[29]?.getD undef = .slice A' l.length c' := hD 18 (by kernel_rfl)
            have h28 : a.tmps[28]?.getD undef = .bool false := hD 17 (by kernel_rfl)
            have g28 := guard_get h28
            clear hF hD
            go_simp
            refine (bValid_any _ l _ (HA.out.here.keep (pl_stable _) (k0.trans hk))).mono ?_
            rintro e w9 ⟨rfl, hk9⟩
            rw [h4]
            exact hK.out _ _ hk9 rfl
          · intro a w' hk hF hD K hK
            have h30 : a.tmps[30]?.getD undef = .bool true := hD 19 (by kernel_rfl)
            have h28 : a.tmps[28]?.getD undef = .bool false := hD 17 (by kernel_rfl)
            have g28 := guard_get h28
            clear hF hD
            go_simp
            exact hK.out _ _ (Kp.refl _) rfl
          · intro a w' hk hF hD K hK
            have h28 : a.tmps[28]?.getD undef = .bool false := hD 17 (by kernel_rfl)
            have h31 : a.tmps[31]?.getD undef = .bool false := hD 20 (by kernel_rfl)
            clear hF hD
            go_simp
            exact hK.out _ _ (Kp.refl _) rfl
          · exact fun i0 hi0 => by simp at hi0
          intro v w9 k9 hv
          have v21 : v 21 = .bool false := hv 21 (by omega)
          clear hv
          simp only [G2.growPut, G2.gSlot, List.getElem?_toArray, List.getElem?_cons_zero, List.getElem?_cons_succ, Option.bind_some, List.setIfInBounds_toArray, List.set_cons_zero, List.set_cons_succ, List.drop_succ_cons, List.drop_zero, v21]
          have hR9 := hR.keep (k9.block hrb)
          have hb9 := hb1.kp k9 (by omega)
          have hP9 := hP.keep (k9.block hpb)
          have k09 := k0.trans k9
          clear hR hb1 hP p0 q1 q2 q3 c1
          have c2 := hb9.cell (j := 2) rfl
          have f2 := hb9.free (j := 2) (by simp)
          by_cases h5 : 1048576 ≤ s.num
          · have e5 : decide (1048576 ≤ s.num) = true := decide_eq_true h5
            obtain rfl : r = (s, zAk, 8) := by rw [← HRq.out, request, if_neg (by simp [h1, h2.out, h3, h4]), if_pos h5]
            go_wp2_with (refine wpList_store_mid rfl 29 (.tmp 8) (.tmp 40) rfl (pb + 1) 0 #[.int .i64 0, .int .i64 0, .int .i64 0, .int .i64 0, .int .i64 0, .slice none 0 0] rfl rfl hR9.there (by kernel_rfl) (all_oneCell_toArray (by simp [Value.oneCell'])) ?_)
            try simp only [Exit.inBlock, Exit.then]
            have hRa := hR9.all (cs := [.int .i64 0, .int .i64 0, .int .i64 0, .int .i64 0, .int .i64 0, .slice none 0 0]) (by rfl)
            refine bodyPost_ret (results_cell_bx2 rfl _ _ (pb + 1) _ _ rfl hRa.range Try.underlying29 rfl (by kernel_rfl)) rfl ?_
            have hk := Kp.setCells (a := w) (b := pb + 1) (by have := HPB.out; omega) [.int .i64 0, .int .i64 0, .int .i64 0, .int .i64 0, .int .i64 0, .slice none 0 0] 0 w9 k09
            refine ⟨.slice none 0 0, rfl, Own.nil _ _ _ _ _, fun T h1 _ h3 h4 => (HH.out.to (fun k hk hs => h1 k hk hs) h3 h4).kp hk, hk.fx _⟩
          · have e5 : decide (1048576 ≤ s.num) = false := decide_eq_false h5
            obtain rfl : r = ({ s with num := s.num + 1, own := some ((p1, p2, p3, p4), l) }, ⟨s.num + 1, (p1, p2, p3, p4), m⟩, 0) := by rw [← HRq.out, request, if_neg (by simp [h1, h2.out, h3, h4]), if_neg h5]
            have hlen := ((validL_iff l).1 h4).2.2
            have hlenm := ((validL_iff m).1 h3).2.2
            have z1 : IntKind.i64.wrap (s.num + 1) = s.num + 1 := IntWalk.i64_in _ (by omega)
            have z2 : wrap64 (s.num + 1) = s.num + 1 := IntWalk.wrap64_in _ (by omega)
            generalize hm1 : s.num + 1 = m1 at *
            have hb10 := hb9.set (j := 2) (by simp) (.int .i64 m1)
            simp only [List.set_cons_zero, List.set_cons_succ] at hb10
            have hR10 := hR9.keep (set_block w9 ⟨b, 2, none⟩ (.int .i64 m1) (pb + 1) (fun e => hne e.symm))
            have hP10 := hP9.keep (set_block w9 ⟨b, 2, none⟩ (.int .i64 m1) pb (fun e => hnpb e.symm))
            have kg10 := (k09.kg b).set (p := ⟨b, 2, none⟩) (.inl rfl) (.int .i64 m1)
            have hz10 := set_size w9 ⟨b, 2, none⟩ (.int .i64 m1)
            have hz9 := k9.size
            go_upto_region 6 with (fail)
            generalize w9.setCell ⟨b, 2, none⟩ (.int .i64 m1) = w10 at *
            have p0 := hP10.cell (j := 0) rfl
            have q1 := hP10.cell (j := 1) rfl
            have q2 := hP10.cell (j := 2) rfl
            have q3 := hP10.cell (j := 3) rfl
            have hsb := hs2
            have HV := hid (And.intro h1 h4)
            clear h1 h2 h3 h4 HRq
            refine G2.wp_region_growT Kp [] 6 64 (G2.pvL [G2.eqv (.pointer (some ⟨b, 0, none⟩)), G2.eqv (.agg #[.int .i64 p1, .int .i64 p2, .int .i64 p3, .int .i64 p4]), G2.eqv (.slice A' l.length c'), (G2.retOwn encNd 41 4 w10.heap.size l), (ownP p1 p2 p3 p4 w10.heap.size l), (ownQ p1 p2 p3 p4 w10.heap.size l)]) (by kernel_rfl) (by kernel_rfl) rfl (fun x => Kp.refl x) (fun _ _ _ h k => h.trans k) (Kp.refl _).drew (fun _ _ _ _ _ h => h) (G2.pvL_keep (G2.stabL_cons (G2.stab_eq _) (G2.stabL_cons (G2.stab_eq _) (G2.stabL_cons (G2.stab_eq _) (G2.stabL_cons (G2.stab_own _ _ _ _ _) (G2.stabL_cons (stab_ownP _ _ _ _ _ _) (G2.stabL_cons (stab_ownQ _ _ _ _ _ _) (G2.stabL_nil)))))))) (G2.stepsT_cons 0 ?_ (G2.stepsT_cons 1 ?_ (G2.stepsT_cons 2 ?_ (G2.stepsT_cons 3 ?_ (G2.stepsT_cons 4 ?_ (G2.stepsT_cons 5 ?_ (G2.stepsT_nil _ _ _))))))) ?_ ?_
            · intro a w' hk hF hD K hK
              have h0 : a.tmps[0]?.getD undef = .pointer (some ⟨b, 0, none⟩) := hF 0 (by kernel_rfl)
              clear hF hD
              go_simp
              exact hK.out _ _ (Kp.refl _) rfl
            · intro a w' hk hF hD K hK
              have h5 : a.tmps[5]?.getD undef = .pointer (some ⟨pb, 0, none⟩) := hF 5 (by kernel_rfl)
              clear hF hD
              have z0 := hk.cellS p0
              have z1 := hk.cellS q1
              have z2 := hk.cellS q2
              have z3 := hk.cellS q3
              go_simp
              exact hK.out _ _ (Kp.refl _) rfl
            · intro a w' hk hF hD K hK
              have h3 : a.tmps[3]?.getD undef = .slice A' l.length c' := hF 3 (by kernel_rfl)
              clear hF hD
              go_simp
              exact hK.out _ _ (Kp.refl _) rfl
            · intro a w' hk hF hD K hK
              have h50 : a.tmps[50]?.getD undef = .slice A' l.length c' := hD 2 (by kernel_rfl)
              clear hF hD
              go_simp
              refine (CloneNd_any _ l _ (OwS.kg HA.out (kg10.kp hk) hsb).here (by omega)).mono ?_
              rintro e w9 ⟨v9, rfl, own9, hk9⟩
              exact hK.out _ _ hk9 (own9.less hk.size)
            · intro a w' hk hF hD K hK
              have h49 : a.tmps[49]?.getD undef = .agg #[.int .i64 p1, .int .i64 p2, .int .i64 p3, .int .i64 p4] := hD 1 (by kernel_rfl)
              have h51 : (G2.retOwn encNd 41 4 w10.heap.size l) (a.tmps[51]?.getD undef) w' := hD 3 (by kernel_rfl)
              clear hF hD
              obtain ⟨u, hu⟩ : ∃ u, a.tmps[51]?.getD undef = u := ⟨_, rfl⟩
              rw [hu] at h51
              obtain ⟨A5, c5, rfl, -, -⟩ := Own.form h51
              go_simp
              exact hK.out _ _ (Kp.refl _) ⟨_, rfl, h51⟩
            · intro a w' hk hF hD K hK
              have h52 : (ownP p1 p2 p3 p4 w10.heap.size l) (a.tmps[52]?.getD undef) w' := hD 4 (by kernel_rfl)
              clear hF hD
              obtain ⟨u, hu, own5⟩ := h52
              obtain ⟨A5, c5, rfl, -, -⟩ := own5.form
              go_simp
              exact hK.out _ _ ((Kp.refl _).alloc _) ⟨_, _, rfl, hk.size, Bx.new _ #[.int .i64 p1, .int .i64 p2, .int .i64 p3, .int .i64 p4, .slice A5 l.length c5] _, own5.alloc _, _, _, heap_alloc_new _ _⟩
            · exact fun i0 hi0 => by simp at hi0
            intro v w9 k9 hv
            have v0 : v 0 = .pointer (some ⟨b, 0, none⟩) := hv 0 (by omega)
            have v5 : (ownQ p1 p2 p3 p4 w10.heap.size l) (v 5) w9 := hv 5 (by omega)
            clear hv
            obtain ⟨ob, u, e5', hob, hbx, hown, hobt⟩ := v5
            simp only [G2.growPut, G2.gSlot, List.getElem?_toArray, List.getElem?_cons_zero, List.getElem?_cons_succ, Option.bind_some, List.setIfInBounds_toArray, List.set_cons_zero, List.set_cons_succ, List.drop_succ_cons, List.drop_zero, v0, e5']
            have hb11 := hb10.kp k9 (by omega)
            have hR11 := hR10.keep (k9.block (by omega))
            have hP11 := hP10.keep (k9.block (by omega))
            have kg11 := kg10.kp k9
            have hz11 := k9.size
            have hobz := hbx.lt (by simp)
            clear hb10 hR10 hP10 p0 q1 q2 q3 c2 f2 kg10 hb9 hR9 hP9
            have c3 := hb11.cell (j := 3) rfl
            have f3 := hb11.free (j := 3) (by simp)
            have hneo : b ≠ ob := by omega
            have hb12 := hb11.set (j := 3) (by simp) (.pointer (some ⟨ob, 0, none⟩))
            simp only [List.set_cons_zero, List.set_cons_succ] at hb12
            have hR12 := hR11.keep (set_block w9 ⟨b, 3, none⟩ (.pointer (some ⟨ob, 0, none⟩)) (pb + 1) (fun e => hne e.symm))
            have hP12 := hP11.keep (set_block w9 ⟨b, 3, none⟩ (.pointer (some ⟨ob, 0, none⟩)) pb (fun e => hnpb e.symm))
            have hbx12 := hbx.keep (set_block w9 ⟨b, 3, none⟩ (.pointer (some ⟨ob, 0, none⟩)) ob (fun e => hneo e.symm))
            have hobt12 := hobt.keep (set_block w9 ⟨b, 3, none⟩ (.pointer (some ⟨ob, 0, none⟩)) ob (fun e => hneo e.symm))
            have hown12 := hown.kg ((Kg.refl w9 b).set (p := ⟨b, 3, none⟩) (.inl rfl) (.pointer (some ⟨ob, 0, none⟩))) (by omega)
            have kg12 := kg11.set (p := ⟨b, 3, none⟩) (.inl rfl) (.pointer (some ⟨ob, 0, none⟩))
            have hz12 := set_size w9 ⟨b, 3, none⟩ (.pointer (some ⟨ob, 0, none⟩))
            go_upto_region 7 with (fail)
            generalize w9.setCell ⟨b, 3, none⟩ (.pointer (some ⟨ob, 0, none⟩)) = w12 at *
            have p0 := hP12.cell (j := 0) rfl
            have q1 := hP12.cell (j := 1) rfl
            have q2 := hP12.cell (j := 2) rfl
            have q3 := hP12.cell (j := 3) rfl
            have c2 := hb12.cell (j := 2) rfl
            refine G2.wp_region_growT Kp [] 8 64 (G2.pvL [G2.eqv (.pointer (some ⟨b, 0, none⟩)), G2.eqv (.pointer (some ⟨b, 0, none⟩)), G2.eqv (.pointer (some ⟨b, 2, none⟩)), G2.eqv (.int .i64 m1), G2.eqv (.agg #[.int .i64 p1, .int .i64 p2, .int .i64 p3, .int .i64 p4]), G2.eqv (.slice A m.length c), (G2.retOwn encNd 41 4 w12.heap.size m), (askP m1 p1 p2 p3 p4 w12.heap.size m)]) (by kernel_rfl) (by kernel_rfl) rfl (fun x => Kp.refl x) (fun _ _ _ h k => h.trans k) (Kp.refl _).drew (fun _ _ _ _ _ h => h) (G2.pvL_keep (G2.stabL_cons (G2.stab_eq _) (G2.stabL_cons (G2.stab_eq _) (G2.stabL_cons (G2.stab_eq _) (G2.stabL_cons (G2.stab_eq _) (G2.stabL_cons (G2.stab_eq _) (G2.stabL_cons (G2.stab_eq _) (G2.stabL_cons (G2.stab_own _ _ _ _ _) (G2.stabL_cons (stab_askP _ _ _ _ _ _ _) (G2.stabL_nil)))))))))) (G2.stepsT_cons 0 ?_ (G2.stepsT_cons 1 ?_ (G2.stepsT_cons 2 ?_ (G2.stepsT_cons 3 ?_ (G2.stepsT_cons 4 ?_ (G2.stepsT_cons 5 ?_ (G2.stepsT_cons 6 ?_ (G2.stepsT_cons 7 ?_ (G2.stepsT_nil _ _ _))))))))) ?_ ?_
            · intro a w' hk hF hD K hK
              have h0 : a.tmps[0]?.getD undef = .pointer (some ⟨b, 0, none⟩) := hF 0 (by kernel_rfl)
              clear hF hD
              go_simp
              exact hK.out _ _ (Kp.refl _) rfl
            · intro a w' hk hF hD K hK
              have h56 : a.tmps[56]?.getD undef = .pointer (some ⟨b, 0, none⟩) := hD 0 (by kernel_rfl)
              clear hF hD
              go_simp
              exact hK.out _ _ (Kp.refl _) rfl
            · intro a w' hk hF hD K hK
              have h57 : a.tmps[57]?.getD undef = .pointer (some ⟨b, 0, none⟩) := hD 1 (by kernel_rfl)
              clear hF hD
              go_simp
              exact hK.out _ _ (Kp.refl _) rfl
            · intro a w' hk hF hD K hK
              have h58 : a.tmps[58]?.getD undef = .pointer (some ⟨b, 2, none⟩) := hD 2 (by kernel_rfl)
              clear hF hD
              have z0 := hk.cellS c2
              go_simp
              exact hK.out _ _ (Kp.refl _) rfl
            · intro a w' hk hF hD K hK
              have h5 : a.tmps[5]?.getD undef = .pointer (some ⟨pb, 0, none⟩) := hF 5 (by kernel_rfl)
              clear hF hD
              have z0 := hk.cellS p0
              have z1 := hk.cellS q1
              have z2 := hk.cellS q2
              have z3 := hk.cellS q3
              go_simp
              exact hK.out _ _ (Kp.refl _) rfl
            · intro a w' hk hF hD K hK
              have h2 : a.tmps[2]?.getD undef = .slice A m.length c := hF 2 (by kernel_rfl)
              clear hF hD
              go_simp
              exact hK.out _ _ (Kp.refl _) rfl
            · intro a w' hk hF hD K hK
              have h61 : a.tmps[61]?.getD undef = .slice A m.length c := hD 5 (by kernel_rfl)
              clear hF hD
              go_simp
              refine (CloneNd_any _ m _ (OwS.kg HM.out (kg12.kp hk) hsb).here (by omega)).mono ?_
              rintro e w9 ⟨v9, rfl, own9, hk9⟩
              exact hK.out _ _ hk9 (own9.less hk.size)
            · intro a w' hk hF hD K hK
              have h59 : a.tmps[59]?.getD undef = .int .i64 m1 := hD 3 (by kernel_rfl)
              have h60 : a.tmps[60]?.getD undef = .agg #[.int .i64 p1, .int .i64 p2, .int .i64 p3, .int .i64 p4] := hD 4 (by kernel_rfl)
              have h62 : (G2.retOwn encNd 41 4 w12.heap.size m) (a.tmps[62]?.getD undef) w' := hD 6 (by kernel_rfl)
              clear hF hD
              obtain ⟨u, hu⟩ : ∃ u, a.tmps[62]?.getD undef = u := ⟨_, rfl⟩
              rw [hu] at h62
              obtain ⟨A5, c5, rfl, -, -⟩ := Own.form h62
              go_simp
              exact hK.out _ _ (Kp.refl _) ⟨_, rfl, h62⟩
            · exact fun i0 hi0 => by simp at hi0
            intro v w9 k9 hv
            have v7 : (askP m1 p1 p2 p3 p4 w12.heap.size m) (v 7) w9 := hv 7 (by omega)
            clear hv
            obtain ⟨u2, e7', hown2⟩ := v7
            simp only [G2.growPut, G2.gSlot, List.getElem?_toArray, List.getElem?_cons_zero, List.getElem?_cons_succ, Option.bind_some, List.setIfInBounds_toArray, List.set_cons_zero, List.set_cons_succ, List.drop_succ_cons, List.drop_zero, e7']
            have hb13 := hb12.kp k9 (by omega)
            have hR13 := hR12.keep (k9.block (by omega))
            have hbx13 := hbx12.keep (k9.block (by omega))
            have hown13 := hown12.kp k9
            have hobt13 := hobt12.keep (k9.block (by omega))
            have kg13 := kg12.kp k9
            obtain ⟨A2, c2', rfl, -, -⟩ := hown2.form
            clear hb11 hR11 hP11 hb12 hR12 hP12 hbx hbx12 hown hown12 kg11 kg12 p0 q1 q2 q3 c2 c3 f3
            go_wp2_with (refine wpList_store_mid rfl 29 (.tmp 8) (.tmp 63) rfl (pb + 1) 0 #[.int .i64 m1, .int .i64 p1, .int .i64 p2, .int .i64 p3, .int .i64 p4, .slice A2 m.length c2'] rfl rfl hR13.there (by kernel_rfl) (all_oneCell_toArray (by simp [Value.oneCell'])) ?_)
            try simp only [Exit.inBlock, Exit.then]
            have hRa := hR13.all (cs := [.int .i64 m1, .int .i64 p1, .int .i64 p2, .int .i64 p3, .int .i64 p4, .slice A2 m.length c2']) (by rfl)
            refine bodyPost_ret (results_cell_bx2 rfl _ _ (pb + 1) _ _ rfl hRa.range Try.underlying29 rfl (by kernel_rfl)) rfl ?_
            have hpz := HPB.out
            have kgf := Kg.setCells (g := pb + 1) (.inr (by omega)) [.int .i64 m1, .int .i64 p1, .int .i64 p2, .int .i64 p3, .int .i64 p4, .slice A2 m.length c2'] 0 kg13
            have hbf := hb13.keep (setCells_block (pb + 1) b hne [.int .i64 m1, .int .i64 p1, .int .i64 p2, .int .i64 p3, .int .i64 p4, .slice A2 m.length c2'] 0 w9)
            have hbxf := hbx13.keep (setCells_block (pb + 1) ob (by omega) [.int .i64 m1, .int .i64 p1, .int .i64 p2, .int .i64 p3, .int .i64 p4, .slice A2 m.length c2'] 0 w9)
            have kR := Kg.setCells (g := pb + 1) (.inl rfl) [.int .i64 m1, .int .i64 p1, .int .i64 p2, .int .i64 p3, .int .i64 p4, .slice A2 m.length c2'] 0 (Kg.refl w9 (pb + 1))
            have hownf := hown13.kg kR (by omega)
            have hobtf := hobt13.keep (setCells_block (pb + 1) ob (by omega) [.int .i64 m1, .int .i64 p1, .int .i64 p2, .int .i64 p3, .int .i64 p4, .slice A2 m.length c2'] 0 w9)
            have hown2f := hown2.kg kR (by omega)
            refine ⟨_, rfl, hown2f.less (by omega), fun T h1 h2 h3 h4 => (HH.out.to (fun k hk hs => h1 k hk hs) h3 h4).box' kgf hbf ⟨ob, u, rfl, h2 _ (by omega) hobtf.nask, hbxf, (OwS.imp hownf.owS fun _ h' => h'.sl encNd_len).mono fun k hk => h2 k (by have := hownf.ge k hk; omega) (own_nask hownf hk)⟩ rfl ⟨HH.out.ok.n1, HH.out.ok.i1, by dsimp only; omega, ?_, HH.out.ok.key⟩, kgf.fx (.inl (.inl rfl))⟩
            intro p' l' hpl
            simp only [Option.some.injEq, Prod.mk.injEq] at hpl
            obtain ⟨hp1, rfl⟩ := hpl
            rw [← hp1]
            exact HV.out
        · replace h4 := eq_false_of_ne_true h4
          obtain rfl : r = (s, zAk, 1) := by rw [← HRq.out, request, if_pos (by simp [h1, h2, h3, h4])]
          replace h2 := hid h2
          refine G2.wp_region_growT Kp [] 22 64 (G2.pvL [G2.eqv (.agg #[.int .i64 p1, .int .i64 p2, .int .i64 p3, .int .i64 p4]), G2.eqv (.pointer (some ⟨b, 0, none⟩)), G2.eqv (.pointer (some ⟨b, 0, none⟩)), G2.eqv (.pointer (some ⟨b, 1, none⟩)), G2.eqv (.int .i64 s.i), G2.eqv (.bool true), G2.eqv (.bool false), G2.eqv (.bool false), G2.eqv (.slice A m.length c), G2.eqv (.int .i64 (m.length : Int)), G2.eqv (.bool false), G2.eqv (.bool false), G2.eqv (.bool false), G2.eqv (.slice A m.length c), G2.eqv (.bool true), G2.eqv (.bool false), G2.eqv (.bool false), G2.eqv (.bool false), G2.eqv (.slice A' l.length c'), G2.eqv (.bool false), G2.eqv (.bool true), G2.eqv (.bool true)]) (by kernel_rfl) (by kernel_rfl) rfl (fun x => Kp.refl x) (fun _ _ _ h k => h.trans k) (Kp.refl _).drew (fun _ _ _ _ _ h => h) (G2.pvL_keep (G2.stabL_cons (G2.stab_eq _) (G2.stabL_cons (G2.stab_eq _) (G2.stabL_cons (G2.stab_eq _) (G2.stabL_cons (G2.stab_eq _) (G2.stabL_cons (G2.stab_eq _) (G2.stabL_cons (G2.stab_eq _) (G2.stabL_cons (G2.stab_eq _) (G2.stabL_cons (G2.stab_eq _) (G2.stabL_cons (G2.stab_eq _) (G2.stabL_cons (G2.stab_eq _) (G2.stabL_cons (G2.stab_eq _) (G2.stabL_cons (G2.stab_eq _) (G2.stabL_cons (G2.stab_eq _) (G2.stabL_cons (G2.stab_eq _) (G2.stabL_cons (G2.stab_eq _) (G2.stabL_cons (G2.stab_eq _) (G2.stabL_cons (G2.stab_eq _) (G2.stabL_cons (G2.stab_eq _) (G2.stabL_cons (G2.stab_eq _) (G2.stabL_cons (G2.stab_eq _) (G2.stabL_cons (G2.stab_eq _) (G2.stabL_cons (G2.stab_eq _) (G2.stabL_nil)))))))))))))))))))))))) (G2.stepsT_cons 0 ?_ (G2.stepsT_cons 1 ?_ (G2.stepsT_cons 2 ?_ (G2.stepsT_cons 3 ?_ (G2.stepsT_cons 4 ?_ (G2.stepsT_cons 5 ?_ (G2.stepsT_cons 6 ?_ (G2.stepsT_cons 7 ?_ (G2.stepsT_cons 8 ?_ (G2.stepsT_cons 9 ?_ (G2.stepsT_cons 10 ?_ (G2.stepsT_cons 11 ?_ (G2.stepsT_cons 12 ?_ (G2.stepsT_cons 13 ?_ (G2.stepsT_cons 14 ?_ (G2.stepsT_cons 15 ?_ (G2.stepsT_cons 16 ?_ (G2.stepsT_cons 17 ?_ (G2.stepsT_cons 18 ?_ (G2.stepsT_cons 19 ?_ (G2.stepsT_cons 20 ?_ (G2.stepsT_cons 21 ?_ (G2.stepsT_nil _ _ _))))))))))))))))))))))) ?_ ?_
          · intro a w' hk hF hD K hK
            have h5 : a.tmps[5]?.getD undef = .pointer (some ⟨pb, 0, none⟩) := hF 5 (by kernel_rfl)
            clear hF hD
            have z0 := hk.cellS p0
            have z1 := hk.cellS q1
            have z2 := hk.cellS q2
            have z3 := hk.cellS q3
            go_simp
            exact hK.out _ _ (Kp.refl _) rfl
          · intro a w' hk hF hD K hK
            have h0 : a.tmps[0]?.getD undef = .pointer (some ⟨b, 0, none⟩) := hF 0 (by kernel_rfl)
            clear hF hD
            go_simp
            exact hK.out _ _ (Kp.refl _) rfl
          · intro a w' hk hF hD K hK
            have h12 : a.tmps[12]?.getD undef = .pointer (some ⟨b, 0, none⟩) := hD 1 (by kernel_rfl)
            clear hF hD
            go_simp
            exact hK.out _ _ (Kp.refl _) rfl
          · intro a w' hk hF hD K hK
            have h13 : a.tmps[13]?.getD undef = .pointer (some ⟨b, 0, none⟩) := hD 2 (by kernel_rfl)
            clear hF hD
            go_simp
            exact hK.out _ _ (Kp.refl _) rfl
          · intro a w' hk hF hD K hK
            have h14 : a.tmps[14]?.getD undef = .pointer (some ⟨b, 1, none⟩) := hD 3 (by kernel_rfl)
            clear hF hD
            have z1 := hk.cellS c1
            go_simp
            exact hK.out _ _ (Kp.refl _) rfl
          · intro a w' hk hF hD K hK
            have h11 : a.tmps[11]?.getD undef = .agg #[.int .i64 p1, .int .i64 p2, .int .i64 p3, .int .i64 p4] := hD 0 (by kernel_rfl)
            have h15 : a.tmps[15]?.getD undef = .int .i64 s.i := hD 4 (by kernel_rfl)
            clear hF hD
            go_simp
            refine (bOf_any (p1, p2, p3, p4) s.i _).mono ?_
            rintro e w9 ⟨rfl, hk9⟩
            rw [h1]
            exact hK.out _ _ hk9 rfl
          · intro a w' hk hF hD K hK
            have h16 : a.tmps[16]?.getD undef = .bool true := hD 5 (by kernel_rfl)
            clear hF hD
            go_simp
            exact hK.out _ _ (Kp.refl _) rfl
          · intro a w' hk hF hD K hK
            have h17 : a.tmps[17]?.getD undef = .bool false := hD 6 (by kernel_rfl)
            clear hF hD
            go_simp
            exact hK.out _ _ (Kp.refl _) rfl
          · intro a w' hk hF hD K hK
            have h2 : a.tmps[2]?.getD undef = .slice A m.length c := hF 2 (by kernel_rfl)
            have h18 : a.tmps[18]?.getD undef = .bool false := hD 7 (by kernel_rfl)
            have g18 := guard_get h18
            clear hF hD
            go_simp
            exact hK.out _ _ (Kp.refl _) rfl
          · intro a w' hk hF hD K hK
            have h19 : a.tmps[19]?.getD undef = .slice A m.length c := hD 8 (by kernel_rfl)
            have h18 : a.tmps[18]?.getD undef = .bool false := hD 7 (by kernel_rfl)
            have g18 := guard_get h18
            clear hF hD
            go_simp
            exact hK.out _ _ (Kp.refl _) rfl
          · intro a w' hk hF hD K hK
            have h20 : a.tmps[20]?.getD undef = .int .i64 (m.length : Int) := hD 9 (by kernel_rfl)
            have h18 : a.tmps[18]?.getD undef = .bool false := hD 7 (by kernel_rfl)
            have g18 := guard_get h18
            clear hF hD
            go_simp
            exact hK.out _ _ (Kp.refl _) rfl
          · intro a w' hk hF hD K hK
            have h18 : a.tmps[18]?.getD undef = .bool false := hD 7 (by kernel_rfl)
            have h21 : a.tmps[21]?.getD undef = .bool false := hD 10 (by kernel_rfl)
            clear hF hD
            go_simp
            exact hK.out _ _ (Kp.refl _) rfl
          · intro a w' hk hF hD K hK
            have h22 : a.tmps[22]?.getD undef = .bool false := hD 11 (by kernel_rfl)
            clear hF hD
            go_simp
            exact hK.out _ _ (Kp.refl _) rfl
          · intro a w' hk hF hD K hK
            have h2 : a.tmps[2]?.getD undef = .slice A m.length c := hF 2 (by kernel_rfl)
            have h23 : a.tmps[23]?.getD undef = .bool false := hD 12 (by kernel_rfl)
            have g23 := guard_get h23
            clear hF hD
            go_simp
            exact hK.out _ _ (Kp.refl _) rfl
          · intro a w' hk hF hD K hK
            have h24 : a.tmps[24]?.getD undef = .slice A m.length c := hD 13 (by kernel_rfl)
            have h23 : a.tmps[23]?.getD undef = .bool false := hD 12 (by kernel_rfl)
            have g23 := guard_get h23
            clear hF hD
            go_simp
            refine (bValid_any _ m _ (HM.out.here.keep (pl_stable _) (k0.trans hk))).mono ?_
            rintro e w9 ⟨rfl, hk9⟩
            rw [h3]
            exact hK.out _ _ hk9 rfl
          · intro a w' hk hF hD K hK
            have h25 : a.tmps[25]?.getD undef = .bool true := hD 14 (by kernel_rfl)
            have h23 : a.tmps[23]?.getD undef = .bool false := hD 12 (by kernel_rfl)
            have g23 := guard_get h23
            clear hF hD
            go_simp
            exact hK.out _ _ (Kp.refl _) rfl
          · intro a w' hk hF hD K hK
            have h23 : a.tmps[23]?.getD undef = .bool false := hD 12 (by kernel_rfl)
            have h26 : a.tmps[26]?.getD undef = .bool false := hD 15 (by kernel_rfl)
            clear hF hD
            go_simp
            exact hK.out _ _ (Kp.refl _) rfl
          · intro a w' hk hF hD K hK
            have h27 : a.tmps[27]?.getD undef = .bool false := hD 16 (by kernel_rfl)
            clear hF hD
            go_simp
            exact hK.out _ _ (Kp.refl _) rfl
          · intro a w' hk hF hD K hK
            have h3 : a.tmps[3]?.getD undef = .slice A' l.length c' := hF 3 (by kernel_rfl)
            have h28 : a.tmps[28]?.getD undef = .bool false := hD 17 (by kernel_rfl)
            have g28 := guard_get h28
            clear hF hD
            go_simp
            exact hK.out _ _ (Kp.refl _) rfl
          · intro a w' hk hF hD K hK
            have h29 : a.tmps[29]?.getD undef = .slice A' l.length c' := hD 18 (by kernel_rfl)
            have h28 : a.tmps[28]?.getD undef = .bool false := hD 17 (by kernel_rfl)
            have g28 := guard_get h28
            clear hF hD
            go_simp
            refine (bValid_any _ l _ (HA.out.here.keep (pl_stable _) (k0.trans hk))).mono ?_
            rintro e w9 ⟨rfl, hk9⟩
            rw [h4]
            exact hK.out _ _ hk9 rfl
          · intro a w' hk hF hD K hK
            have h30 : a.tmps[30]?.getD undef = .bool false := hD 19 (by kernel_rfl)
            have h28 : a.tmps[28]?.getD undef = .bool false := hD 17 (by kernel_rfl)
            have g28 := guard_get h28
            clear hF hD
            go_simp
            exact hK.out _ _ (Kp.refl _) rfl
          · intro a w' hk hF hD K hK
            have h28 : a.tmps[28]?.getD undef = .bool false := hD 17 (by kernel_rfl)
            have h31 : a.tmps[31]?.getD undef = .bool true := hD 20 (by kernel_rfl)
            clear hF hD
            go_simp
            exact hK.out _ _ (Kp.refl _) rfl
          · exact fun i0 hi0 => by simp at hi0
          intro v w9 k9 hv
          have v21 : v 21 = .bool true := hv 21 (by omega)
          clear hv
          simp only [G2.growPut, G2.gSlot, List.getElem?_toArray, List.getElem?_cons_zero, List.getElem?_cons_succ, Option.bind_some, List.setIfInBounds_toArray, List.set_cons_zero, List.set_cons_succ, List.drop_succ_cons, List.drop_zero, v21]
          have hR9 := hR.keep (k9.block hrb)
          have k09 := k0.trans k9
          go_wp2_with (refine wpList_store_mid rfl 29 (.tmp 8) (.tmp 33) rfl (pb + 1) 0 #[.int .i64 0, .int .i64 0, .int .i64 0, .int .i64 0, .int .i64 0, .slice none 0 0] rfl rfl hR9.there (by kernel_rfl) (all_oneCell_toArray (by simp [Value.oneCell'])) ?_)
          try simp only [Exit.inBlock, Exit.then]
          have hRa := hR9.all (cs := [.int .i64 0, .int .i64 0, .int .i64 0, .int .i64 0, .int .i64 0, .slice none 0 0]) (by rfl)
          refine bodyPost_ret (results_cell_bx2 rfl _ _ (pb + 1) _ _ rfl hRa.range Try.underlying29 rfl (by kernel_rfl)) rfl ?_
          have hk := Kp.setCells (a := w) (b := pb + 1) (by have := HPB.out; omega) [.int .i64 0, .int .i64 0, .int .i64 0, .int .i64 0, .int .i64 0, .slice none 0 0] 0 w9 k09
          refine ⟨.slice none 0 0, rfl, Own.nil _ _ _ _ _, fun T h1 _ h3 h4 => (HH.out.to (fun k hk hs => h1 k hk hs) h3 h4).kp hk, hk.fx _⟩
      · replace h3 := eq_false_of_ne_true h3
        obtain rfl : r = (s, zAk, 1) := by rw [← HRq.out, request, if_pos (by simp [h1, h2, h3])]
        replace h2 := hid h2
        refine G2.wp_region_growT Kp [] 22 64 (G2.pvL [G2.eqv (.agg #[.int .i64 p1, .int .i64 p2, .int .i64 p3, .int .i64 p4]), G2.eqv (.pointer (some ⟨b, 0, none⟩)), G2.eqv (.pointer (some ⟨b, 0, none⟩)), G2.eqv (.pointer (some ⟨b, 1, none⟩)), G2.eqv (.int .i64 s.i), G2.eqv (.bool true), G2.eqv (.bool false), G2.eqv (.bool false), G2.eqv (.slice A m.length c), G2.eqv (.int .i64 (m.length : Int)), G2.eqv (.bool false), G2.eqv (.bool false), G2.eqv (.bool false), G2.eqv (.slice A m.length c), G2.eqv (.bool false), G2.eqv (.bool true), G2.eqv (.bool true), G2.eqv (.bool true), G2.eqv (undef), G2.eqv (undef), G2.eqv (undef), G2.eqv (.bool true)]) (by kernel_rfl) (by kernel_rfl) rfl (fun x => Kp.refl x) (fun _ _ _ h k => h.trans k) (Kp.refl _).drew (fun _ _ _ _ _ h => h) (G2.pvL_keep (G2.stabL_cons (G2.stab_eq _) (G2.stabL_cons (G2.stab_eq _) (G2.stabL_cons (G2.stab_eq _) (G2.stabL_cons (G2.stab_eq _) (G2.stabL_cons (G2.stab_eq _) (G2.stabL_cons (G2.stab_eq _) (G2.stabL_cons (G2.stab_eq _) (G2.stabL_cons (G2.stab_eq _) (G2.stabL_cons (G2.stab_eq _) (G2.stabL_cons (G2.stab_eq _) (G2.stabL_cons (G2.stab_eq _) (G2.stabL_cons (G2.stab_eq _) (G2.stabL_cons (G2.stab_eq _) (G2.stabL_cons (G2.stab_eq _) (G2.stabL_cons (G2.stab_eq _) (G2.stabL_cons (G2.stab_eq _) (G2.stabL_cons (G2.stab_eq _) (G2.stabL_cons (G2.stab_eq _) (G2.stabL_cons (G2.stab_eq _) (G2.stabL_cons (G2.stab_eq _) (G2.stabL_cons (G2.stab_eq _) (G2.stabL_cons (G2.stab_eq _) (G2.stabL_nil)))))))))))))))))))))))) (G2.stepsT_cons 0 ?_ (G2.stepsT_cons 1 ?_ (G2.stepsT_cons 2 ?_ (G2.stepsT_cons 3 ?_ (G2.stepsT_cons 4 ?_ (G2.stepsT_cons 5 ?_ (G2.stepsT_cons 6 ?_ (G2.stepsT_cons 7 ?_ (G2.stepsT_cons 8 ?_ (G2.stepsT_cons 9 ?_ (G2.stepsT_cons 10 ?_ (G2.stepsT_cons 11 ?_ (G2.stepsT_cons 12 ?_ (G2.stepsT_cons 13 ?_ (G2.stepsT_cons 14 ?_ (G2.stepsT_cons 15 ?_ (G2.stepsT_cons 16 ?_ (G2.stepsT_cons 17 ?_ (G2.stepsT_cons 18 ?_ (G2.stepsT_cons 19 ?_ (G2.stepsT_cons 20 ?_ (G2.stepsT_cons 21 ?_ (G2.stepsT_nil _ _ _))))))))))))))))))))))) ?_ ?_
        · intro a w' hk hF hD K hK
          have h5 : a.tmps[5]?.getD undef = .pointer (some ⟨pb, 0, none⟩) := hF 5 (by kernel_rfl)
          clear hF hD
          have z0 := hk.cellS p0
          have z1 := hk.cellS q1
          have z2 := hk.cellS q2
          have z3 := hk.cellS q3
          go_simp
          exact hK.out _ _ (Kp.refl _) rfl
        · intro a w' hk hF hD K hK
          have h0 : a.tmps[0]?.getD undef = .pointer (some ⟨b, 0, none⟩) := hF 0 (by kernel_rfl)
          clear hF hD
          go_simp
          exact hK.out _ _ (Kp.refl _) rfl
        · intro a w' hk hF hD K hK
          have h12 : a.tmps[12]?.getD undef = .pointer (some ⟨b, 0, none⟩) := hD 1 (by kernel_rfl)
          clear hF hD
          go_simp
          exact hK.out _ _ (Kp.refl _) rfl
        · intro a w' hk hF hD K hK
          have h13 : a.tmps[13]?.getD undef = .pointer (some ⟨b, 0, none⟩) := hD 2 (by kernel_rfl)
          clear hF hD
          go_simp
          exact hK.out _ _ (Kp.refl _) rfl
        · intro a w' hk hF hD K hK
          have h14 : a.tmps[14]?.getD undef = .pointer (some ⟨b, 1, none⟩) := hD 3 (by kernel_rfl)
          clear hF hD
          have z1 := hk.cellS c1
          go_simp
          exact hK.out _ _ (Kp.refl _) rfl
        · intro a w' hk hF hD K hK
          have h11 : a.tmps[11]?.getD undef = .agg #[.int .i64 p1, .int .i64 p2, .int .i64 p3, .int .i64 p4] := hD 0 (by kernel_rfl)
          have h15 : a.tmps[15]?.getD undef = .int .i64 s.i := hD 4 (by kernel_rfl)
          clear hF hD
          go_simp
          refine (bOf_any (p1, p2, p3, p4) s.i _).mono ?_
          rintro e w9 ⟨rfl, hk9⟩
          rw [h1]
          exact hK.out _ _ hk9 rfl
        · intro a w' hk hF hD K hK
          have h16 : a.tmps[16]?.getD undef = .bool true := hD 5 (by kernel_rfl)
          clear hF hD
          go_simp
          exact hK.out _ _ (Kp.refl _) rfl
        · intro a w' hk hF hD K hK
          have h17 : a.tmps[17]?.getD undef = .bool false := hD 6 (by kernel_rfl)
          clear hF hD
          go_simp
          exact hK.out _ _ (Kp.refl _) rfl
        · intro a w' hk hF hD K hK
          have h2 : a.tmps[2]?.getD undef = .slice A m.length c := hF 2 (by kernel_rfl)
          have h18 : a.tmps[18]?.getD undef = .bool false := hD 7 (by kernel_rfl)
          have g18 := guard_get h18
          clear hF hD
          go_simp
          exact hK.out _ _ (Kp.refl _) rfl
        · intro a w' hk hF hD K hK
          have h19 : a.tmps[19]?.getD undef = .slice A m.length c := hD 8 (by kernel_rfl)
          have h18 : a.tmps[18]?.getD undef = .bool false := hD 7 (by kernel_rfl)
          have g18 := guard_get h18
          clear hF hD
          go_simp
          exact hK.out _ _ (Kp.refl _) rfl
        · intro a w' hk hF hD K hK
          have h20 : a.tmps[20]?.getD undef = .int .i64 (m.length : Int) := hD 9 (by kernel_rfl)
          have h18 : a.tmps[18]?.getD undef = .bool false := hD 7 (by kernel_rfl)
          have g18 := guard_get h18
          clear hF hD
          go_simp
          exact hK.out _ _ (Kp.refl _) rfl
        · intro a w' hk hF hD K hK
          have h18 : a.tmps[18]?.getD undef = .bool false := hD 7 (by kernel_rfl)
          have h21 : a.tmps[21]?.getD undef = .bool false := hD 10 (by kernel_rfl)
          clear hF hD
          go_simp
          exact hK.out _ _ (Kp.refl _) rfl
        · intro a w' hk hF hD K hK
          have h22 : a.tmps[22]?.getD undef = .bool false := hD 11 (by kernel_rfl)
          clear hF hD
          go_simp
          exact hK.out _ _ (Kp.refl _) rfl
        · intro a w' hk hF hD K hK
          have h2 : a.tmps[2]?.getD undef = .slice A m.length c := hF 2 (by kernel_rfl)
          have h23 : a.tmps[23]?.getD undef = .bool false := hD 12 (by kernel_rfl)
          have g23 := guard_get h23
          clear hF hD
          go_simp
          exact hK.out _ _ (Kp.refl _) rfl
        · intro a w' hk hF hD K hK
          have h24 : a.tmps[24]?.getD undef = .slice A m.length c := hD 13 (by kernel_rfl)
          have h23 : a.tmps[23]?.getD undef = .bool false := hD 12 (by kernel_rfl)
          have g23 := guard_get h23
          clear hF hD
          go_simp
          refine (bValid_any _ m _ (HM.out.here.keep (pl_stable _) (k0.trans hk))).mono ?_
          rintro e w9 ⟨rfl, hk9⟩
          rw [h3]
          exact hK.out _ _ hk9 rfl
        · intro a w' hk hF hD K hK
          have h25 : a.tmps[25]?.getD undef = .bool false := hD 14 (by kernel_rfl)
          have h23 : a.tmps[23]?.getD undef = .bool false := hD 12 (by kernel_rfl)
          have g23 := guard_get h23
          clear hF hD
          go_simp
          exact hK.out _ _ (Kp.refl _) rfl
        · intro a w' hk hF hD K hK
          have h23 : a.tmps[23]?.getD undef = .bool false := hD 12 (by kernel_rfl)
          have h26 : a.tmps[26]?.getD undef = .bool true := hD 15 (by kernel_rfl)
          clear hF hD
          go_simp
          exact hK.out _ _ (Kp.refl _) rfl
        · intro a w' hk hF hD K hK
          have h27 : a.tmps[27]?.getD undef = .bool true := hD 16 (by kernel_rfl)
          clear hF hD
          go_simp
          exact hK.out _ _ (Kp.refl _) rfl
        · intro a w' hk hF hD K hK
          have h3 : a.tmps[3]?.getD undef = .slice A' l.length c' := hF 3 (by kernel_rfl)
          have h28 : a.tmps[28]?.getD undef = .bool true := hD 17 (by kernel_rfl)
          have g28 := guard_get h28
          clear hF hD
          go_simp
          exact hK.out _ _ (Kp.refl _) rfl
        · intro a w' hk hF hD K hK
          have h29 : a.tmps[29]?.getD undef = undef := hD 18 (by kernel_rfl)
          have h28 : a.tmps[28]?.getD undef = .bool true := hD 17 (by kernel_rfl)
          have g28 := guard_get h28
          clear hF hD
          go_simp
          exact hK.out _ _ (Kp.refl _) rfl
        · intro a w' hk hF hD K hK
          have h30 : a.tmps[30]?.getD undef = undef := hD 19 (by kernel_rfl)
          have h28 : a.tmps[28]?.getD undef = .bool true := hD 17 (by kernel_rfl)
          have g28 := guard_get h28
          clear hF hD
          go_simp
          exact hK.out _ _ (Kp.refl _) rfl
        · intro a w' hk hF hD K hK
          have h28 : a.tmps[28]?.getD undef = .bool true := hD 17 (by kernel_rfl)
          have h31 : a.tmps[31]?.getD undef = undef := hD 20 (by kernel_rfl)
          clear hF hD
          go_simp
          exact hK.out _ _ (Kp.refl _) rfl
        · exact fun i0 hi0 => by simp at hi0
        intro v w9 k9 hv
        have v21 : v 21 = .bool true := hv 21 (by omega)
        clear hv
        simp only [G2.growPut, G2.gSlot, List.getElem?_toArray, List.getElem?_cons_zero, List.getElem?_cons_succ, Option.bind_some, List.setIfInBounds_toArray, List.set_cons_zero, List.set_cons_succ, List.drop_succ_cons, List.drop_zero, v21]
        have hR9 := hR.keep (k9.block hrb)
        have k09 := k0.trans k9
        go_wp2_with (refine wpList_store_mid rfl 29 (.tmp 8) (.tmp 33) rfl (pb + 1) 0 #[.int .i64 0, .int .i64 0, .int .i64 0, .int .i64 0, .int .i64 0, .slice none 0 0] rfl rfl hR9.there (by kernel_rfl) (all_oneCell_toArray (by simp [Value.oneCell'])) ?_)
        try simp only [Exit.inBlock, Exit.then]
        have hRa := hR9.all (cs := [.int .i64 0, .int .i64 0, .int .i64 0, .int .i64 0, .int .i64 0, .slice none 0 0]) (by rfl)
        refine bodyPost_ret (results_cell_bx2 rfl _ _ (pb + 1) _ _ rfl hRa.range Try.underlying29 rfl (by kernel_rfl)) rfl ?_
        have hk := Kp.setCells (a := w) (b := pb + 1) (by have := HPB.out; omega) [.int .i64 0, .int .i64 0, .int .i64 0, .int .i64 0, .int .i64 0, .slice none 0 0] 0 w9 k09
        refine ⟨.slice none 0 0, rfl, Own.nil _ _ _ _ _, fun T h1 _ h3 h4 => (HH.out.to (fun k hk hs => h1 k hk hs) h3 h4).kp hk, hk.fx _⟩
  · replace h1 := eq_false_of_ne_true h1
    obtain rfl : r = (s, zAk, 1) := by rw [← HRq.out, request, if_pos (by simp [h1])]
    refine G2.wp_region_growT Kp [] 22 64 (G2.pvL [G2.eqv (.agg #[.int .i64 p1, .int .i64 p2, .int .i64 p3, .int .i64 p4]), G2.eqv (.pointer (some ⟨b, 0, none⟩)), G2.eqv (.pointer (some ⟨b, 0, none⟩)), G2.eqv (.pointer (some ⟨b, 1, none⟩)), G2.eqv (.int .i64 s.i), G2.eqv (.bool false), G2.eqv (.bool true), G2.eqv (.bool true), G2.eqv (undef), G2.eqv (undef), G2.eqv (undef), G2.eqv (.bool true), G2.eqv (.bool true), G2.eqv (undef), G2.eqv (undef), G2.eqv (undef), G2.eqv (.bool true), G2.eqv (.bool true), G2.eqv (undef), G2.eqv (undef), G2.eqv (undef), G2.eqv (.bool true)]) (by kernel_rfl) (by kernel_rfl) rfl (fun x => Kp.refl x) (fun _ _ _ h k => h.trans k) (Kp.refl _).drew (fun _ _ _ _ _ h => h) (G2.pvL_keep (G2.stabL_cons (G2.stab_eq _) (G2.stabL_cons (G2.stab_eq _) (G2.stabL_cons (G2.stab_eq _) (G2.stabL_cons (G2.stab_eq _) (G2.stabL_cons (G2.stab_eq _) (G2.stabL_cons (G2.stab_eq _) (G2.stabL_cons (G2.stab_eq _) (G2.stabL_cons (G2.stab_eq _) (G2.stabL_cons (G2.stab_eq _) (G2.stabL_cons (G2.stab_eq _) (G2.stabL_cons (G2.stab_eq _) (G2.stabL_cons (G2.stab_eq _) (G2.stabL_cons (G2.stab_eq _) (G2.stabL_cons (G2.stab_eq _) (G2.stabL_cons (G2.stab_eq _) (G2.stabL_cons (G2.stab_eq _) (G2.stabL_cons (G2.stab_eq _) (G2.stabL_cons (G2.stab_eq _) (G2.stabL_cons (G2.stab_eq _) (G2.stabL_cons (G2.stab_eq _) (G2.stabL_cons (G2.stab_eq _) (G2.stabL_cons (G2.stab_eq _) (G2.stabL_nil)))))))))))))))))))))))) (G2.stepsT_cons 0 ?_ (G2.stepsT_cons 1 ?_ (G2.stepsT_cons 2 ?_ (G2.stepsT_cons 3 ?_ (G2.stepsT_cons 4 ?_ (G2.stepsT_cons 5 ?_ (G2.stepsT_cons 6 ?_ (G2.stepsT_cons 7 ?_ (G2.stepsT_cons 8 ?_ (G2.stepsT_cons 9 ?_ (G2.stepsT_cons 10 ?_ (G2.stepsT_cons 11 ?_ (G2.stepsT_cons 12 ?_ (G2.stepsT_cons 13 ?_ (G2.stepsT_cons 14 ?_ (G2.stepsT_cons 15 ?_ (G2.stepsT_cons 16 ?_ (G2.stepsT_cons 17 ?_ (G2.stepsT_cons 18 ?_ (G2.stepsT_cons 19 ?_ (G2.stepsT_cons 20 ?_ (G2.stepsT_cons 21 ?_ (G2.stepsT_nil _ _ _))))))))))))))))))))))) ?_ ?_
    · intro a w' hk hF hD K hK
      have h5 : a.tmps[5]?.getD undef = .pointer (some ⟨pb, 0, none⟩) := hF 5 (by kernel_rfl)
      clear hF hD
      have z0 := hk.cellS p0
      have z1 := hk.cellS q1
      have z2 := hk.cellS q2
      have z3 := hk.cellS q3
      go_simp
      exact hK.out _ _ (Kp.refl _) rfl
    · intro a w' hk hF hD K hK
      have h0 : a.tmps[0]?.getD undef = .pointer (some ⟨b, 0, none⟩) := hF 0 (by kernel_rfl)
      clear hF hD
      go_simp
      exact hK.out _ _ (Kp.refl _) rfl
    · intro a w' hk hF hD K hK
      have h12 : a.tmps[12]?.getD undef = .pointer (some ⟨b, 0, none⟩) := hD 1 (by kernel_rfl)
      clear hF hD
      go_simp
      exact hK.out _ _ (Kp.refl _) rfl
    · intro a w' hk hF hD K hK
      have h13 : a.tmps[13]?.getD undef = .pointer (some ⟨b, 0, none⟩) := hD 2 (by kernel_rfl)
      clear hF hD
      go_simp
      exact hK.out _ _ (Kp.refl _) rfl
    · intro a w' hk hF hD K hK
      have h14 : a.tmps[14]?.getD undef = .pointer (some ⟨b, 1, none⟩) := hD 3 (by kernel_rfl)
      clear hF hD
      have z1 := hk.cellS c1
      go_simp
      exact hK.out _ _ (Kp.refl _) rfl
    · intro a w' hk hF hD K hK
      have h11 : a.tmps[11]?.getD undef = .agg #[.int .i64 p1, .int .i64 p2, .int .i64 p3, .int .i64 p4] := hD 0 (by kernel_rfl)
      have h15 : a.tmps[15]?.getD undef = .int .i64 s.i := hD 4 (by kernel_rfl)
      clear hF hD
      go_simp
      refine (bOf_any (p1, p2, p3, p4) s.i _).mono ?_
      rintro e w9 ⟨rfl, hk9⟩
      rw [h1]
      exact hK.out _ _ hk9 rfl
    · intro a w' hk hF hD K hK
      have h16 : a.tmps[16]?.getD undef = .bool false := hD 5 (by kernel_rfl)
      clear hF hD
      go_simp
      exact hK.out _ _ (Kp.refl _) rfl
    · intro a w' hk hF hD K hK
      have h17 : a.tmps[17]?.getD undef = .bool true := hD 6 (by kernel_rfl)
      clear hF hD
      go_simp
      exact hK.out _ _ (Kp.refl _) rfl
    · intro a w' hk hF hD K hK
      have h2 : a.tmps[2]?.getD undef = .slice A m.length c := hF 2 (by kernel_rfl)
      have h18 : a.tmps[18]?.getD undef = .bool true := hD 7 (by kernel_rfl)
      have g18 := guard_get h18
      clear hF hD
      go_simp
      exact hK.out _ _ (Kp.refl _) rfl
    · intro a w' hk hF hD K hK
      have h19 : a.tmps[19]?.getD undef = undef := hD 8 (by kernel_rfl)
      have h18 : a.tmps[18]?.getD undef = .bool true := hD 7 (by kernel_rfl)
      have g18 := guard_get h18
      clear hF hD
      go_simp
      exact hK.out _ _ (Kp.refl _) rfl
    · intro a w' hk hF hD K hK
      have h20 : a.tmps[20]?.getD undef = undef := hD 9 (by kernel_rfl)
      have h18 : a.tmps[18]?.getD undef = .bool true := hD 7 (by kernel_rfl)
      have g18 := guard_get h18
      clear hF hD
      go_simp
      exact hK.out _ _ (Kp.refl _) rfl
    · intro a w' hk hF hD K hK
      have h18 : a.tmps[18]?.getD undef = .bool true := hD 7 (by kernel_rfl)
      have h21 : a.tmps[21]?.getD undef = undef := hD 10 (by kernel_rfl)
      clear hF hD
      go_simp
      exact hK.out _ _ (Kp.refl _) rfl
    · intro a w' hk hF hD K hK
      have h22 : a.tmps[22]?.getD undef = .bool true := hD 11 (by kernel_rfl)
      clear hF hD
      go_simp
      exact hK.out _ _ (Kp.refl _) rfl
    · intro a w' hk hF hD K hK
      have h2 : a.tmps[2]?.getD undef = .slice A m.length c := hF 2 (by kernel_rfl)
      have h23 : a.tmps[23]?.getD undef = .bool true := hD 12 (by kernel_rfl)
      have g23 := guard_get h23
      clear hF hD
      go_simp
      exact hK.out _ _ (Kp.refl _) rfl
    · intro a w' hk hF hD K hK
      have h24 : a.tmps[24]?.getD undef = undef := hD 13 (by kernel_rfl)
      have h23 : a.tmps[23]?.getD undef = .bool true := hD 12 (by kernel_rfl)
      have g23 := guard_get h23
      clear hF hD
      go_simp
      exact hK.out _ _ (Kp.refl _) rfl
    · intro a w' hk hF hD K hK
      have h25 : a.tmps[25]?.getD undef = undef := hD 14 (by kernel_rfl)
      have h23 : a.tmps[23]?.getD undef = .bool true := hD 12 (by kernel_rfl)
      have g23 := guard_get h23
      clear hF hD
      go_simp
      exact hK.out _ _ (Kp.refl _) rfl
    · intro a w' hk hF hD K hK
      have h23 : a.tmps[23]?.getD undef = .bool true := hD 12 (by kernel_rfl)
      have h26 : a.tmps[26]?.getD undef = undef := hD 15 (by kernel_rfl)
      clear hF hD
      go_simp
      exact hK.out _ _ (Kp.refl _) rfl
    · intro a w' hk hF hD K hK
      have h27 : a.tmps[27]?.getD undef = .bool true := hD 16 (by kernel_rfl)
      clear hF hD
      go_simp
      exact hK.out _ _ (Kp.refl _) rfl
    · intro a w' hk hF hD K hK
      have h3 : a.tmps[3]?.getD undef = .slice A' l.length c' := hF 3 (by kernel_rfl)
      have h28 : a.tmps[28]?.getD undef = .bool true := hD 17 (by kernel_rfl)
      have g28 := guard_get h28
      clear hF hD
      go_simp
      exact hK.out _ _ (Kp.refl _) rfl
    · intro a w' hk hF hD K hK
      have h29 : a.tmps[29]?.getD undef = undef := hD 18 (by kernel_rfl)
      have h28 : a.tmps[28]?.getD undef = .bool true := hD 17 (by kernel_rfl)
      have g28 := guard_get h28
      clear hF hD
      go_simp
      exact hK.out _ _ (Kp.refl _) rfl
    · intro a w' hk hF hD K hK
      have h30 : a.tmps[30]?.getD undef = undef := hD 19 (by kernel_rfl)
      have h28 : a.tmps[28]?.getD undef = .bool true := hD 17 (by kernel_rfl)
      have g28 := guard_get h28
      clear hF hD
      go_simp
      exact hK.out _ _ (Kp.refl _) rfl
    · intro a w' hk hF hD K hK
      have h28 : a.tmps[28]?.getD undef = .bool true := hD 17 (by kernel_rfl)
      have h31 : a.tmps[31]?.getD undef = undef := hD 20 (by kernel_rfl)
      clear hF hD
      go_simp
      exact hK.out _ _ (Kp.refl _) rfl
    · exact fun i0 hi0 => by simp at hi0
    intro v w9 k9 hv
    have v21 : v 21 = .bool true := hv 21 (by omega)
    clear hv
    simp only [G2.growPut, G2.gSlot, List.getElem?_toArray, List.getElem?_cons_zero, List.getElem?_cons_succ, Option.bind_some, List.setIfInBounds_toArray, List.set_cons_zero, List.set_cons_succ, List.drop_succ_cons, List.drop_zero, v21]
    have hR9 := hR.keep (k9.block hrb)
    have k09 := k0.trans k9
    go_wp2_with (refine wpList_store_mid rfl 29 (.tmp 8) (.tmp 33) rfl (pb + 1) 0 #[.int .i64 0, .int .i64 0, .int .i64 0, .int .i64 0, .int .i64 0, .slice none 0 0] rfl rfl hR9.there (by kernel_rfl) (all_oneCell_toArray (by simp [Value.oneCell'])) ?_)
    try simp only [Exit.inBlock, Exit.then]
    have hRa := hR9.all (cs := [.int .i64 0, .int .i64 0, .int .i64 0, .int .i64 0, .int .i64 0, .slice none 0 0]) (by rfl)
    refine bodyPost_ret (results_cell_bx2 rfl _ _ (pb + 1) _ _ rfl hRa.range Try.underlying29 rfl (by kernel_rfl)) rfl ?_
    have hk := Kp.setCells (a := w) (b := pb + 1) (by have := HPB.out; omega) [.int .i64 0, .int .i64 0, .int .i64 0, .int .i64 0, .int .i64 0, .slice none 0 0] 0 w9 k09
    refine ⟨.slice none 0 0, rfl, Own.nil _ _ _ _ _, fun T h1 _ h3 h4 => (HH.out.to (fun k hk hs => h1 k hk hs) h3 h4).kp hk, hk.fx _⟩
theorem bRequest_T {S S2 : Nat → Prop} {b mb : Nat} {s : Bk} {w : World} (p : Pr) (vm va : Value) (m l : List Nd) (h : BrW S w b mb s) (hs2 : ¬ S2 b) (hm : Sx S2 w vm m) (ha : Sx S2 w va l) :
    Calls Try.prog 17 #[.pointer (some ⟨b, 0, none⟩), prV p, vm, va] w (RequestT S w b mb (request s p m l)) :=
  (bRequest_U p vm va m l h hs2 hm ha).mono fun e w' ⟨v, h1, h2, h3, h4⟩ => ⟨v, h1, h2.sl encNd_len, h3, h4⟩
theorem bRequest_any {S : Nat → Prop} {b mb : Nat} {s : Bk} {w : World} (p : Pr) (vm va : Value) (m l : List Nd) (h : BrW S w b mb s) (hnew : ∀ k, w.heap.size ≤ k → S k) (hm : Sx S w vm m) (ha : Sx S w va l) :
    Calls Try.prog 17 #[.pointer (some ⟨b, 0, none⟩), prV p, vm, va] w (RequestR S w b mb (request s p m l)) :=
  (bRequest_T p vm va m l h h.sb hm ha).mono fun e w' ⟨v, h1, h2, h3, h4⟩ => ⟨v, h1, h2, h3 S (fun _ _ hs => hs) (fun k hk _ => hnew k hk) h.sb h.sm, h4⟩
end Go.Proofs.Ytbcekihjcgnhkaa
