
/-
What the laws' own example of chapter 41 returns: true.
-/
import Derived.Test.YtbcekihjcgnhkaaBkO
import Derived.Test.YtbcekihjcgnhkaaGrowC
namespace Go.Proofs.Ytbcekihjcgnhkaa
set_option linter.unusedSimpArgs false
set_option linter.unusedVariables false
open Go.RowKit

def nd0 (n : Int) : List Nd := [((0, 0, 0), n)]
/-- a list of one need, new -/
def newN (base : Nat) (n : Int) (v : Value) (w : World) : Prop := ∃ p : Nat, v = .slice (some ⟨p, 0, none⟩) 1 1 ∧ Own encNd 41 4 base w (.slice (some ⟨p, 0, none⟩) 1 1) (nd0 n)
theorem stab_newN (base : Nat) (n : Int) : G2.Stab (newN base n) := fun _ _ _ ⟨p, e, h⟩ k => ⟨p, e, h.kp k⟩
def askN (t r base : Int) (b0 : Nat) (n : Int) (v : Value) (w : World) : Prop := ∃ p : Nat, v = .agg #[.int .i64 t, .int .i64 0, .int .i64 t, .int .i64 r, .int .i64 1, .slice (some ⟨p, 0, none⟩) 1 1] ∧ Own encNd 41 4 b0 w (.slice (some ⟨p, 0, none⟩) 1 1) (nd0 n)
theorem stab_askN (t r base : Int) (b0 : Nat) (n : Int) : G2.Stab (askN t r base b0 n) := fun _ _ _ ⟨p, e, h⟩ k => ⟨p, e, h.kp k⟩
/-- the first element of a list of one need -/
def ptrN (base : Nat) (n : Int) (v : Value) (w : World) : Prop := ∃ p : Nat, v = .pointer (some ⟨p, 0, none⟩) ∧ Own encNd 41 4 base w (.slice (some ⟨p, 0, none⟩) 1 1) (nd0 n)
theorem stab_ptrN (base : Nat) (n : Int) : G2.Stab (ptrN base n) := fun _ _ _ ⟨p, e, h⟩ k => ⟨p, e, h.kp k⟩
theorem Own.n1 {base p : Nat} {w : World} {n : Int} (h : Own encNd 41 4 base w (.slice (Option.some ⟨p, 0, none⟩) 1 1) (nd0 n)) :
    w.cell? ⟨p, 0, none⟩ = Option.some (.int .i64 0) ∧ w.cell? ⟨p, 1, none⟩ = Option.some (.int .i64 0) ∧ w.cell? ⟨p, 2, none⟩ = Option.some (.int .i64 0) ∧ w.cell? ⟨p, 3, none⟩ = Option.some (.int .i64 n) := by
  have := own_nd h rfl (k := 0) (by simp [nd0]) (x1 := 0) (x2 := 0) (x3 := 0) (x4 := n) rfl
  simpa using this
def askA (r t n : Int) : Ak := ⟨t, (0, t, r, 1), nd0 n⟩
set_option maxRecDepth 8000 in
set_option maxHeartbeats 4000000 in
theorem askC_any {S : Nat → Prop} {b mb cb : Nat} {s : Bk} {w : World} (r t n : Int) (h : BrW S w b mb s) (hnew : ∀ k, w.heap.size ≤ k → S k) (hc : w.cell? ⟨cb, 0, none⟩ = some (.pointer (some ⟨b, 0, none⟩))) :
    Calls Try.prog 38 #[.int .i64 r, .int .i64 t, .int .i64 n, .pointer (some ⟨cb, 0, none⟩)] w (HearR S w b mb (hear s r (askA r t n))) := by
  have hH := hid h
  clear h
  generalize hr : hear s r (askA r t n) = R
  have HR := hid hr
  clear hr
  go_enter Try.func38, Try.ntmps38
  go_upto_region 1 with (fail)
  refine G2.wp_region_growT Kp [] 9 18 (G2.pvL [G2.eqv (.pointer (some ⟨b, 0, none⟩)), G2.eqv (.int .i64 r), G2.eqv (.int .i64 t), G2.eqv (.int .i64 t), G2.eqv (.int .i64 r), G2.eqv (.agg #[.int .i64 0, .int .i64 t, .int .i64 r, .int .i64 1]), G2.eqv (.int .i64 n), (newN w.heap.size n), (askN t r 0 w.heap.size n)]) (by kernel_rfl) (by kernel_rfl) rfl (fun x => Kp.refl x) (fun _ _ _ h k => h.trans k) (Kp.refl _).drew (fun _ _ _ _ _ h => h) (G2.pvL_keep (G2.stabL_cons (G2.stab_eq _) (G2.stabL_cons (G2.stab_eq _) (G2.stabL_cons (G2.stab_eq _) (G2.stabL_cons (G2.stab_eq _) (G2.stabL_cons (G2.stab_eq _) (G2.stabL_cons (G2.stab_eq _) (G2.stabL_cons (G2.stab_eq _) (G2.stabL_cons (stab_newN _ _) (G2.stabL_cons (stab_askN _ _ _ _ _) (G2.stabL_nil))))))))))) (G2.stepsT_cons 0 ?_ (G2.stepsT_cons 1 ?_ (G2.stepsT_cons 2 ?_ (G2.stepsT_cons 3 ?_ (G2.stepsT_cons 4 ?_ (G2.stepsT_cons 5 ?_ (G2.stepsT_cons 6 ?_ (G2.stepsT_cons 7 ?_ (G2.stepsT_cons 8 ?_ (G2.stepsT_nil _ _ _)))))))))) ?_ ?_
  · intro a w' hk hF hD K hK
    have h3 : a.tmps[3]?.getD undef = .pointer (some ⟨cb, 0, none⟩) := hF 3 (by kernel_rfl)
    clear hF hD
    have z0 := hk.cellS hc
    go_simp
    exact hK.out _ _ (Kp.refl _) rfl
  · intro a w' hk hF hD K hK
    have h0 : a.tmps[0]?.getD undef = .int .i64 r := hF 0 (by kernel_rfl)
    clear hF hD
    go_simp
    exact hK.out _ _ (Kp.refl _) rfl
  · intro a w' hk hF hD K hK
    have h1 : a.tmps[1]?.getD undef = .int .i64 t := hF 1 (by kernel_rfl)
    clear hF hD
    go_simp
    exact hK.out _ _ (Kp.refl _) rfl
  · intro a w' hk hF hD K hK
    have h1 : a.tmps[1]?.getD undef = .int .i64 t := hF 1 (by kernel_rfl)
    clear hF hD
    go_simp
    exact hK.out _ _ (Kp.refl _) rfl
  · intro a w' hk hF hD K hK
    have h0 : a.tmps[0]?.getD undef = .int .i64 r := hF 0 (by kernel_rfl)
    clear hF hD
    go_simp
    exact hK.out _ _ (Kp.refl _) rfl
  · intro a w' hk hF hD K hK
    have h11 : a.tmps[11]?.getD undef = .int .i64 t := hD 3 (by kernel_rfl)
    have h12 : a.tmps[12]?.getD undef = .int .i64 r := hD 4 (by kernel_rfl)
    clear hF hD
    go_simp
    exact hK.out _ _ (Kp.refl _) rfl
  · intro a w' hk hF hD K hK
    have h2 : a.tmps[2]?.getD undef = .int .i64 n := hF 2 (by kernel_rfl)
    clear hF hD
    go_simp
    exact hK.out _ _ (Kp.refl _) rfl
  · intro a w' hk hF hD K hK
    have h14 : a.tmps[14]?.getD undef = .int .i64 n := hD 6 (by kernel_rfl)
    clear hF hD
    go_simp
    refine (lRights_any n _).mono ?_
    rintro e w9 ⟨p, rfl, own9, hk9⟩
    exact hK.out _ _ hk9 ⟨p, rfl, own9.less hk.size⟩
  · intro a w' hk hF hD K hK
    have h10 : a.tmps[10]?.getD undef = .int .i64 t := hD 2 (by kernel_rfl)
    have h13 : a.tmps[13]?.getD undef = .agg #[.int .i64 0, .int .i64 t, .int .i64 r, .int .i64 1] := hD 5 (by kernel_rfl)
    have h15 : (newN w.heap.size n) (a.tmps[15]?.getD undef) w' := hD 7 (by kernel_rfl)
    clear hF hD
    obtain ⟨p, e15, own15⟩ := h15
    go_simp
    exact hK.out _ _ (Kp.refl _) ⟨p, rfl, own15⟩
  · exact fun i0 hi0 => by simp at hi0
  intro v w9 k9 hv
  have v0 : v 0 = .pointer (some ⟨b, 0, none⟩) := hv 0 (by omega)
  have v1 : v 1 = .int .i64 r := hv 1 (by omega)
  have v8 : (askN t r 0 w.heap.size n) (v 8) w9 := hv 8 (by omega)
  clear hv
  obtain ⟨p, e16, own16⟩ := v8
  simp only [G2.growPut, G2.gSlot, List.getElem?_toArray, List.getElem?_cons_zero, List.getElem?_cons_succ, Option.bind_some, List.setIfInBounds_toArray, List.set_cons_zero, List.set_cons_succ, List.drop_succ_cons, List.drop_zero, v0, v1, e16]
  go_wp2_with fail
  have hs9 := k9.size
  refine (bHear_any r (askA r t n) (.slice (some ⟨p, 0, none⟩) 1 1) (hH.out.kp k9) (fun k hk => hnew k (by omega)) (own16.sx hnew)).mono ?_
  rw [HR.out]
  rintro e w2 ⟨rfl, hb2, fx2⟩
  go_wp2
  go_ret
  exact ⟨rfl, hb2, (k9.fx _).trans fx2⟩
/-! the states of the example -/
def aw1 : Bk := (hear (newB 3 0) 1 (askA 1 6 3)).1
def aw2 : Bk := (hear aw1 2 (askA 2 5 4)).1
def aw3 : Bk := (grants aw2 (nd0 5)).1
def aw4 : Bk := (request aw3 (0, 1, 0, 1) (nd0 1) (nd0 2)).1
def aw5 : Bk := (hear aw4 1 (askA 1 8 3)).1
def aw6 : Bk := (hear aw5 2 (askA 2 7 4)).1
set_option maxRecDepth 8000
theorem aw_r1 : (hear (newB 3 0) 1 (askA 1 6 3)).2 = 0 := by decide +kernel
theorem aw_r2 : (hear aw1 2 (askA 2 5 4)).2 = 0 := by decide +kernel
theorem aw_g3 : (grants aw2 (nd0 5)).2 = [(2, (0, 0, 0), 4), (1, (0, 0, 0), 1)] := by decide +kernel
theorem aw_r4 : (request aw3 (0, 1, 0, 1) (nd0 1) (nd0 2)).2.2 = 0 := by decide +kernel
theorem aw_n3 : aw3.num = 0 ∧ aw4.num = 1 := by decide +kernel
theorem aw_r5 : (hear aw4 1 (askA 1 8 3)).2 = 0 := by decide +kernel
theorem aw_r6 : (hear aw5 2 (askA 2 7 4)).2 = 0 := by decide +kernel
theorem aw_g7 : (grants aw6 (nd0 5)).2 = [(2, (0, 0, 0), 3)] := by decide +kernel
/-! a drawn region with one operation that changes what is there -/
def StabG (G : World → World → Prop) (p : Value → World → Prop) : Prop := ∀ v w1 w2, p v w1 → G w1 w2 → p v w2
def StabGL (G : World → World → Prop) (ps : List (Value → World → Prop)) : Prop := ∀ p ∈ ps, StabG G p
theorem stabG_nil {G : World → World → Prop} : StabGL G [] := fun _ h => by cases h
theorem stabG_cons {G : World → World → Prop} {p : Value → World → Prop} {ps : List (Value → World → Prop)} (h : StabG G p) (hs : StabGL G ps) : StabGL G (p :: ps) := fun q hq => by
  rcases List.mem_cons.1 hq with rfl | hq
  · exact h
  · exact hs q hq
theorem stabG_eq {G : World → World → Prop} (u : Value) : StabG G (G2.eqv u) := fun _ _ _ h _ => h
def StabCL (G : World → World → Prop) (c : Nat) (ps : List (Value → World → Prop)) : Prop := ∀ j p, ps[j]? = some p → j ≠ c → StabG G p
theorem stabC_here {G : World → World → Prop} {p : Value → World → Prop} {ps : List (Value → World → Prop)} (hs : StabGL G ps) : StabCL G 0 (p :: ps) := fun j q hj hc => by
  cases j with
  | zero => exact absurd rfl hc
  | succ j => exact hs q (List.mem_of_getElem? (by simpa using hj))
theorem stabC_cons {G : World → World → Prop} {c : Nat} {p : Value → World → Prop} {ps : List (Value → World → Prop)} (h : StabG G p) (hs : StabCL G c ps) : StabCL G (c + 1) (p :: ps) := fun j q hj hc => by
  cases j with
  | zero =>
    simp only [List.getElem?_cons_zero, Option.some.injEq] at hj
    subst hj
    exact h
  | succ j => exact hs j q (by simpa using hj) (fun e => hc (by rw [e]))
def GrowStepC (c : Nat) (X : Nat → Prop) (P : Program) (ops : Array Oper) (Q : Exit → Act → World → Prop) (n N : Nat) (a0 : Act) (w0 : World) (PV : Nat → Value → World → Prop) (i : Nat) : Prop :=
  ∀ (a : Act) (w : World), (if i = c then Kp w0 w else Fx X w0 w) → (∀ t, G2.growFree ops n t = true → a.tmps[t]?.getD undef = a0.tmps[t]?.getD undef) → (∀ j, Region.waitsFor .any ops i j = true → PV j (G2.gVal ops a j) w) →
    ∀ K : Act → World → Prop, Hid (∀ v w', (if i = c then Fx X w w' else Kp w w') → PV i (G2.gOut ops i v) w' → K (a.put (G2.gSlot ops i) v) w') → ((ops[i]?).map fun o => if Region.wanted o (yielded ops a.tmps) = true then Oper.wp P o a w K Q else K (a.put o.dst undef) w).getD False
theorem wp_region_growC {P : Program} {Q : Exit → Act → World → Prop} (c : Nat) (X : Nat → Prop) {id : Nat} {a : Act} {w : World} {l : List Oper} (fl : List Nat) (n N : Nat) (ps : List (Value → World → Prop)) (hm : P.follows .mixedOrders = true) (hB : G2.growB l.toArray fl n N = true) (hN : a.tmps.size = N) (hcn : c < n)
    (hQ : ∀ d c a v w, Q (.panic c) (Act.put a (some d) v) w → Q (.panic c) a w) (hst1 : StabCL (Fx X) c ps) (hst2 : ∀ v w1 w2, G2.pvL ps c v w1 → Kp w1 w2 → G2.pvL ps c v w2)
    (hstep : ∀ i, i < n → GrowStepC c X P l.toArray Q n N a w (G2.pvL ps) i)
    (hfl : ∀ i, i ∈ fl → i < n ∧ ∀ (a' : Act) (w' : World), Fx X w w' → (∀ t, G2.growFree l.toArray n t = true → a'.tmps[t]?.getD undef = a.tmps[t]?.getD undef) → (∀ j, Region.waitsFor .any l.toArray i j = true → G2.pvL ps j (G2.gVal l.toArray a' j) w') → ((l.toArray[i]?).map fun o => ∃ v, G2.pvL ps i (G2.gOut l.toArray i v) w' ∧ Yields P l.toArray o v a').getD False)
    (htail : ∀ (v : Nat → Value) w', Fx X w w' → (∀ j, j < n → G2.pvL ps j (G2.gOut l.toArray j (v j)) w') → wpList P l.toArray Q (l.drop n) { a with tmps := G2.growPut l.toArray v a.tmps n } w') : (Code.region id l.toArray true).wp P Q a w := by
  have hns : n < l.toArray.size ∨ True := .inr trivial
  refine G2.wp_region_growJ (fun listed w' => if listed.getD c true = true then Fx X w w' else Kp w w') (fun i w1 w2 => if i = c then Fx X w1 w2 else Kp w1 w2) fl n N (G2.pvL ps) hm hB hN ?_ ?_ hQ ?_ ?_ (fun i w' => by by_cases h : i = c <;> simp only [h, if_true, if_false]; exact Fx.refl _ _; exact Kp.refl _) ?_ ?_
  · split
    · exact ((Kp.refl w).drew).fx X
    · exact (Kp.refl w).drew
  · intro i listed w1 w2 hin hls hun hJ hR
    by_cases hic : i = c
    · subst hic
      rw [if_pos rfl] at hR
      rw [hun, if_neg (by simp)] at hJ
      split
      · exact (hJ.fx X).trans hR
      · rename_i h1
        by_cases hil : i < listed.size
        · exact absurd (by simp [hil]) h1
        · simp [Array.getD_eq_getD_getElem?, Array.getElem?_eq_none (Nat.le_of_not_lt hil)] at hun
    · rw [if_neg hic] at hR
      rw [getD_set_ne true hic]
      split
      · rename_i h1
        rw [if_pos h1] at hJ
        exact hJ.trans (hR.fx X)
      · rename_i h1
        rw [if_neg h1] at hJ
        exact hJ.trans hR
  · intro i j v w1 w2 hij hp hR
    by_cases hjc : j = c
    · subst hjc
      rw [if_neg hij] at hR
      exact hst2 v w1 w2 hp hR
    · have hf : Fx X w1 w2 := by
        by_cases hic : i = c
        · rw [if_pos hic] at hR; exact hR
        · rw [if_neg hic] at hR; exact hR.fx X
      unfold G2.pvL at hp ⊢
      cases hpj : ps[j]? with
      | none => trivial
      | some p =>
        rw [hpj] at hp
        exact hst1 j p hpj hjc v w1 w2 hp hf
  · intro i hin listed a' w' hJ hun hF hD K hK
    refine hstep i hin a' w' ?_ hF hD K hK
    by_cases hic : i = c
    · subst hic
      rw [hun, if_neg (by simp)] at hJ
      rw [if_pos rfl]
      exact hJ
    · rw [if_neg hic]
      by_cases h1 : listed.getD c true = true
      · rw [if_pos h1] at hJ; exact hJ
      · rw [if_neg h1] at hJ; exact hJ.fx X
  · intro i hi
    refine ⟨(hfl i hi).1, fun listed a' w' hJ hF hD => (hfl i hi).2 a' w' ?_ hF hD⟩
    by_cases h1 : listed.getD c true = true
    · rw [if_pos h1] at hJ; exact hJ
    · rw [if_neg h1] at hJ; exact hJ.fx X
  · intro v listed w' hall hJ hv
    rw [if_pos (hall c hcn)] at hJ
    exact htail v w' hJ hv
/-- a list of one need in a new block -/
theorem stabF_newN {b mb base : Nat} {n : Int} (h1 : b < base) (h2 : mb < base) : StabG (Fx (B2 b mb)) (newN base n) := fun v w1 w2 ⟨p, e, own⟩ hf =>
  ⟨p, e, own.owS w2 hf.size fun q hq hlt => hf.block q hlt (by have := own.ge q hq; rintro (e | e) <;> omega)⟩
/-- what Request has returned; its lists lie in blocks of S or in new ones that hold no request -/
def reqP (S : Nat → Prop) (m0 b mb : Nat) (s' : Bk) (a : Ak) (v : Value) (w : World) : Prop := ∃ A c m, v = .tuple #[askV a (.slice A a.needs.length c), .int .i64 0] ∧ m0 ≤ m ∧ m ≤ w.heap.size ∧ ∀ T : Nat → Prop, (∀ k, S k → T k) → (∀ k, m ≤ k → k < w.heap.size → ¬ askB w k → T k) → ¬ T b → ¬ T mb → BrW T w b mb s'
theorem askB_keep {w w' : World} {k : Nat} (e : w'.heap[k]? = w.heap[k]?) : askB w' k ↔ askB w k := by unfold askB; rw [e]
theorem stab_reqP {S : Nat → Prop} {m0 b mb : Nat} {s' : Bk} {a : Ak} : G2.Stab (reqP S m0 b mb s' a) := fun v w1 w2 ⟨A, c, m, e, h1, h2, h⟩ k => ⟨A, c, m, e, h1, Nat.le_trans h2 k.size, fun T t1 t2 t3 t4 => by
  have h5 := h (fun q => T q ∧ (S q ∨ q < w1.heap.size)) (fun q hq => ⟨t1 q hq, .inl hq⟩) (fun q hq hlt hn => ⟨t2 q hq (Nat.lt_of_lt_of_le hlt k.size) (by rw [askB_keep (k.block hlt)]; exact hn), .inr hlt⟩) (fun h => t3 h.1) (fun h => t4 h.1)
  exact (h5.kp k).to (fun q _ hq => hq.1) t3 t4⟩
def boxP (base : Nat) (v : Value) (w : World) : Prop := ∃ rb : Nat, v = .pointer (some ⟨rb, 0, none⟩) ∧ base ≤ rb ∧ Bx w rb [.int .i64 0, .int .i64 0, .int .i64 0, .int .i64 0, .int .i64 0, .slice none 0 0] ∧ askB w rb
theorem stabF_boxP {b mb base : Nat} (h1 : b < base) (h2 : mb < base) : StabG (Fx (B2 b mb)) (boxP base) := fun v w1 w2 ⟨rb, e, hr, h, ha⟩ hf =>
  ⟨rb, e, hr, h.keep (hf.block rb (h.lt (by simp)) (by rintro (e | e) <;> omega)), (askB_keep (hf.block rb (h.lt (by simp)) (by rintro (e | e) <;> omega))).2 ha⟩
/-- the request that Request has returned -/
def reqT (v : Value) (_ : World) : Prop := ∃ A c, v = .tuple #[.agg #[.int .i64 1, .int .i64 0, .int .i64 1, .int .i64 0, .int .i64 1, .slice A 1 c], .int .i64 0]
def reqA (v : Value) (_ : World) : Prop := ∃ A c, v = .agg #[.int .i64 1, .int .i64 0, .int .i64 1, .int .i64 0, .int .i64 1, .slice A 1 c]
theorem aw_q4 : request aw3 (0, 1, 0, 1) (nd0 1) (nd0 2) = (aw4, ⟨1, (0, 1, 0, 1), nd0 1⟩, 0) := by
  have h1 := aw_r4
  have h2 : (request aw3 (0, 1, 0, 1) (nd0 1) (nd0 2)).2.1.num = 1 := by decide +kernel
  unfold aw4
  generalize hr : request aw3 (0, 1, 0, 1) (nd0 1) (nd0 2) = r at *
  unfold request at hr
  split at hr
  · subst hr; cases h1
  · split at hr
    · subst hr; cases h1
    · subst hr
      dsimp only at h2 ⊢
      rw [h2]
set_option maxRecDepth 8000 in
set_option maxHeartbeats 8000000 in
theorem awake41_any (w : World) : Calls Try.prog 8 #[] w fun e w' => e = .returned (.bool true) ∧ Kp w w' := by
  go_enter Try.func8, Try.ntmps8
  go_wp2_with fail
  refine (bNew_any 3 0 w).mono ?_
  rintro e w1 ⟨h1, k1⟩
  rcases h1 with ⟨h1, -⟩ | ⟨-, b, mb, rfl, hbw, hmw, hbr⟩
  · exact absurd h1 (by decide)
  have hb1 := hbr (fun k => ¬ B2 b mb k) (fun h => h (.inl rfl)) (fun h => h (.inr rfl))
  clear hbr
  have hbl := hb1.lt
  have hml := hb1.mlt
  have kc := (Kp.refl w1).alloc (.cells #[.pointer (some ⟨b, 0, none⟩)] 32)
  have hC := Bx.new w1 #[.pointer (some ⟨b, 0, none⟩)] 32
  have hb2 := hb1.kp kc
  have hcl := hC.lt (by simp)
  have fx2 := (kc.fx (B2 b mb))
  have n2 : ∀ q, w1.heap.size ≤ q → ¬ B2 b mb q := fun q hq e => by rcases e with e | e <;> omega
  have hk12 := k1.trans kc
  go_upto_region 2 with (fail)
  generalize w1.alloc (.cells #[.pointer (some ⟨b, 0, none⟩)] 32) = w2 at *
  have hcb : w1.heap.size ≤ w1.heap.size := Nat.le_refl _
  generalize w1.heap.size = cb at *
  have hnb : ¬ B2 b mb cb := n2 cb (Nat.le_refl _)
  have c2 := hC.cell (j := 0) rfl
  have hcf : ∀ W W', Fx (B2 b mb) W W' → W.cell? ⟨cb, 0, none⟩ = some (.pointer (some ⟨b, 0, none⟩)) → W'.cell? ⟨cb, 0, none⟩ = some (.pointer (some ⟨b, 0, none⟩)) := fun W W' hf hc => (World.cell?_of_block (a := ⟨cb, 0, none⟩) (hf.block cb (block_lt_of_cell hc) hnb)).trans hc
  have HCF := hid hcf
  clear hcf
  have nW : ∀ k, k < w.heap.size → ¬ B2 b mb k := fun q hq e => by rcases e with e | e <;> omega
  have hs2 : cb ≤ w2.heap.size := Nat.le_of_lt hcl
  have kw2 := hk12
  clear hk12 fx2 k1 kc
  go_wp2_with fail
  refine (askC_any (S := fun k => ¬ B2 b mb k) (b := b) (mb := mb) (cb := cb) (s := newB 3 0) 1 6 3 hb2 (fun q hq => n2 q (by have := hs2; omega)) c2).mono ?_
  rintro e w3 ⟨he, hb3, fxs⟩
  rw [aw_r1] at he
  subst he
  have c3 := HCF.out _ _ fxs c2
  have kw3 := ((kw2.fx (B2 b mb)).trans fxs).kp nW
  have hs3 : cb ≤ w3.heap.size := Nat.le_trans hs2 fxs.size
  clear fxs
  go_wp2_with fail
  refine (askC_any (S := fun k => ¬ B2 b mb k) (b := b) (mb := mb) (cb := cb) (s := aw1) 2 5 4 hb3 (fun q hq => n2 q (by have := hs3; omega)) c3).mono ?_
  rintro e w4 ⟨he, hb4, fxs⟩
  rw [aw_r2] at he
  subst he
  have c4 := HCF.out _ _ fxs c3
  have kw4 := ((kw3.fx (B2 b mb)).trans fxs).kp nW
  have hs4 : cb ≤ w4.heap.size := Nat.le_trans hs3 fxs.size
  clear fxs
  go_upto_region 7 with (fail)
  refine G2.wp_region_growT Kp [] 2 70 (G2.pvL [G2.eqv (.pointer (some ⟨b, 0, none⟩)), (newN w4.heap.size 5)]) (by kernel_rfl) (by kernel_rfl) rfl (fun x => Kp.refl x) (fun _ _ _ h k => h.trans k) (Kp.refl _).drew (fun _ _ _ _ _ h => h) (G2.pvL_keep (G2.stabL_cons (G2.stab_eq _) (G2.stabL_cons (stab_newN _ _) (G2.stabL_nil)))) (G2.stepsT_cons 0 ?_ (G2.stepsT_cons 1 ?_ (G2.stepsT_nil _ _ _))) ?_ ?_
  · intro a w' hk hF hD K hK
    have h1 : a.tmps[1]?.getD undef = .pointer (some ⟨cb, 0, none⟩) := hF 1 (by kernel_rfl)
    clear hF hD
    have z0 := hk.cellS c4
    go_simp
    exact hK.out _ _ (Kp.refl _) rfl
  · intro a w' hk hF hD K hK
    clear hF hD
    go_simp
    refine (lRights_any 5 _).mono ?_
    rintro e w9 ⟨p, rfl, own9, hk9⟩
    exact hK.out _ _ hk9 ⟨p, rfl, own9.less hk.size⟩
  · exact fun i0 hi0 => by simp at hi0
  intro v w9 k9 hv
  have v0 : v 0 = .pointer (some ⟨b, 0, none⟩) := hv 0 (by omega)
  have v1 : (newN w4.heap.size 5) (v 1) w9 := hv 1 (by omega)
  clear hv
  obtain ⟨p, e27, own27⟩ := v1
  simp only [G2.growPut, G2.gSlot, List.getElem?_toArray, List.getElem?_cons_zero, List.getElem?_cons_succ, Option.bind_some, List.setIfInBounds_toArray, List.set_cons_zero, List.set_cons_succ, List.drop_succ_cons, List.drop_zero, v0, e27]
  go_wp2_with fail
  have hs9 := k9.size
  refine (bGrants_any (S := fun k => ¬ B2 b mb k) (b := b) (mb := mb) (s := aw2) (nd0 5) (.slice (some ⟨p, 0, none⟩) 1 1) (hb4.kp k9) (fun q hq => n2 q (by omega)) (own27.sx fun q hq => n2 q (by omega))).mono ?_
  rintro e w5 ⟨gv, rfl, gown, hb5, fxs⟩
  rw [aw_g3] at gown
  have c5 := HCF.out _ _ fxs (k9.cellS c4)
  have kw5 := (((kw4.trans k9).fx (B2 b mb)).trans fxs).kp nW
  have hs5 : cb ≤ w5.heap.size := by have := fxs.size; omega
  clear fxs own27 k9
  obtain ⟨Ag, cg, he, -, -⟩ := gown.form
  have he : gv = .slice Ag 2 cg := he
  subst he
  go_upto_region 8 with (fail)
  refine G2.wp_region_growT Kp [] 11 70 (G2.pvL [G2.eqv (.slice Ag 2 cg), (newN w5.heap.size 4), (ptrN w5.heap.size 4), G2.eqv (.agg #[.int .i64 0, .int .i64 0, .int .i64 0, .int .i64 4]), G2.eqv (.agg #[.int .i64 2, .int .i64 0, .int .i64 0, .int .i64 0, .int .i64 4]), (newN w5.heap.size 1), (ptrN w5.heap.size 1), G2.eqv (.agg #[.int .i64 0, .int .i64 0, .int .i64 0, .int .i64 1]), G2.eqv (.agg #[.int .i64 1, .int .i64 0, .int .i64 0, .int .i64 0, .int .i64 1]), (G2.newSl encGr 5 [(2, (0, 0, 0), 4), (1, (0, 0, 0), 1)]), G2.eqv (.bool true)]) (by kernel_rfl) (by kernel_rfl) rfl (fun x => Kp.refl x) (fun _ _ _ h k => h.trans k) (Kp.refl _).drew (fun _ _ _ _ _ h => h) (G2.pvL_keep (G2.stabL_cons (G2.stab_eq _) (G2.stabL_cons (stab_newN _ _) (G2.stabL_cons (stab_ptrN _ _) (G2.stabL_cons (G2.stab_eq _) (G2.stabL_cons (G2.stab_eq _) (G2.stabL_cons (stab_newN _ _) (G2.stabL_cons (stab_ptrN _ _) (G2.stabL_cons (G2.stab_eq _) (G2.stabL_cons (G2.stab_eq _) (G2.stabL_cons (G2.stab_newSl _ _ _) (G2.stabL_cons (G2.stab_eq _) (G2.stabL_nil))))))))))))) (G2.stepsT_cons 0 ?_ (G2.stepsT_cons 1 ?_ (G2.stepsT_cons 2 ?_ (G2.stepsT_cons 3 ?_ (G2.stepsT_cons 4 ?_ (G2.stepsT_cons 5 ?_ (G2.stepsT_cons 6 ?_ (G2.stepsT_cons 7 ?_ (G2.stepsT_cons 8 ?_ (G2.stepsT_cons 9 ?_ (G2.stepsT_cons 10 ?_ (G2.stepsT_nil _ _ _)))))))))))) ?_ ?_
  · intro a w' hk hF hD K hK
    have h4 : a.tmps[4]?.getD undef = .slice Ag 2 cg := hF 4 (by kernel_rfl)
    clear hF hD
    go_simp
    exact hK.out _ _ (Kp.refl _) rfl
  · intro a w' hk hF hD K hK
    clear hF hD
    go_simp
    refine (lRights_any 4 _).mono ?_
    rintro e w9 ⟨p, rfl, own9, hk9⟩
    exact hK.out _ _ hk9 ⟨p, rfl, own9.less hk.size⟩
  · intro a w' hk hF hD K hK
    have h30 : (newN w5.heap.size 4) (a.tmps[30]?.getD undef) w' := hD 1 (by kernel_rfl)
    clear hF hD
    obtain ⟨p, e30, own30⟩ := h30
    go_simp
    exact hK.out _ _ (Kp.refl _) ⟨p, rfl, own30⟩
  · intro a w' hk hF hD K hK
    have h31 : (ptrN w5.heap.size 4) (a.tmps[31]?.getD undef) w' := hD 2 (by kernel_rfl)
    clear hF hD
    obtain ⟨p, e31, own31⟩ := h31
    obtain ⟨z0, z1, z2, z3⟩ := own31.n1
    go_simp
    exact hK.out _ _ (Kp.refl _) rfl
  · intro a w' hk hF hD K hK
    have h32 : a.tmps[32]?.getD undef = .agg #[.int .i64 0, .int .i64 0, .int .i64 0, .int .i64 4] := hD 3 (by kernel_rfl)
    clear hF hD
    go_simp
    exact hK.out _ _ (Kp.refl _) rfl
  · intro a w' hk hF hD K hK
    clear hF hD
    go_simp
    refine (lRights_any 1 _).mono ?_
    rintro e w9 ⟨p, rfl, own9, hk9⟩
    exact hK.out _ _ hk9 ⟨p, rfl, own9.less hk.size⟩
  · intro a w' hk hF hD K hK
    have h34 : (newN w5.heap.size 1) (a.tmps[34]?.getD undef) w' := hD 5 (by kernel_rfl)
    clear hF hD
    obtain ⟨p, e34, own34⟩ := h34
    go_simp
    exact hK.out _ _ (Kp.refl _) ⟨p, rfl, own34⟩
  · intro a w' hk hF hD K hK
    have h35 : (ptrN w5.heap.size 1) (a.tmps[35]?.getD undef) w' := hD 6 (by kernel_rfl)
    clear hF hD
    obtain ⟨p, e35, own35⟩ := h35
    obtain ⟨z0, z1, z2, z3⟩ := own35.n1
    go_simp
    exact hK.out _ _ (Kp.refl _) rfl
  · intro a w' hk hF hD K hK
    have h36 : a.tmps[36]?.getD undef = .agg #[.int .i64 0, .int .i64 0, .int .i64 0, .int .i64 1] := hD 7 (by kernel_rfl)
    clear hF hD
    go_simp
    exact hK.out _ _ (Kp.refl _) rfl
  · intro a w' hk hF hD K hK
    have h33 : a.tmps[33]?.getD undef = .agg #[.int .i64 2, .int .i64 0, .int .i64 0, .int .i64 0, .int .i64 4] := hD 4 (by kernel_rfl)
    have h37 : a.tmps[37]?.getD undef = .agg #[.int .i64 1, .int .i64 0, .int .i64 0, .int .i64 0, .int .i64 1] := hD 8 (by kernel_rfl)
    clear hF hD
    go_simp
    exact hK.out _ _ ((Kp.refl w').alloc (.cells #[.int .i64 2, .int .i64 0, .int .i64 0, .int .i64 0, .int .i64 4, .int .i64 1, .int .i64 0, .int .i64 0, .int .i64 0, .int .i64 1] 46)) (G2.newSl_lit (enc := encGr) (size := 5) (l := [(2, (0, 0, 0), 4), (1, (0, 0, 0), 1)]) w' #[.int .i64 2, .int .i64 0, .int .i64 0, .int .i64 0, .int .i64 4, .int .i64 1, .int .i64 0, .int .i64 0, .int .i64 0, .int .i64 1] 46 rfl rfl)
  · intro a w' hk hF hD K hK
    have h29 : a.tmps[29]?.getD undef = .slice Ag 2 cg := hD 0 (by kernel_rfl)
    have h38 : (G2.newSl encGr 5 [(2, (0, 0, 0), 4), (1, (0, 0, 0), 1)]) (a.tmps[38]?.getD undef) w' := hD 9 (by kernel_rfl)
    clear hF hD
    obtain ⟨p, h38', hp⟩ := h38
    go_simp
    refine (EqualGr_same _ _ _ _ ((gown.sl encGr_len).keep (pl_stable _) hk) hp).mono ?_
    rintro e w9 ⟨rfl, hk9⟩
    exact hK.out _ _ hk9 rfl
  · exact fun i0 hi0 => by simp at hi0
  intro v w9 k9 hv
  have v10 : v 10 = .bool true := hv 10 (by omega)
  clear hv
  simp only [G2.growPut, G2.gSlot, List.getElem?_toArray, List.getElem?_cons_zero, List.getElem?_cons_succ, Option.bind_some, List.setIfInBounds_toArray, List.set_cons_zero, List.set_cons_succ, List.drop_succ_cons, List.drop_zero, v10]
  have hb6 := hb5.kp k9
  have c6 := k9.cellS c5
  have kw6 := kw5.trans k9
  have hs6 : cb ≤ w9.heap.size := Nat.le_trans hs5 k9.size
  obtain ⟨w6, hw6⟩ : ∃ w6, w6 = w9 := ⟨_, rfl⟩
  subst hw6
  have hb6l := hb6.lt
  have hm6l := hb6.mlt
  have hb6s := hb6.to (T := fun k => ¬ B2 b mb k ∧ k < w6.heap.size) (fun q hq hs => ⟨hs, hq⟩) (fun h => h.1 (.inl rfl)) (fun h => h.1 (.inr rfl))
  go_upto_region 10 with (fail)
  refine wp_region_growC 4 (B2 b mb) [7] 9 70 [G2.eqv (.pointer (some ⟨b, 0, none⟩)), G2.eqv (.agg #[.int .i64 0, .int .i64 1, .int .i64 0, .int .i64 1]), (newN w6.heap.size 1), (newN w6.heap.size 2), (reqP (fun k => ¬ B2 b mb k ∧ k < w6.heap.size) w6.heap.size b mb aw4 ⟨1, (0, 1, 0, 1), nd0 1⟩), (reqT), (reqA), G2.eqv (.int .i64 0), (boxP w6.heap.size)] (by kernel_rfl) (by kernel_rfl) rfl (by omega) (fun _ _ _ _ _ h => h) (stabC_cons (stabG_eq _) (stabC_cons (stabG_eq _) (stabC_cons (stabF_newN hb6l hm6l) (stabC_cons (stabF_newN hb6l hm6l) (stabC_here (stabG_cons (fun _ _ _ h _ => h) (stabG_cons (fun _ _ _ h _ => h) (stabG_cons (stabG_eq _) (stabG_cons (stabF_boxP hb6l hm6l) (stabG_nil)))))))))) (stab_reqP) ?_ ?_ ?_
  · intro i0 hi0
    have hi' : i0 = 0 ∨ i0 = 1 ∨ i0 = 2 ∨ i0 = 3 ∨ i0 = 4 ∨ i0 = 5 ∨ i0 = 6 ∨ i0 = 7 ∨ i0 = 8 := by omega
    rcases hi' with rfl | rfl | rfl | rfl | rfl | rfl | rfl | rfl | rfl
    · intro a w' hk hF hD K hK
      have hk : Fx (B2 b mb) _ w' := hk
      simp only [List.getElem?_toArray, List.getElem?_cons_zero, List.getElem?_cons_succ, Option.map_some, Option.getD_some]
      have h1 : a.tmps[1]?.getD undef = .pointer (some ⟨cb, 0, none⟩) := hF 1 (by kernel_rfl)
      clear hF hD
      have z0 := HCF.out _ _ hk c6
      go_simp
      exact hK.out _ _ (Kp.refl _) rfl
    · intro a w' hk hF hD K hK
      have hk : Fx (B2 b mb) _ w' := hk
      simp only [List.getElem?_toArray, List.getElem?_cons_zero, List.getElem?_cons_succ, Option.map_some, Option.getD_some]
      clear hF hD
      go_simp
      exact hK.out _ _ (Kp.refl _) rfl
    · intro a w' hk hF hD K hK
      have hk : Fx (B2 b mb) _ w' := hk
      simp only [List.getElem?_toArray, List.getElem?_cons_zero, List.getElem?_cons_succ, Option.map_some, Option.getD_some]
      clear hF hD
      go_simp
      refine (lRights_any 1 _).mono ?_
      rintro e w9 ⟨p, rfl, own9, hk9⟩
      exact hK.out _ _ hk9 ⟨p, rfl, own9.less hk.size⟩
    · intro a w' hk hF hD K hK
      have hk : Fx (B2 b mb) _ w' := hk
      simp only [List.getElem?_toArray, List.getElem?_cons_zero, List.getElem?_cons_succ, Option.map_some, Option.getD_some]
      clear hF hD
      go_simp
      refine (lRights_any 2 _).mono ?_
      rintro e w9 ⟨p, rfl, own9, hk9⟩
      exact hK.out _ _ hk9 ⟨p, rfl, own9.less hk.size⟩
    · intro a w' hk hF hD K hK
      have hk : Kp _ w' := hk
      simp only [List.getElem?_toArray, List.getElem?_cons_zero, List.getElem?_cons_succ, Option.map_some, Option.getD_some]
      have h42 : a.tmps[42]?.getD undef = .pointer (some ⟨b, 0, none⟩) := hD 0 (by kernel_rfl)
      have h43 : a.tmps[43]?.getD undef = .agg #[.int .i64 0, .int .i64 1, .int .i64 0, .int .i64 1] := hD 1 (by kernel_rfl)
      have h44 : (newN w6.heap.size 1) (a.tmps[44]?.getD undef) w' := hD 2 (by kernel_rfl)
      have h45 : (newN w6.heap.size 2) (a.tmps[45]?.getD undef) w' := hD 3 (by kernel_rfl)
      clear hF hD
      obtain ⟨pa, e44, own44⟩ := h44
      obtain ⟨pb, e45, own45⟩ := h45
      have hkz := hk.size
      go_simp
      have hq := bRequest_T (S := fun k => ¬ B2 b mb k ∧ k < w6.heap.size) (S2 := fun k => ¬ B2 b mb k) (b := b) (mb := mb) (s := aw3) (0, 1, 0, 1) (.slice (some ⟨pa, 0, none⟩) 1 1) (.slice (some ⟨pb, 0, none⟩) 1 1) (nd0 1) (nd0 2) (hb6s.kp hk) (fun h => h (.inl rfl)) (own44.sx fun q hq => n2 q (by omega)) (own45.sx fun q hq => n2 q (by omega))
      rw [aw_q4] at hq
      refine hq.mono ?_
      rintro e w9 ⟨v9, rfl, hn9, hb9, fx9⟩
      obtain ⟨A9, c9, rfl, -, -⟩ := hn9.form
      exact hK.out _ _ fx9 ⟨A9, c9, w'.heap.size, rfl, hkz, fx9.size, fun T t1 t2 t3 t4 => (hb9 (fun q => T q ∨ w9.heap.size ≤ q) (fun q _ hq => .inl (t1 q hq)) (fun q hq hn => by rcases Nat.lt_or_ge q w9.heap.size with hlt | hlt; exact .inl (t2 q hq hlt hn); exact .inr hlt) (fun h => by rcases h with h | h; exact t3 h; have := fx9.size; omega) (fun h => by rcases h with h | h; exact t4 h; have := fx9.size; omega)).to (fun q hq hs => by rcases hs with hs | hs; exact hs; omega) t3 t4⟩
    · intro a w' hk hF hD K hK
      have hk : Fx (B2 b mb) _ w' := hk
      simp only [List.getElem?_toArray, List.getElem?_cons_zero, List.getElem?_cons_succ, Option.map_some, Option.getD_some]
      have h46 : (reqP (fun k => ¬ B2 b mb k ∧ k < w6.heap.size) w6.heap.size b mb aw4 ⟨1, (0, 1, 0, 1), nd0 1⟩) (a.tmps[46]?.getD undef) w' := hD 4 (by kernel_rfl)
      clear hF hD
      obtain ⟨A, c, m46, e46, hb46⟩ := h46
      go_simp
      exact hK.out _ _ (Kp.refl _) ⟨A, c, rfl⟩
    · intro a w' hk hF hD K hK
      have hk : Fx (B2 b mb) _ w' := hk
      simp only [List.getElem?_toArray, List.getElem?_cons_zero, List.getElem?_cons_succ, Option.map_some, Option.getD_some]
      have h41 : (reqT) (a.tmps[41]?.getD undef) w' := hD 5 (by kernel_rfl)
      clear hF hD
      obtain ⟨A, c, e41⟩ := h41
      go_simp
      exact hK.out _ _ (Kp.refl _) ⟨A, c, rfl⟩
    · intro a w' hk hF hD K hK
      have hk : Fx (B2 b mb) _ w' := hk
      simp only [List.getElem?_toArray, List.getElem?_cons_zero, List.getElem?_cons_succ, Option.map_some, Option.getD_some]
      have h41 : (reqT) (a.tmps[41]?.getD undef) w' := hD 5 (by kernel_rfl)
      clear hF hD
      obtain ⟨A, c, e41⟩ := h41
      go_simp
      exact hK.out _ _ (Kp.refl _) rfl
    · intro a w' hk hF hD K hK
      have hk : Fx (B2 b mb) _ w' := hk
      simp only [List.getElem?_toArray, List.getElem?_cons_zero, List.getElem?_cons_succ, Option.map_some, Option.getD_some]
      clear hF hD
      go_simp
      exact hK.out _ _ ((Kp.refl _).alloc _) ⟨_, rfl, hk.size, Bx.new w' #[.int .i64 0, .int .i64 0, .int .i64 0, .int .i64 0, .int .i64 0, .slice none 0 0] 29, _, _, heap_alloc_new _ _⟩
  · intro i0 hi0
    have hi' : i0 = 7 := by simpa using hi0
    rcases hi' with rfl
    · refine ⟨by omega, fun a w' hk hF hD => ?_⟩
      simp only [List.getElem?_toArray, List.getElem?_cons_zero, List.getElem?_cons_succ, Option.map_some, Option.getD_some]
      have h41 : (reqT) (a.tmps[41]?.getD undef) w' := hD 5 (by kernel_rfl)
      clear hF hD
      obtain ⟨A, c, e41⟩ := h41
      exact ⟨.int .i64 0, rfl, Or.inl ⟨by simp [Region.wanted], fun w => by go_simp⟩⟩
  intro v w9 k9 hv
  have v8 : (boxP w6.heap.size) (v 8) w9 := hv 8 (by omega)
  have v6 : (reqA) (v 6) w9 := hv 6 (by omega)
  have v7 : v 7 = .int .i64 0 := hv 7 (by omega)
  have v4 : (reqP (fun k => ¬ B2 b mb k ∧ k < w6.heap.size) w6.heap.size b mb aw4 ⟨1, (0, 1, 0, 1), nd0 1⟩) (v 4) w9 := hv 4 (by omega)
  clear hv
  obtain ⟨rb, e5, hrb, hbx, hask⟩ := v8
  obtain ⟨A, c, e47⟩ := v6
  obtain ⟨A4, c4', m4, -, hm4, hm4', hb7⟩ := v4
  simp only [G2.growPut, G2.gSlot, List.getElem?_toArray, List.getElem?_cons_zero, List.getElem?_cons_succ, Option.bind_some, List.setIfInBounds_toArray, List.set_cons_zero, List.set_cons_succ, List.drop_succ_cons, List.drop_zero, v7, e5, e47]
  have c7 := HCF.out _ _ k9 c6
  have hbx2 := hbx.all (cs := [.int .i64 1, .int .i64 0, .int .i64 1, .int .i64 0, .int .i64 1, .slice A 1 c]) rfl
  have hth := hbx.there
  have kS := Kg.setCells (g := rb) (.inl rfl) [.int .i64 1, .int .i64 0, .int .i64 1, .int .i64 0, .int .i64 1, .slice A 1 c] 0 (Kg.refl w9 rb)
  have hrbl := hbx.lt (by simp)
  have nrb : ¬ B2 b mb rb := n2 rb (by omega)
  have hb7' := hb7 (fun k => ¬ B2 b mb k ∧ k ≠ rb) (fun k hk => ⟨hk.1, by have := hk.2; omega⟩) (fun k h1 h2 h3 => ⟨n2 k (by omega), fun e => h3 (by rw [e]; exact hask)⟩) (fun h => h.1 (.inl rfl)) (fun h => h.1 (.inr rfl))
  have hb8 := (hb7'.step kS.size (fun q hq hlt => kS.block q hlt (by simp; exact hq.2)) (kS.block b hb7'.lt (by simp; rintro rfl; exact nrb (.inl rfl))) (kS.block mb hb7'.mlt (by simp; rintro rfl; exact nrb (.inr rfl)))).to (T := fun k => ¬ B2 b mb k) (fun q _ hq => hq.1) (fun h => h (.inl rfl)) (fun h => h (.inr rfl))
  have c8 := kS.cellS c7 (by show cb ≠ rb; have h6 : cb < w6.heap.size := block_lt_of_cell c6; omega)
  have kw9 := ((kw6.fx (B2 b mb)).trans k9).kp nW
  have kw8 := Kp.setCells (a := w) (b := rb) (Nat.le_trans kw6.size hrb) [.int .i64 1, .int .i64 0, .int .i64 1, .int .i64 0, .int .i64 1, .slice A 1 c] 0 w9 kw9
  have hs8 : cb ≤ (w9.setCells rb 0 [.int .i64 1, .int .i64 0, .int .i64 1, .int .i64 0, .int .i64 1, .slice A 1 c]).heap.size := by rw [setCells_size]; exact Nat.le_trans hs6 k9.size
  refine wpList_store_mid rfl 29 (.tmp 5) (.tmp 47) rfl rb 0 #[.int .i64 1, .int .i64 0, .int .i64 1, .int .i64 0, .int .i64 1, .slice A 1 c] rfl rfl hth (by kernel_rfl) (all_oneCell_toArray (by simp [Value.oneCell'])) ?_
  go_upto_region 11 with (fail)
  generalize w9.setCells rb 0 [.int .i64 1, .int .i64 0, .int .i64 1, .int .i64 0, .int .i64 1, .slice A 1 c] = w8 at *
  clear hb7 hb7' c7 kS hbx hbx2 hth hask
  go_wp2_with fail
  refine (askC_any (S := fun k => ¬ B2 b mb k) (b := b) (mb := mb) (cb := cb) (s := aw4) 1 8 3 hb8 (fun q hq => n2 q (by have := hs8; omega)) c8).mono ?_
  rintro e w10 ⟨he, hb10, fxs⟩
  rw [aw_r5] at he
  subst he
  have c10 := HCF.out _ _ fxs c8
  have kw10 := ((kw8.fx (B2 b mb)).trans fxs).kp nW
  have hs10 : cb ≤ w10.heap.size := Nat.le_trans hs8 fxs.size
  clear fxs
  go_wp2_with fail
  refine (askC_any (S := fun k => ¬ B2 b mb k) (b := b) (mb := mb) (cb := cb) (s := aw5) 2 7 4 hb10 (fun q hq => n2 q (by have := hs10; omega)) c10).mono ?_
  rintro e w11 ⟨he, hb11, fxs⟩
  rw [aw_r6] at he
  subst he
  have c11 := HCF.out _ _ fxs c10
  have kw11 := ((kw10.fx (B2 b mb)).trans fxs).kp nW
  have hs11 : cb ≤ w11.heap.size := Nat.le_trans hs10 fxs.size
  clear fxs
  go_upto_region 13 with (fail)
  refine G2.wp_region_growT Kp [] 2 70 (G2.pvL [G2.eqv (.pointer (some ⟨b, 0, none⟩)), (newN w11.heap.size 5)]) (by kernel_rfl) (by kernel_rfl) rfl (fun x => Kp.refl x) (fun _ _ _ h k => h.trans k) (Kp.refl _).drew (fun _ _ _ _ _ h => h) (G2.pvL_keep (G2.stabL_cons (G2.stab_eq _) (G2.stabL_cons (stab_newN _ _) (G2.stabL_nil)))) (G2.stepsT_cons 0 ?_ (G2.stepsT_cons 1 ?_ (G2.stepsT_nil _ _ _))) ?_ ?_
  · intro a w' hk hF hD K hK
    have h1 : a.tmps[1]?.getD undef = .pointer (some ⟨cb, 0, none⟩) := hF 1 (by kernel_rfl)
    clear hF hD
    have z0 := hk.cellS c11
    go_simp
    exact hK.out _ _ (Kp.refl _) rfl
  · intro a w' hk hF hD K hK
    clear hF hD
    go_simp
    refine (lRights_any 5 _).mono ?_
    rintro e w9 ⟨p, rfl, own9, hk9⟩
    exact hK.out _ _ hk9 ⟨p, rfl, own9.less hk.size⟩
  · exact fun i0 hi0 => by simp at hi0
  intro v w9 k9 hv
  have v0 : v 0 = .pointer (some ⟨b, 0, none⟩) := hv 0 (by omega)
  have v1 : (newN w11.heap.size 5) (v 1) w9 := hv 1 (by omega)
  clear hv
  obtain ⟨p, e62, own62⟩ := v1
  simp only [G2.growPut, G2.gSlot, List.getElem?_toArray, List.getElem?_cons_zero, List.getElem?_cons_succ, Option.bind_some, List.setIfInBounds_toArray, List.set_cons_zero, List.set_cons_succ, List.drop_succ_cons, List.drop_zero, v0, e62]
  go_wp2_with fail
  have hs9 := k9.size
  refine (bGrants_any (S := fun k => ¬ B2 b mb k) (b := b) (mb := mb) (s := aw6) (nd0 5) (.slice (some ⟨p, 0, none⟩) 1 1) (hb11.kp k9) (fun q hq => n2 q (by omega)) (own62.sx fun q hq => n2 q (by omega))).mono ?_
  rintro e w12 ⟨gv, rfl, gown, hb12, fxs⟩
  rw [aw_g7] at gown
  have kw12 := (((kw11.trans k9).fx (B2 b mb)).trans fxs).kp nW
  clear fxs own62 k9
  obtain ⟨Ah, ch, he, -, -⟩ := gown.form
  have he : gv = .slice Ah 1 ch := he
  subst he
  go_wp2_with fail
  refine (lRights_any 3 _).mono ?_
  rintro e w13 ⟨p13, rfl, own13, k13⟩
  obtain ⟨z0, z1, z2, z3⟩ := own13.n1
  have hgr := (gown.sl encGr_len).keep (pl_stable _) k13
  have kw13 := kw12.trans k13
  have k14 := (Kp.refl w13).alloc (.cells #[.int .i64 2, .int .i64 0, .int .i64 0, .int .i64 0, .int .i64 3] 46)
  have hl14 : Grs (w13.alloc (.cells #[.int .i64 2, .int .i64 0, .int .i64 0, .int .i64 0, .int .i64 3] 46)) (.slice (some ⟨w13.heap.size, 0, none⟩) 1 1) [(2, (0, 0, 0), 3)] :=
    Sl.one (R := Pl encGr) w13 [.int .i64 2, .int .i64 0, .int .i64 0, .int .i64 0, .int .i64 3] 46 5 _ rfl rfl
  go_wp2_with fail
  refine (EqualGr_same _ _ _ _ (hgr.keep (pl_stable _) k14) hl14).mono ?_
  rintro e w15 ⟨rfl, k15⟩
  go_wp2
  go_ret
  exact ⟨rfl, (kw13.trans k14).trans k15⟩
end Go.Proofs.Ytbcekihjcgnhkaa
