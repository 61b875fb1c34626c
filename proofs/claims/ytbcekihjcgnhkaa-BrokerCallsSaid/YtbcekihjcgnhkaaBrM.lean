
/-
BrokerCalls: a broker agrees with the definitions over any calls: the walk.
-/
import Derived.Test.YtbcekihjcgnhkaaBrL
import Derived.Test.YtbcekihjcgnhkaaBrH
import Derived.Test.YtbcekihjcgnhkaaBkZa
namespace Go.Proofs.Ytbcekihjcgnhkaa
set_option linter.unusedSimpArgs false
set_option linter.unusedVariables false
open Go.RowKit

theorem HdX.turn {F F' : Nat → Prop} {w w1 : World} {vh : Value} {l : List Ak} (h : HdX F w vh l) (k : Fx F w w1) (hF : ∀ q, F' q → q < w.heap.size → F q) : HdX F' w1 vh l := by
  obtain ⟨L, e, h1, h2⟩ := h
  exact ⟨L, e, h1.turn k hF, fun x hx => (h2 x hx).turn k hF⟩
theorem RefX.turn {F F' : Nat → Prop} {w w1 : World} {b : Bk} {va vh : Value} (h : RefX F w b va vh) (k : Fx F w w1) (hF : ∀ q, F' q → q < w.heap.size → F q) : RefX F' w1 b va vh := ⟨h.all.turn k hF, h.heard.turn k hF, h.ok⟩
theorem RefX.mono {F F' : Nat → Prop} {w : World} {b : Bk} {va vh : Value} (h : RefX F w b va vh) (hF : ∀ q, F' q → F q) : RefX F' w b va vh := by
  refine ⟨h.all.mono hF, ?_, h.ok⟩
  obtain ⟨L, e, h1, h2⟩ := h.heard
  exact ⟨L, e, h1.mono hF, fun x hx => (h2 x hx).mono hF⟩
theorem ac_boxM (w : World) (cs : List Value) (h : cs.length = 9) :
    (w.alloc (.cells #[.int .i64 0, .int .i64 0, .int .i64 0, .int .i64 0, .int .i64 0, .int .i64 0, .int .i64 0, .slice none 0 0, .slice none 0 0] 62)).there w.heap.size 0 cs.length ∧ Bx ((w.alloc (.cells #[.int .i64 0, .int .i64 0, .int .i64 0, .int .i64 0, .int .i64 0, .int .i64 0, .int .i64 0, .slice none 0 0, .slice none 0 0] 62)).setCells w.heap.size 0 cs) w.heap.size cs ∧ Kp w ((w.alloc (.cells #[.int .i64 0, .int .i64 0, .int .i64 0, .int .i64 0, .int .i64 0, .int .i64 0, .int .i64 0, .slice none 0 0, .slice none 0 0] 62)).setCells w.heap.size 0 cs) ∧ w.heap.size < ((w.alloc (.cells #[.int .i64 0, .int .i64 0, .int .i64 0, .int .i64 0, .int .i64 0, .int .i64 0, .int .i64 0, .slice none 0 0, .slice none 0 0] 62)).setCells w.heap.size 0 cs).heap.size ∧ (Try.prog.info? 62).map (·.size) = some cs.length :=
  ⟨there_new w #[.int .i64 0, .int .i64 0, .int .i64 0, .int .i64 0, .int .i64 0, .int .i64 0, .int .i64 0, .slice none 0 0, .slice none 0 0] 62 cs.length (by rw [h]; rfl), (Bx.new w #[.int .i64 0, .int .i64 0, .int .i64 0, .int .i64 0, .int .i64 0, .int .i64 0, .int .i64 0, .slice none 0 0, .slice none 0 0] 62).all (cs := cs) (by rw [h]; rfl), Kp.setCells (Nat.le_refl _) cs 0 _ ((Kp.refl w).alloc _), by rw [setCells_size]; exact alloc_lt w _, by rw [h]; kernel_rfl⟩
theorem rb_box (w : World) (cs : List Value) (h : cs.length = 10) :
    (w.alloc (.cells #[.int .i64 0, .int .i64 0, .int .i64 0, .bool false, .int .i64 0, .int .i64 0, .int .i64 0, .int .i64 0, .slice none 0 0, .slice none 0 0] 58)).there w.heap.size 0 cs.length ∧ Bx ((w.alloc (.cells #[.int .i64 0, .int .i64 0, .int .i64 0, .bool false, .int .i64 0, .int .i64 0, .int .i64 0, .int .i64 0, .slice none 0 0, .slice none 0 0] 58)).setCells w.heap.size 0 cs) w.heap.size cs ∧ Kp w ((w.alloc (.cells #[.int .i64 0, .int .i64 0, .int .i64 0, .bool false, .int .i64 0, .int .i64 0, .int .i64 0, .int .i64 0, .slice none 0 0, .slice none 0 0] 58)).setCells w.heap.size 0 cs) ∧ w.heap.size < ((w.alloc (.cells #[.int .i64 0, .int .i64 0, .int .i64 0, .bool false, .int .i64 0, .int .i64 0, .int .i64 0, .int .i64 0, .slice none 0 0, .slice none 0 0] 58)).setCells w.heap.size 0 cs).heap.size ∧ (Try.prog.info? 58).map (·.size) = some cs.length :=
  ⟨there_new w #[.int .i64 0, .int .i64 0, .int .i64 0, .bool false, .int .i64 0, .int .i64 0, .int .i64 0, .int .i64 0, .slice none 0 0, .slice none 0 0] 58 cs.length (by rw [h]; rfl), (Bx.new w #[.int .i64 0, .int .i64 0, .int .i64 0, .bool false, .int .i64 0, .int .i64 0, .int .i64 0, .int .i64 0, .slice none 0 0, .slice none 0 0] 58).all (cs := cs) (by rw [h]; rfl), Kp.setCells (Nat.le_refl _) cs 0 _ ((Kp.refl w).alloc _), by rw [setCells_size]; exact alloc_lt w _, by rw [h]; kernel_rfl⟩
theorem rdAc_oneM {w : World} {cs : List Value} {x : Ac} (h : rdAc w cs x) : cs.length = 9 ∧ ∀ u ∈ cs, u.oneCell' = true := by
  obtain ⟨vn, va, rfl, h1, h2⟩ := h
  obtain ⟨A1, c1, rfl, -, -⟩ := h1.form
  obtain ⟨A2, c2, rfl, -, -⟩ := h2.form
  exact ⟨rfl, by simp [Value.oneCell']⟩
theorem acR_M {w : World} {A : Option Addr} {n c : Nat} {l : List Ac} (h : Acs w (.slice A n c) l) {k : Nat} (hk : k < l.length) :
    ∃ b o cs, A = some ⟨b, o, none⟩ ∧ b < w.heap.size ∧ w.rangeAt b (o + k * 9) cs ∧ rdAc w cs l[k] := by
  obtain ⟨b, o, cs, hA, had, hcs, hc, hr⟩ := h.at_ hk
  exact ⟨b, o, cs, hA, had, hc, hr⟩
theorem kp_rangeM {w w' : World} (hk : Kp w w') {b o : Nat} {cs : List Value} (h : w.rangeAt b o cs) : w'.rangeAt b o cs := fun j u hu => hk.cellS (h j u hu)
theorem nds_sxM {S : Nat → Prop} {w w4 : World} {v : Value} {l : List Nd} (h : Nds w v l) (k : Kp w w4) (hs : ∀ q, q < w.heap.size → S q) : Sx S w4 v l := fun w' h1 h2 => by
  have h3 : Nds { w with heap := w'.heap } v l := h.keep (pl_stable _) ⟨rfl, rfl, rfl, Nat.le_trans k.size h1, fun q hq => (h2 q (hs q hq) (Nat.lt_of_lt_of_le hq k.size)).trans (k.block hq)⟩
  exact h3
/-- the broker's blocks and the box of the reference's -/
def X3 (b mb pb : Nat) (q : Nat) : Prop := B2 b mb q ∨ q = pb
def Sq (b mb pb : Nat) (q : Nat) : Prop := ¬ X3 b mb pb q
/-- between two calls -/
structure CaW (w : World) (b mb pb : Nat) (s : Bk) (va vh : Value) (wr : World) : Prop where
  br : BrW (Sq b mb pb) wr b mb s
  box : Bx wr pb (refL s va vh)
  rf : RefX (X3 b mb pb) wr s va vh
  kp : Kp w wr
  lt : pb < wr.heap.size
theorem rest_needs (s : Bk) : (rest s).2.1.needs = [] := by
  unfold rest
  split <;> rfl
set_option maxRecDepth 8000 in
set_option maxHeartbeats 16000000 in
theorem calls_walk (nn ii : Int) (l : List Ac) (vl : Value) (w : World) (hL : Acs w vl l) : Calls Try.prog 6 #[.int .i64 nn, .int .i64 ii, vl] w fun e w' => e = .returned (.bool true) ∧ Kp w w' := by
  obtain ⟨Al0, cl0, rfl, hlc, hlm⟩ := hL.form
  go_enter Try.func6, Try.ntmps6
  go_wp2_with fail
  refine (awake41_any w).mono ?_
  rintro e w1 ⟨rfl, k1⟩
  go_wp2_with fail
  refine (rFew41_any l _ w1 (hL.keep rdAc_stable k1)).mono ?_
  rintro e w2 ⟨rfl, k2⟩
  have kw := k1.trans k2
  cases hfew : fewL l with
  | false =>
    go_wp2
    go_ret
    exact ⟨rfl, kw⟩
  | true =>
    have hll : l.length ≤ 40 := by
      unfold fewL at hfew
      simp only [Bool.and_eq_true, decide_eq_true_eq] at hfew
      exact hfew.2
    replace hfew := hid hfew
    go_wp2_with fail
    refine (bNew_any nn ii w2).mono ?_
    rintro e w3 ⟨h3, k3⟩
    have kw3 := kw.trans k3
    have hw3 := kw3.size
    rcases h3 with ⟨hbad, rfl⟩ | ⟨hbad, b, mb, rfl, hbw, hmw, hbr⟩
    · go_wp2_with fail
      refine (rNew41_any nn ii w3).mono ?_
      rintro e w4 ⟨k4, h4⟩
      rcases h4 with ⟨-, he⟩ | ⟨hb2, -⟩
      · have kw4 := kw3.trans k4
        obtain ⟨L, hL⟩ : ∃ L : List Value, Hid (L = #[.int .i64 0, .int .i64 0, .int .i64 0, .bool false, .int .i64 0, .int .i64 0, .int .i64 0, .int .i64 0, .slice none 0 0, .slice none 0 0].toList) := ⟨_, hid rfl⟩
        have he' : e = .returned (.tuple #[.agg L.toArray, .int .i64 1]) := by rw [he, hL.out]
        clear he
        subst he'
        have lL : L.length = 10 := by rw [hL.out]; rfl
        have oL := hid (show ∀ u ∈ L, u.oneCell' = true by rw [hL.out]; simp [Value.oneCell'])
        obtain ⟨hth, -, kb, hlb, hi⟩ := rb_box w4 L lL
        go_upto_region 7 with (refine wpList_store_mid rfl 58 (.tmp 9) (.tmp 34) rfl w4.heap.size 0 L.toArray rfl rfl hth hi (all_oneCell_toArray oL.out) ?_; rw [List.toList_toArray]; generalize (w4.alloc (.cells #[.int .i64 0, .int .i64 0, .int .i64 0, .bool false, .int .i64 0, .int .i64 0, .int .i64 0, .int .i64 0, .slice none 0 0, .slice none 0 0] 58)).setCells w4.heap.size 0 L = w5 at *)
        go_wp2
        go_ret
        exact ⟨rfl, kw4.trans kb⟩
      · rw [hbad] at hb2
        cases hb2
    · have hbb := hbr (fun k => ¬ B2 b mb k) (fun h => h (.inl rfl)) (fun h => h (.inr rfl))
      have hlt3 : b < w3.heap.size ∧ mb < w3.heap.size := ⟨hbb.lt, hbb.mlt⟩
      clear hbb
      go_wp2_with fail
      refine (rNew41_any nn ii w3).mono ?_
      rintro e w4 ⟨k4, h4⟩
      rcases h4 with ⟨hb2, -⟩ | ⟨hb2, vh, rfl, hrf⟩
      · rw [hbad] at hb2
        cases hb2
      · have kw4 := kw3.trans k4
        have hsN := k4.size
        have hrf2 := hrf (B2 b mb) (fun q hq => by rcases hq with rfl | rfl <;> omega)
        obtain ⟨L, hL⟩ : ∃ L : List Value, Hid (L = refL (newB nn ii) (.slice none 0 0) vh) := ⟨_, hid rfl⟩
        obtain ⟨s0, hs0⟩ : ∃ s0, s0 = newB nn ii := ⟨_, rfl⟩
        have lL : L.length = 10 := by rw [hL.out]; rfl
        have hvh : ∃ A c', vh = .slice A (newB nn ii).n.toNat c' := by
          obtain ⟨_, _, A', c', _, e2⟩ := hrf2.form
          exact ⟨A', c', e2⟩
        have oL := hid (show ∀ u ∈ L, u.oneCell' = true by
          obtain ⟨A', c', e2⟩ := hvh
          rw [hL.out, e2]
          simp [Value.oneCell'])
        clear hvh
        rw [← hL.out]
        obtain ⟨hth, hbx, kb, hlb, hi⟩ := rb_box w4 L lL
        go_upto_region 7 with (refine wpList_store_mid rfl 58 (.tmp 9) (.tmp 34) rfl w4.heap.size 0 L.toArray rfl rfl hth hi (all_oneCell_toArray oL.out) ?_; rw [List.toList_toArray]; generalize (w4.alloc (.cells #[.int .i64 0, .int .i64 0, .int .i64 0, .bool false, .int .i64 0, .int .i64 0, .int .i64 0, .int .i64 0, .slice none 0 0, .slice none 0 0] 58)).setCells w4.heap.size 0 L = w5 at *)
        have hpb : w3.heap.size ≤ w4.heap.size := hsN
        have kw5 := kw4.trans kb
        have hC0 : Hid (CaW w b mb w4.heap.size s0 (.slice none 0 0) vh w5) := hid (by
          refine ⟨?_, ?_, ?_, kw5, hlb⟩
          · rw [hs0]
            exact (hbr (Sq b mb w4.heap.size) (fun h => h (.inl (.inl rfl))) (fun h => h (.inl (.inr rfl)))).kp (k4.trans kb)
          · rw [hs0, ← hL.out]
            exact hbx
          · rw [hs0]
            refine hrf2.turn (kb.fx _) (fun q hq hl => ?_)
            rcases hq with h | h
            · exact h
            · omega)
        have hpb2 : b < w4.heap.size ∧ mb < w4.heap.size ∧ w.heap.size ≤ w4.heap.size := by have := kw4.size; omega
        have hbw2 : w.heap.size ≤ b ∧ w.heap.size ≤ mb := by have := kw.size; omega
        generalize w4.heap.size = pb at *
        clear hrf hrf2 hbr k4 kw4 kb hi hth hbx hL oL lL kw3 k3 hw3 hlt3 hsN hbw hmw hpb hbad hb2
        go_wp2_with fail
        go_loopw [8, 10, 50] (fun ev fv i wr => ∃ (k : Nat) (er : Int) (s : Bk) (va vh : Value), k ≤ l.length ∧ i = .int .i64 (k : Int) ∧ ev = .int .i64 er ∧ fv = .int .i64 er ∧ CaW w b mb pb s va vh wr) (fun _ _ i _ => l.length - (intOf i).toNat)
        case atStart => exact ⟨0, 0, _, _, _, Nat.zero_le _, rfl, rfl, rfl, hC0.out⟩
        case round =>
          clear hC0 hlb kw5
          obtain ⟨k, er0, s, va, vh, hk, rfl, rfl, rfl, hC⟩ := hrel
          obtain ⟨wo, rfl⟩ : ∃ wo : World, wo = wr := ⟨_, rfl⟩
          by_cases hlt : k < l.length
          · have hkl : (k : Int) < (l.length : Int) := by omega
            have hk0 : (0 : Int) ≤ (k : Int) := by omega
            obtain ⟨ga, o, cs, rfl, hga, hr0, hx⟩ := acR_M hL hlt
            have hr1 := kp_rangeM hC.kp hr0
            obtain ⟨hcs, h1c⟩ := rdAc_oneM hx
            have H1C := hid h1c
            have HX := hid hx
            obtain ⟨hth, hbx, kb, hlb, hi⟩ := ac_boxM wo cs hcs
            clear hr0 hx h1c hcs
            generalize l[k] = x at *
            go_upto_region 14 with (first | (refine wpList_load_mid rfl 62 (.tmp 52) rfl ga (o + k * 9) rfl cs _ hr1 Try.underlying62 rfl hi ?_) | (refine wpList_store_mid rfl 62 (.tmp 12) (.tmp 53) rfl wo.heap.size 0 cs.toArray rfl rfl hth hi (all_oneCell_toArray H1C.out) ?_; generalize (wo.alloc (.cells #[.int .i64 0, .int .i64 0, .int .i64 0, .int .i64 0, .int .i64 0, .int .i64 0, .int .i64 0, .slice none 0 0, .slice none 0 0] 62)).setCells wo.heap.size 0 cs = w6 at *))
            clear hth hi hr1 H1C
            obtain ⟨vn, vl', rfl, hn, ha⟩ := HX.out
            clear HX
            obtain ⟨An, cn, rfl, -, -⟩ := hn.form
            obtain ⟨Al, cl, rfl, -, -⟩ := ha.form
            obtain ⟨xk, xf, ⟨num, ⟨p1, p2, p3, p4⟩, ns⟩, al⟩ := x
            dsimp only at *
            have k7 := ((Kp.refl w6).alloc (.cells #[.int .i64 0, .int .i64 0, .int .i64 0, .int .i64 0, .int .i64 0, .slice none 0 0] 29)).alloc (.cells #[.int .i64 0, .int .i64 0, .int .i64 0, .int .i64 0, .int .i64 0, .slice none 0 0] 29)
            have BX := (Bx.new w6 #[.int .i64 0, .int .i64 0, .int .i64 0, .int .i64 0, .int .i64 0, .slice none 0 0] 29).kp ((Kp.refl (w6.alloc (.cells #[.int .i64 0, .int .i64 0, .int .i64 0, .int .i64 0, .int .i64 0, .slice none 0 0] 29))).alloc (.cells #[.int .i64 0, .int .i64 0, .int .i64 0, .int .i64 0, .int .i64 0, .slice none 0 0] 29)) (by rw [World.size_alloc]; omega)
            have BY := Bx.new (w6.alloc (.cells #[.int .i64 0, .int .i64 0, .int .i64 0, .int .i64 0, .int .i64 0, .slice none 0 0] 29)) #[.int .i64 0, .int .i64 0, .int .i64 0, .int .i64 0, .int .i64 0, .slice none 0 0] 29
            rw [World.size_alloc] at BY
            have hs7 : ((w6.alloc (.cells #[.int .i64 0, .int .i64 0, .int .i64 0, .int .i64 0, .int .i64 0, .slice none 0 0] 29)).alloc (.cells #[.int .i64 0, .int .i64 0, .int .i64 0, .int .i64 0, .int .i64 0, .slice none 0 0] 29)).heap.size = w6.heap.size + 2 := by simp
            go_upto_region 17 with (fail)
            generalize (w6.alloc (.cells #[.int .i64 0, .int .i64 0, .int .i64 0, .int .i64 0, .int .i64 0, .slice none 0 0] 29)).alloc (.cells #[.int .i64 0, .int .i64 0, .int .i64 0, .int .i64 0, .int .i64 0, .slice none 0 0] 29) = w7 at *
            have hwo := hC.lt
            have hz6 := kb.size
            obtain ⟨xb, hxb⟩ : ∃ xb, xb = w6.heap.size := ⟨_, rfl⟩
            obtain ⟨yb, hyb⟩ : ∃ yb, yb = xb + 1 := ⟨_, rfl⟩
            rw [← hxb] at BX BY hs7 ⊢
            rw [← hyb] at BY ⊢
            try simp only [List.toList_toArray] at BX BY
            obtain ⟨ab, hab⟩ : ∃ ab, ab = wo.heap.size := ⟨_, rfl⟩
            rw [← hab] at hbx hlb ⊢
            have hord : pb < wo.heap.size ∧ wo.heap.size ≤ ab ∧ ab < xb ∧ xb < yb ∧ yb < w7.heap.size ∧ b < pb ∧ mb < pb := by omega
            replace hxb := hid hxb
            replace hyb := hid hyb
            replace hab := hid hab
            have kb7 := kb.trans k7
            have kw7 := hC.kp.trans kb7
            obtain ⟨S', hS'⟩ : ∃ S' : Nat → Prop, S' = fun q => Sq b mb pb q ∧ q ≠ xb ∧ q ≠ yb := ⟨_, rfl⟩
            obtain ⟨X4, hX4⟩ : ∃ X4 : Nat → Prop, X4 = fun q => X3 b mb pb q ∨ q = xb ∨ q = yb := ⟨_, rfl⟩
            have sB : ∀ q, S' q → ¬ B2 b mb q := fun q hq h => by rw [hS'] at hq; exact hq.1 (.inl h)
            have sN : ∀ q, S' q → ¬ q = pb ∧ ¬ q = xb ∧ ¬ q = yb := fun q hq => by rw [hS'] at hq; exact ⟨fun e => hq.1 (.inr e), hq.2⟩
            have sI : ∀ q, yb < q → S' q := fun q hq => by rw [hS']; refine ⟨fun h => ?_, by omega, by omega⟩; rcases h with (h | h) | h <;> omega
            have sU : ∀ q, S' q → Sq b mb pb q := fun q hq => by rw [hS'] at hq; exact hq.1
            have sL : ∀ q, q < w.heap.size → S' q := fun q hq => by rw [hS']; refine ⟨fun h => ?_, by omega, by omega⟩; rcases h with (h | h) | h <;> omega
            have xl : ∀ q, X4 q → q < w7.heap.size := fun q hq => by rw [hX4] at hq; rcases hq with ((h | h) | h) | h | h <;> omega
            have xB : ∀ q, B2 b mb q → X4 q := fun q hq => by rw [hX4]; exact .inl (.inl hq)
            have x3 : ∀ q, X3 b mb pb q → X4 q := fun q hq => by rw [hX4]; exact .inl hq
            have xN : ∀ q, q = pb ∨ q = xb ∨ q = yb → X4 q := fun q hq => by rw [hX4]; rcases hq with h | h; exact .inl (.inr h); exact .inr h
            have xW : ∀ q, q < w.heap.size → ¬ X4 q := fun q hq h => by rw [hX4] at h; rcases h with ((h | h) | h) | h | h <;> omega
            have HB7 : BrW S' w7 b mb s := (hC.br.to (T := S') (fun q hq h => by rw [hS']; exact ⟨h, by omega, by omega⟩) (fun h => sB _ h (.inl rfl)) (fun h => sB _ h (.inr rfl))).kp kb7
            have RF7 : RefX X4 w7 s va vh := hC.rf.turn (kb7.fx _) (fun q hq hl => by rw [hX4] at hq; rcases hq with h | h | h; exact h; omega; omega)
            have PB7 := hC.box.kp kb7 hwo
            have AB7 := hbx.kp k7 hlb
            have hSn : ∀ W, Kp w W → Sx (fun q => q < w.heap.size) W (.slice An ns.length cn) ns := fun W hW => nds_sxM hn hW (fun q hq => hq)
            have hSa : ∀ W, Kp w W → Sx (fun q => q < w.heap.size) W (.slice Al al.length cl) al := fun W hW => nds_sxM ha hW (fun q hq => hq)
            have hS2b : ¬ (fun q => q < w.heap.size) b := by show ¬ b < w.heap.size; omega
            clear hC hbx hlb kb k7 hz6 kb7 hS' hX4 hs7
            have c0 := AB7.cell (j := 0) rfl
            have c1 := AB7.cell (j := 1) rfl
            have c2 := AB7.cell (j := 2) rfl
            have c3 := AB7.cell (j := 3) rfl
            have c4 := AB7.cell (j := 4) rfl
            have c5 := AB7.cell (j := 5) rfl
            have c6 := AB7.cell (j := 6) rfl
            have c7 := AB7.cell (j := 7) rfl
            have c8 := AB7.cell (j := 8) rfl
            by_cases x0 : xk = 0
            · have g0 : (xk == 0) = true := by simpa using x0
              replace x0 := hid x0
              go_wp2_with fail
              refine (bRequest_U (S := S') (S2 := fun q => q < w.heap.size) (b := b) (mb := mb) (s := s) (p1, p2, p3, p4) (.slice An ns.length cn) (.slice Al al.length cl) ns al HB7 hS2b (hSn w7 kw7) (hSa w7 kw7)).mono ?_
              have HRR := hid (fun (W : World) (h1 : RefX X4 W s va vh) (h2 : ∀ q, X4 q → q < W.heap.size) (h3 : Kp w W) => rRequest41_any X4 s (p1, p2, p3, p4) ns al (.slice An ns.length cn) (.slice Al al.length cl) va vh W h1 h2 (hn.keep (pl_stable _) h3) (ha.keep (pl_stable _) h3))
              obtain ⟨r, hr⟩ : ∃ r, r = request s (p1, p2, p3, p4) ns al := ⟨_, rfl⟩
              rw [← hr] at HRR ⊢
              clear hr
              obtain ⟨s', ak, er⟩ := r
              dsimp only at HRR ⊢
              rintro e w8 ⟨v8, he, own8, hT, fx8⟩
              have HB8 := hT S' (fun q _ h => h) (fun q hq _ => sI q (by omega)) (fun h => sB _ h (.inl rfl)) (fun h => sB _ h (.inr rfl))
              have hNx8 : OwF X4 w8 fun w' => Nds w' v8 ak.needs := (own8.owF xl).imp fun _ h => h.sl encNd_len
              clear own8 hT
              obtain ⟨A8, cc8, hv8, -, -⟩ := hNx8.here.form
              obtain ⟨cx, hcx⟩ : ∃ cx, cx = askL ak v8 := ⟨_, rfl⟩
              have hlx : cx.length = 6 := by rw [hcx]; rfl
              have H16 := hid (show ∀ u ∈ cx, u.oneCell' = true by rw [hcx, hv8]; simp [askL, Value.oneCell'])
              try dsimp only at he
              rw [show askV ak v8 = .agg (askL ak v8).toArray from rfl, ← hcx] at he
              subst he
              replace hcx := hid hcx
              replace hv8 := hid hv8
              have hxl := BX.lt (by simp)
              have hyl := BY.lt (by simp)
              have hpl := PB7.lt (by simp)
              have hal := AB7.lt (by simp)
              have hnb : ¬ B2 b mb xb ∧ ¬ B2 b mb yb ∧ ¬ B2 b mb pb ∧ ¬ B2 b mb ab := ⟨fun h => by rcases h with h | h <;> omega, fun h => by rcases h with h | h <;> omega, fun h => by rcases h with h | h <;> omega, fun h => by rcases h with h | h <;> omega⟩
              have BX8 := BX.fx fx8 hxl hnb.1
              have hth : w8.there xb 0 cx.toArray.size := by simpa [hlx] using BX8.thereAt 0 6 (by simp)
              have hi : (Try.prog.info? 29).map (·.size) = some cx.toArray.size := by simp only [List.size_toArray, hlx]; kernel_rfl
              have fx89 : Fx (fun q => q = xb) w8 (w8.setCells xb 0 cx) := (Kg.setCells (.inl rfl) cx 0 (Kg.refl w8 xb)).fx (.inl rfl)
              have BX9 := BX8.all (cs := cx) (by rw [hlx]; rfl)
              go_upto_region 22 with (refine wpList_store_mid rfl 29 (.tmp 13) (.tmp 80) rfl xb 0 cx.toArray rfl rfl hth hi (all_oneCell_toArray H16.out) ?_; rw [List.toList_toArray]; generalize w8.setCells xb 0 cx = w9 at *)
              have HB9 := HB8.fx fx89 (fun q hq e => (sN q hq).2.1 e) (by omega) (by omega)
              have fx79 : Fx X4 w7 w9 := (fx8.mono (fun q _ hq => xB q hq)).trans (fx89.mono (fun q _ hq => xN q (.inr (.inl hq))))
              have RF9 := RF7.fx fx79
              have PB9 := (PB7.fx fx8 hpl hnb.2.2.1).fx fx89 (Nat.lt_of_lt_of_le hpl fx8.size) (fun e => by omega)
              have AB9 := (AB7.fx fx8 hal hnb.2.2.2).fx fx89 (Nat.lt_of_lt_of_le hal fx8.size) (fun e => by omega)
              have BY9 := (BY.fx fx8 hyl hnb.2.1).fx fx89 (Nat.lt_of_lt_of_le hyl fx8.size) (fun e => by omega)
              have kw9 : Kp w w9 := ((kw7.fx X4).trans fx79).kp xW
              have hNx9 := hNx8.fx (fx89.mono (fun q _ hq => xN q (.inr (.inl hq))))
              clear c0 c1 c2 c3 c4 c5 c6 c7 c8 hth hi BX8 HB8 fx8 fx89 hNx8 hSn hSa HB7 hxl hyl hpl hal hnb BX BY PB7 AB7
              have c0 := (AB9).cell (j := 0) rfl
              have c1 := (AB9).cell (j := 1) rfl
              have c2 := (AB9).cell (j := 2) rfl
              have c3 := (AB9).cell (j := 3) rfl
              have c4 := (AB9).cell (j := 4) rfl
              have c5 := (AB9).cell (j := 5) rfl
              have c6 := (AB9).cell (j := 6) rfl
              have c7 := (AB9).cell (j := 7) rfl
              have c8 := (AB9).cell (j := 8) rfl
              obtain ⟨LP, hLP⟩ : ∃ LP : List Value, Hid (LP = refL s va vh) := ⟨_, hid rfl⟩
              rw [← hLP.out] at PB9 HRR
              have rL := PB9.range
              have lLP : LP.length = 10 := by rw [hLP.out]; rfl
              have iL : (Try.prog.info? 58).map (·.size) = some LP.length := by rw [lLP]; kernel_rfl
              go_wp2_with (first | (refine wpList_load_mid rfl 58 (.tmp 9) rfl pb 0 rfl LP _ rL Try.underlying58 rfl iL ?_) | fail)
              refine (HRR.out w9 RF9 (fun q hq => Nat.lt_of_lt_of_le (xl q hq) fx79.size) kw9).mono ?_
              rintro e w10 ⟨k10, va', vq, he, hNq, RF10⟩
              obtain ⟨vh', hvh'⟩ : ∃ vh', vh' = vh := ⟨_, rfl⟩
              rw [← hvh'] at he RF10
              obtain ⟨AQ, cQ, hvq, -, -⟩ := hNq.here.form
              obtain ⟨cy, hcy⟩ : ∃ cy, cy = askL ak vq := ⟨_, rfl⟩
              obtain ⟨LQ, hLQ⟩ : ∃ LQ : List Value, LQ = refL s' va' vh' := ⟨_, rfl⟩
              have hly : cy.length = 6 := by rw [hcy]; rfl
              have lLQ : LQ.length = 10 := by rw [hLQ]; rfl
              have H26 := hid (show ∀ u ∈ cy, u.oneCell' = true by rw [hcy, hvq]; simp [askL, Value.oneCell'])
              have oQ := hid (show ∀ u ∈ LQ, u.oneCell' = true by
                obtain ⟨Aa, ca, Ab, cb, ea, eb⟩ := RF10.form
                rw [hLQ, ea, eb]
                simp [Value.oneCell'])
              try dsimp only at he
              rw [show askV ak vq = .agg (askL ak vq).toArray from rfl, ← hcy, ← hLQ] at he
              subst he
              replace hcy := hid hcy
              replace hLQ := hid hLQ
              replace hvq := hid hvq
              have PB10 := PB9.kp k10 (PB9.lt (by omega))
              have BY10 := BY9.kp k10 (BY9.lt (by simp))
              have BX10 := BX9.kp k10 (BX9.lt (by omega))
              have hthB : w10.there pb 0 LQ.toArray.size := by simpa [lLQ] using PB10.thereAt 0 10 (by omega)
              have iQ : (Try.prog.info? 58).map (·.size) = some LQ.toArray.size := by simp only [List.size_toArray, lLQ]; kernel_rfl
              have iA : (Try.prog.info? 29).map (·.size) = some cy.toArray.size := by simp only [List.size_toArray, hly]; kernel_rfl
              obtain ⟨w11, hw11⟩ : ∃ w11, w11 = w10.setCells pb 0 LQ := ⟨_, rfl⟩
              have fx11 : Fx (fun q => q = pb) w10 w11 := by rw [hw11]; exact (Kg.setCells (.inl rfl) LQ 0 (Kg.refl w10 pb)).fx (.inl rfl)
              have PB11 : Bx w11 pb LQ := by rw [hw11]; exact PB10.all (by omega)
              have BY11 := BY10.fx fx11 (BY10.lt (by simp)) (fun e => by omega)
              have hthY : w11.there yb 0 cy.toArray.size := by simpa [hly] using BY11.thereAt 0 6 (by simp)
              obtain ⟨w12, hw12⟩ : ∃ w12, w12 = w11.setCells yb 0 cy := ⟨_, rfl⟩
              have fx12 : Fx (fun q => q = yb) w11 w12 := by rw [hw12]; exact (Kg.setCells (.inl rfl) cy 0 (Kg.refl w11 yb)).fx (.inl rfl)
              have BY12 : Bx w12 yb cy := by rw [hw12]; exact BY11.all (by rw [hly]; rfl)
              replace hw11 := hid hw11
              replace hw12 := hid hw12
              go_upto_region 29 with (first | (refine wpList_store_mid rfl 58 (.tmp 9) (.tmp 93) rfl pb 0 LQ.toArray rfl rfl hthB iQ (all_oneCell_toArray oQ.out) ?_; rw [List.toList_toArray, ← hw11.out]) | (refine wpList_store_mid rfl 29 (.tmp 14) (.tmp 94) rfl yb 0 cy.toArray rfl rfl hthY iA (all_oneCell_toArray H26.out) ?_; rw [List.toList_toArray, ← hw12.out]) | fail)
              have fxA : Fx X4 w10 w12 := (fx11.mono (fun q _ hq => xN q (.inl hq))).trans (fx12.mono (fun q _ hq => xN q (.inr (.inr hq))))
              have RF := RF10.fx fxA
              have PB := PB11.fx fx12 (PB11.lt (by omega)) (fun e => by omega)
              have BXf := (BX10.fx fx11 (BX10.lt (by omega)) (fun e => by omega)).fx fx12 (by have := (BX10.fx fx11 (BX10.lt (by omega)) (fun e => by omega)).lt (by omega); exact this) (fun e => by omega)
              have kwf : Kp w w12 := (((kw9.trans k10).fx X4).trans fxA).kp xW
              have hNx := ((hNx9.kp k10).fx fxA).here
              have hNy := (hNq.fx fxA).here
              have HB := ((HB9.kp k10).fx fx11 (fun q hq e => (sN q hq).1 e) (by omega) (by omega)).fx fx12 (fun q hq e => (sN q hq).2.2 e) (by omega) (by omega)
              clear c0 c1 c2 c3 c4 c5 c6 c7 c8 hthB hthY iQ iA fx11 fx12 PB11 BY11 BY10 BX10 PB10 k10 fxA hNx9 hNq HB9 RF9 RF10 rL fx79 AB9 BY9 BX9 PB9 iL HRR
              obtain ⟨an, ⟨a1, a2, a3, a4⟩, anl⟩ := ak
              obtain ⟨ew8, hew8⟩ : ∃ u, u = v8 := ⟨_, rfl⟩
              have hv8' := hv8.out
              have hvq' := hvq.out
              subst hv8' hvq'
              dsimp only at hNx hNy hcx hcy
              have BXg := BXf
              have BYg := BY12
              rw [hcx.out] at BXg
              rw [hcy.out] at BYg
              have u0 := BXg.cell (j := 0) rfl
              have u1 := BXg.cell (j := 1) rfl
              have u2 := BXg.cell (j := 2) rfl
              have u3 := BXg.cell (j := 3) rfl
              have u4 := BXg.cell (j := 4) rfl
              have u5 := BXg.cell (j := 5) rfl
              have v0 := BYg.cell (j := 0) rfl
              have v1 := BYg.cell (j := 1) rfl
              have v2 := BYg.cell (j := 2) rfl
              have v3 := BYg.cell (j := 3) rfl
              have v4 := BYg.cell (j := 4) rfl
              have v5 := BYg.cell (j := 5) rfl
              have HS := hid (fun W (h : Kp w12 W) => rSame41_refl _ _ ⟨an, (a1, a2, a3, a4), anl⟩ W (hNx.keep (pl_stable _) h) (hNy.keep (pl_stable _) h))
              have HE := hid (fun W (h : Kp w12 W) => EqualGr_same (.slice none 0 0) (.slice none 0 0) [] W (((Sl.nil (Pl encGr) 5 w12)).keep (pl_stable _) h) (((Sl.nil (Pl encGr) 5 w12)).keep (pl_stable _) h))
              have HQ := hid (fun W (h : Kp w12 W) => bRequests_any (HB.kp h))
              have HRq := hid (fun W (h : Kp w12 W) => rRequests_any X4 s' va' vh' W (RF.kp h))
              rw [← hLQ.out] at HRq
              have lLQ2 : LQ.length = 10 := by rw [hLQ.out]; rfl
              have iQ2 : (Try.prog.info? 58).map (·.size) = some LQ.length := by rw [lLQ2]; kernel_rfl
              have rLQ := hid (fun W (h : Kp w12 W) => (PB.kp h (PB.lt (by omega))).range)
              have e0 : ((er) != (er)) = false := by simp
              have eok : ((false) != (false)) = false := by simp
              clear BXg BYg hew8
              refine G2.wp_region_growT Kp [] 27 155 (G2.pvL [G2.eqv (.int .i64 (er)), G2.eqv (.int .i64 (er)), G2.eqv (.bool false), G2.eqv (.bool false), G2.eqv (.bool (false)), G2.eqv (.bool (false)), G2.eqv (.bool false), G2.eqv (.bool false), G2.eqv (.bool false), G2.eqv (.agg #[.int .i64 an, .int .i64 a1, .int .i64 a2, .int .i64 a3, .int .i64 a4, .slice A8 anl.length cc8]), G2.eqv (.agg #[.int .i64 an, .int .i64 a1, .int .i64 a2, .int .i64 a3, .int .i64 a4, .slice AQ anl.length cQ]), G2.eqv (.bool true), G2.eqv (.bool false), G2.eqv (.bool false), G2.eqv (.bool false), G2.eqv ((.slice none 0 0)), G2.eqv ((.slice none 0 0)), G2.eqv (.bool true), G2.eqv (.bool false), G2.eqv (.bool false), G2.eqv (.bool false), G2.eqv (.pointer (some ⟨b, 0, none⟩)), (fun v W => Aks W v (reqL s')), G2.eqv (.agg LQ.toArray), (fun v W => Aks W v (reqL s')), G2.eqv (.bool true), G2.eqv (.bool false)]) (by kernel_rfl) (by kernel_rfl) rfl (fun x => Kp.refl x) (fun _ _ _ h k => h.trans k) (Kp.refl _).drew (by intro _ _ _ _ _ h; exact h) (G2.pvL_keep (G2.stabL_cons (G2.stab_eq _) (G2.stabL_cons (G2.stab_eq _) (G2.stabL_cons (G2.stab_eq _) (G2.stabL_cons (G2.stab_eq _) (G2.stabL_cons (G2.stab_eq _) (G2.stabL_cons (G2.stab_eq _) (G2.stabL_cons (G2.stab_eq _) (G2.stabL_cons (G2.stab_eq _) (G2.stabL_cons (G2.stab_eq _) (G2.stabL_cons (G2.stab_eq _) (G2.stabL_cons (G2.stab_eq _) (G2.stabL_cons (G2.stab_eq _) (G2.stabL_cons (G2.stab_eq _) (G2.stabL_cons (G2.stab_eq _) (G2.stabL_cons (G2.stab_eq _) (G2.stabL_cons (G2.stab_eq _) (G2.stabL_cons (G2.stab_eq _) (G2.stabL_cons (G2.stab_eq _) (G2.stabL_cons (G2.stab_eq _) (G2.stabL_cons (G2.stab_eq _) (G2.stabL_cons (G2.stab_eq _) (G2.stabL_cons (G2.stab_eq _) (G2.stabL_cons (fun _ _ _ h k => h.keep rdAk_stable k) (G2.stabL_cons (G2.stab_eq _) (G2.stabL_cons (fun _ _ _ h k => h.keep rdAk_stable k) (G2.stabL_cons (G2.stab_eq _) (G2.stabL_cons (G2.stab_eq _) (G2.stabL_nil))))))))))))))))))))))))))))) (G2.stepsT_cons 0 ?_ (G2.stepsT_cons 1 ?_ (G2.stepsT_cons 2 ?_ (G2.stepsT_cons 3 ?_ (G2.stepsT_cons 4 ?_ (G2.stepsT_cons 5 ?_ (G2.stepsT_cons 6 ?_ (G2.stepsT_cons 7 ?_ (G2.stepsT_cons 8 ?_ (G2.stepsT_cons 9 ?_ (G2.stepsT_cons 10 ?_ (G2.stepsT_cons 11 ?_ (G2.stepsT_cons 12 ?_ (G2.stepsT_cons 13 ?_ (G2.stepsT_cons 14 ?_ (G2.stepsT_cons 15 ?_ (G2.stepsT_cons 16 ?_ (G2.stepsT_cons 17 ?_ (G2.stepsT_cons 18 ?_ (G2.stepsT_cons 19 ?_ (G2.stepsT_cons 20 ?_ (G2.stepsT_cons 21 ?_ (G2.stepsT_cons 22 ?_ (G2.stepsT_cons 23 ?_ (G2.stepsT_cons 24 ?_ (G2.stepsT_cons 25 ?_ (G2.stepsT_cons 26 ?_ (G2.stepsT_nil _ _ _)))))))))))))))))))))))))))) ?_ ?_
              · intro a w' hk hF hD K hK
                have h8 : a.tmps[8]?.getD undef = .int .i64 (er) := hF 8 (by kernel_rfl)
                clear hF hD
                go_simp
                exact hK.out _ _ (Kp.refl _) rfl
              · intro a w' hk hF hD K hK
                have h10 : a.tmps[10]?.getD undef = .int .i64 (er) := hF 10 (by kernel_rfl)
                clear hF hD
                go_simp
                exact hK.out _ _ (Kp.refl _) rfl
              · intro a w' hk hF hD K hK
                have h126 : a.tmps[126]?.getD undef = .int .i64 (er) := hD 0 (by kernel_rfl)
                have h127 : a.tmps[127]?.getD undef = .int .i64 (er) := hD 1 (by kernel_rfl)
                clear hF hD
                go_simp
                exact hK.out _ _ (Kp.refl _) rfl
              · intro a w' hk hF hD K hK
                have h128 : a.tmps[128]?.getD undef = .bool false := hD 2 (by kernel_rfl)
                clear hF hD
                go_simp
                exact hK.out _ _ (Kp.refl _) rfl
              · intro a w' hk hF hD K hK
                have h17 : a.tmps[17]?.getD undef = .bool (false) := hF 17 (by kernel_rfl)
                have h129 : a.tmps[129]?.getD undef = .bool false := hD 3 (by kernel_rfl)
                have g129 := guard_get h129
                clear hF hD
                go_simp
                exact hK.out _ _ (Kp.refl _) rfl
              · intro a w' hk hF hD K hK
                have h18 : a.tmps[18]?.getD undef = .bool (false) := hF 18 (by kernel_rfl)
                have h129 : a.tmps[129]?.getD undef = .bool false := hD 3 (by kernel_rfl)
                have g129 := guard_get h129
                clear hF hD
                go_simp
                exact hK.out _ _ (Kp.refl _) rfl
              · intro a w' hk hF hD K hK
                have h130 : a.tmps[130]?.getD undef = .bool (false) := hD 4 (by kernel_rfl)
                have h131 : a.tmps[131]?.getD undef = .bool (false) := hD 5 (by kernel_rfl)
                have h129 : a.tmps[129]?.getD undef = .bool false := hD 3 (by kernel_rfl)
                have g129 := guard_get h129
                clear hF hD
                go_simp
                exact hK.out _ _ (Kp.refl _) rfl
              · intro a w' hk hF hD K hK
                have h129 : a.tmps[129]?.getD undef = .bool false := hD 3 (by kernel_rfl)
                have h132 : a.tmps[132]?.getD undef = .bool false := hD 6 (by kernel_rfl)
                clear hF hD
                go_simp
                exact hK.out _ _ (Kp.refl _) rfl
              · intro a w' hk hF hD K hK
                have h133 : a.tmps[133]?.getD undef = .bool false := hD 7 (by kernel_rfl)
                clear hF hD
                go_simp
                exact hK.out _ _ (Kp.refl _) rfl
              · intro a w' hk hF hD K hK
                have h13 : a.tmps[13]?.getD undef = .pointer (some ⟨xb, 0, none⟩) := hF 13 (by kernel_rfl)
                have h134 : a.tmps[134]?.getD undef = .bool false := hD 8 (by kernel_rfl)
                have g134 := guard_get h134
                clear hF hD
                have z0 := hk.cellS u0
                have z1 := hk.cellS u1
                have z2 := hk.cellS u2
                have z3 := hk.cellS u3
                have z4 := hk.cellS u4
                have z5 := hk.cellS u5
                go_simp
                exact hK.out _ _ (Kp.refl _) rfl
              · intro a w' hk hF hD K hK
                have h14 : a.tmps[14]?.getD undef = .pointer (some ⟨yb, 0, none⟩) := hF 14 (by kernel_rfl)
                have h134 : a.tmps[134]?.getD undef = .bool false := hD 8 (by kernel_rfl)
                have g134 := guard_get h134
                clear hF hD
                have z0 := hk.cellS v0
                have z1 := hk.cellS v1
                have z2 := hk.cellS v2
                have z3 := hk.cellS v3
                have z4 := hk.cellS v4
                have z5 := hk.cellS v5
                go_simp
                exact hK.out _ _ (Kp.refl _) rfl
              · intro a w' hk hF hD K hK
                have h135 : a.tmps[135]?.getD undef = .agg #[.int .i64 an, .int .i64 a1, .int .i64 a2, .int .i64 a3, .int .i64 a4, .slice A8 anl.length cc8] := hD 9 (by kernel_rfl)
                have h136 : a.tmps[136]?.getD undef = .agg #[.int .i64 an, .int .i64 a1, .int .i64 a2, .int .i64 a3, .int .i64 a4, .slice AQ anl.length cQ] := hD 10 (by kernel_rfl)
                have h134 : a.tmps[134]?.getD undef = .bool false := hD 8 (by kernel_rfl)
                have g134 := guard_get h134
                clear hF hD
                go_simp
                refine (HS.out _ hk).mono ?_
                rintro e w9 ⟨rfl, hk9⟩
                exact hK.out _ _ hk9 rfl
              · intro a w' hk hF hD K hK
                have h137 : a.tmps[137]?.getD undef = .bool true := hD 11 (by kernel_rfl)
                have h134 : a.tmps[134]?.getD undef = .bool false := hD 8 (by kernel_rfl)
                have g134 := guard_get h134
                clear hF hD
                go_simp
                exact hK.out _ _ (Kp.refl _) rfl
              · intro a w' hk hF hD K hK
                have h134 : a.tmps[134]?.getD undef = .bool false := hD 8 (by kernel_rfl)
                have h138 : a.tmps[138]?.getD undef = .bool false := hD 12 (by kernel_rfl)
                clear hF hD
                go_simp
                exact hK.out _ _ (Kp.refl _) rfl
              · intro a w' hk hF hD K hK
                have h139 : a.tmps[139]?.getD undef = .bool false := hD 13 (by kernel_rfl)
                clear hF hD
                go_simp
                exact hK.out _ _ (Kp.refl _) rfl
              · intro a w' hk hF hD K hK
                have h15 : a.tmps[15]?.getD undef = (.slice none 0 0) := hF 15 (by kernel_rfl)
                have h140 : a.tmps[140]?.getD undef = .bool false := hD 14 (by kernel_rfl)
                have g140 := guard_get h140
                clear hF hD
                go_simp
                exact hK.out _ _ (Kp.refl _) rfl
              · intro a w' hk hF hD K hK
                have h16 : a.tmps[16]?.getD undef = (.slice none 0 0) := hF 16 (by kernel_rfl)
                have h140 : a.tmps[140]?.getD undef = .bool false := hD 14 (by kernel_rfl)
                have g140 := guard_get h140
                clear hF hD
                go_simp
                exact hK.out _ _ (Kp.refl _) rfl
              · intro a w' hk hF hD K hK
                have h141 : a.tmps[141]?.getD undef = (.slice none 0 0) := hD 15 (by kernel_rfl)
                have h142 : a.tmps[142]?.getD undef = (.slice none 0 0) := hD 16 (by kernel_rfl)
                have h140 : a.tmps[140]?.getD undef = .bool false := hD 14 (by kernel_rfl)
                have g140 := guard_get h140
                clear hF hD
                go_simp
                refine (HE.out _ hk).mono ?_
                rintro e w9 ⟨rfl, hk9⟩
                exact hK.out _ _ hk9 rfl
              · intro a w' hk hF hD K hK
                have h143 : a.tmps[143]?.getD undef = .bool true := hD 17 (by kernel_rfl)
                have h140 : a.tmps[140]?.getD undef = .bool false := hD 14 (by kernel_rfl)
                have g140 := guard_get h140
                clear hF hD
                go_simp
                exact hK.out _ _ (Kp.refl _) rfl
              · intro a w' hk hF hD K hK
                have h140 : a.tmps[140]?.getD undef = .bool false := hD 14 (by kernel_rfl)
                have h144 : a.tmps[144]?.getD undef = .bool false := hD 18 (by kernel_rfl)
                clear hF hD
                go_simp
                exact hK.out _ _ (Kp.refl _) rfl
              · intro a w' hk hF hD K hK
                have h145 : a.tmps[145]?.getD undef = .bool false := hD 19 (by kernel_rfl)
                clear hF hD
                go_simp
                exact hK.out _ _ (Kp.refl _) rfl
              · intro a w' hk hF hD K hK
                have h7 : a.tmps[7]?.getD undef = .pointer (some ⟨b, 0, none⟩) := hF 7 (by kernel_rfl)
                have h146 : a.tmps[146]?.getD undef = .bool false := hD 20 (by kernel_rfl)
                have g146 := guard_get h146
                clear hF hD
                go_simp
                exact hK.out _ _ (Kp.refl _) rfl
              · intro a w' hk hF hD K hK
                have h147 : a.tmps[147]?.getD undef = .pointer (some ⟨b, 0, none⟩) := hD 21 (by kernel_rfl)
                have h146 : a.tmps[146]?.getD undef = .bool false := hD 20 (by kernel_rfl)
                have g146 := guard_get h146
                clear hF hD
                go_simp
                refine (HQ.out _ hk).mono ?_
                rintro e w9 ⟨v9, l9, rfl, hAR, hl9, hk9⟩
                exact hK.out _ _ hk9 (by have := aks_of (hAR.own.sl encAV_len) (fun x hx => (hAR.nds x hx).sl encNd_len); rw [hl9] at this; exact this)
              · intro a w' hk hF hD K hK
                have h9 : a.tmps[9]?.getD undef = .pointer (some ⟨pb, 0, none⟩) := hF 9 (by kernel_rfl)
                have h146 : a.tmps[146]?.getD undef = .bool false := hD 20 (by kernel_rfl)
                have g146 := guard_get h146
                clear hF hD
                rw [if_pos (by simp [Region.wanted, yielded, g146])]
                refine wp_load_mid 58 (.tmp 9) rfl pb 0 ((eval_tmp _ _).trans h9) LQ _ (rLQ.out _ hk) Try.underlying58 rfl iQ2 ?_
                exact hK.out _ _ (Kp.refl _) rfl
              · intro a w' hk hF hD K hK
                have h149 : a.tmps[149]?.getD undef = .agg LQ.toArray := hD 23 (by kernel_rfl)
                have h146 : a.tmps[146]?.getD undef = .bool false := hD 20 (by kernel_rfl)
                have g146 := guard_get h146
                clear hF hD
                go_simp
                refine (HRq.out _ hk).mono ?_
                rintro e w9 ⟨v9, rfl, hA9, hk9⟩
                exact hK.out _ _ hk9 hA9
              · intro a w' hk hF hD K hK
                have h148 : (fun v W => Aks W v (reqL s')) (a.tmps[148]?.getD undef) w' := hD 22 (by kernel_rfl)
                have h150 : (fun v W => Aks W v (reqL s')) (a.tmps[150]?.getD undef) w' := hD 24 (by kernel_rfl)
                have h146 : a.tmps[146]?.getD undef = .bool false := hD 20 (by kernel_rfl)
                have g146 := guard_get h146
                clear hF hD
                obtain ⟨r1, hr1⟩ : ∃ u, a.tmps[148]?.getD undef = u := ⟨_, rfl⟩
                obtain ⟨r2, hr2⟩ : ∃ u, a.tmps[150]?.getD undef = u := ⟨_, rfl⟩
                rw [hr1] at h148
                rw [hr2] at h150
                go_simp
                refine (rSameAll_refl r1 r2 (reqL s') _ h148 h150).mono ?_
                rintro e w9 ⟨rfl, hk9⟩
                exact hK.out _ _ hk9 rfl
              · intro a w' hk hF hD K hK
                have h151 : a.tmps[151]?.getD undef = .bool true := hD 25 (by kernel_rfl)
                have h146 : a.tmps[146]?.getD undef = .bool false := hD 20 (by kernel_rfl)
                have g146 := guard_get h146
                clear hF hD
                go_simp
                exact hK.out _ _ (Kp.refl _) rfl
              · exact fun i0 hi0 => by simp at hi0
              intro v w9 k9 hv
              have v20 : v 20 = .bool false := hv 20 (by omega)
              have v26 : v 26 = .bool false := hv 26 (by omega)
              clear hv
              simp only [G2.growPut, G2.gSlot, List.getElem?_toArray, List.getElem?_cons_zero, List.getElem?_cons_succ, Option.bind_some, List.setIfInBounds_toArray, List.set_cons_zero, List.set_cons_succ, List.drop_succ_cons, List.drop_zero, v20, v26]
              have hltf : pb < w9.heap.size := Nat.lt_of_lt_of_le (PB.lt (by omega)) k9.size
              have hC9 := hid (show CaW w b mb pb s' va' vh' w9 from ⟨(HB.kp k9).to (fun q _ h => sU q h) (fun h => h (.inl (.inl rfl))) (fun h => h (.inl (.inr rfl))), by rw [← hLQ.out]; exact PB.kp k9 (PB.lt (by omega)), (RF.kp k9).mono x3, kwf.trans k9, hltf⟩)
              clear u0 u1 u2 u3 u4 u5 v0 v1 v2 v3 v4 v5 HB RF PB BXf BY12 kwf hNx hNy e0 eok
              go_wp2_with fail
              go_roundw
              case rel => exact ⟨k + 1, er, s', va', vh', hlt, by go_num, rfl, rfl, hC9.out⟩
              case measure => exact br_meas hlt
            · have g0 : (xk == 0) = false := by simpa using x0
              replace x0 := hid x0
              by_cases x1 : xk = 1
              · have g1 : (xk == 1) = true := by simpa using x1
                replace x1 := hid x1
                go_wp2_with fail
                refine (bRest_any HB7).mono ?_
                have HRR := hid (fun (W : World) (h1 : RefX X4 W s va vh) => rRest41_any X4 s va vh W h1)
                have hrn := rest_needs s
                obtain ⟨r, hr⟩ : ∃ r, r = rest s := ⟨_, rfl⟩
                rw [← hr] at HRR hrn ⊢
                clear hr
                obtain ⟨s', ak, okb⟩ := r
                dsimp only at HRR hrn ⊢
                rintro e w8 ⟨he, HB8, fx8⟩
                obtain ⟨v8, hv8e⟩ : ∃ v8, v8 = Value.slice none 0 0 := ⟨_, rfl⟩
                rw [← hv8e] at he
                have hNx8 : OwF X4 w8 fun w' => Nds w' v8 ak.needs := fun w' _ => by rw [hv8e, hrn]; exact Sl.nil _ _ _
                replace hv8e := hid hv8e
                obtain ⟨A8, cc8, hv8, -, -⟩ := hNx8.here.form
                obtain ⟨cx, hcx⟩ : ∃ cx, cx = askL ak v8 := ⟨_, rfl⟩
                have hlx : cx.length = 6 := by rw [hcx]; rfl
                have H16 := hid (show ∀ u ∈ cx, u.oneCell' = true by rw [hcx, hv8]; simp [askL, Value.oneCell'])
                try dsimp only at he
                rw [show askV ak v8 = .agg (askL ak v8).toArray from rfl, ← hcx] at he
                subst he
                replace hcx := hid hcx
                replace hv8 := hid hv8
                have hxl := BX.lt (by simp)
                have hyl := BY.lt (by simp)
                have hpl := PB7.lt (by simp)
                have hal := AB7.lt (by simp)
                have hnb : ¬ B2 b mb xb ∧ ¬ B2 b mb yb ∧ ¬ B2 b mb pb ∧ ¬ B2 b mb ab := ⟨fun h => by rcases h with h | h <;> omega, fun h => by rcases h with h | h <;> omega, fun h => by rcases h with h | h <;> omega, fun h => by rcases h with h | h <;> omega⟩
                have BX8 := BX.fx fx8 hxl hnb.1
                have hth : w8.there xb 0 cx.toArray.size := by simpa [hlx] using BX8.thereAt 0 6 (by simp)
                have hi : (Try.prog.info? 29).map (·.size) = some cx.toArray.size := by simp only [List.size_toArray, hlx]; kernel_rfl
                have fx89 : Fx (fun q => q = xb) w8 (w8.setCells xb 0 cx) := (Kg.setCells (.inl rfl) cx 0 (Kg.refl w8 xb)).fx (.inl rfl)
                have BX9 := BX8.all (cs := cx) (by rw [hlx]; rfl)
                go_upto_region 25 with (refine wpList_store_mid rfl 29 (.tmp 13) (.tmp 101) rfl xb 0 cx.toArray rfl rfl hth hi (all_oneCell_toArray H16.out) ?_; rw [List.toList_toArray]; generalize w8.setCells xb 0 cx = w9 at *)
                have HB9 := HB8.fx fx89 (fun q hq e => (sN q hq).2.1 e) (by omega) (by omega)
                have fx79 : Fx X4 w7 w9 := (fx8.mono (fun q _ hq => xB q hq)).trans (fx89.mono (fun q _ hq => xN q (.inr (.inl hq))))
                have RF9 := RF7.fx fx79
                have PB9 := (PB7.fx fx8 hpl hnb.2.2.1).fx fx89 (Nat.lt_of_lt_of_le hpl fx8.size) (fun e => by omega)
                have AB9 := (AB7.fx fx8 hal hnb.2.2.2).fx fx89 (Nat.lt_of_lt_of_le hal fx8.size) (fun e => by omega)
                have BY9 := (BY.fx fx8 hyl hnb.2.1).fx fx89 (Nat.lt_of_lt_of_le hyl fx8.size) (fun e => by omega)
                have kw9 : Kp w w9 := ((kw7.fx X4).trans fx79).kp xW
                have hNx9 := hNx8.fx (fx89.mono (fun q _ hq => xN q (.inr (.inl hq))))
                clear c0 c1 c2 c3 c4 c5 c6 c7 c8 hth hi BX8 HB8 fx8 fx89 hNx8 hSn hSa HB7 hxl hyl hpl hal hnb BX BY PB7 AB7
                have c0 := (AB9).cell (j := 0) rfl
                have c1 := (AB9).cell (j := 1) rfl
                have c2 := (AB9).cell (j := 2) rfl
                have c3 := (AB9).cell (j := 3) rfl
                have c4 := (AB9).cell (j := 4) rfl
                have c5 := (AB9).cell (j := 5) rfl
                have c6 := (AB9).cell (j := 6) rfl
                have c7 := (AB9).cell (j := 7) rfl
                have c8 := (AB9).cell (j := 8) rfl
                obtain ⟨LP, hLP⟩ : ∃ LP : List Value, Hid (LP = refL s va vh) := ⟨_, hid rfl⟩
                rw [← hLP.out] at PB9 HRR
                have rL := PB9.range
                have lLP : LP.length = 10 := by rw [hLP.out]; rfl
                have iL : (Try.prog.info? 58).map (·.size) = some LP.length := by rw [lLP]; kernel_rfl
                go_wp2_with (first | (refine wpList_load_mid rfl 58 (.tmp 9) rfl pb 0 rfl LP _ rL Try.underlying58 rfl iL ?_) | fail)
                refine (HRR.out w9 RF9).mono ?_
                rintro e w10 ⟨k10, va', he, RF10⟩
                obtain ⟨vh', hvh'⟩ : ∃ vh', vh' = vh := ⟨_, rfl⟩
                rw [← hvh'] at he RF10
                obtain ⟨vq, hvqe⟩ : ∃ vq, vq = Value.slice none 0 0 := ⟨_, rfl⟩
                rw [← hvqe] at he
                have hNq : OwF X4 w10 fun w' => Nds w' vq ak.needs := fun w' _ => by rw [hvqe, hrn]; exact Sl.nil _ _ _
                replace hvqe := hid hvqe
                replace hrn := hid hrn
                obtain ⟨AQ, cQ, hvq, -, -⟩ := hNq.here.form
                obtain ⟨cy, hcy⟩ : ∃ cy, cy = askL ak vq := ⟨_, rfl⟩
                obtain ⟨LQ, hLQ⟩ : ∃ LQ : List Value, LQ = refL s' va' vh' := ⟨_, rfl⟩
                have hly : cy.length = 6 := by rw [hcy]; rfl
                have lLQ : LQ.length = 10 := by rw [hLQ]; rfl
                have H26 := hid (show ∀ u ∈ cy, u.oneCell' = true by rw [hcy, hvq]; simp [askL, Value.oneCell'])
                have oQ := hid (show ∀ u ∈ LQ, u.oneCell' = true by
                  obtain ⟨Aa, ca, Ab, cb, ea, eb⟩ := RF10.form
                  rw [hLQ, ea, eb]
                  simp [Value.oneCell'])
                try dsimp only at he
                rw [show askV ak vq = .agg (askL ak vq).toArray from rfl, ← hcy, ← hLQ] at he
                subst he
                replace hcy := hid hcy
                replace hLQ := hid hLQ
                replace hvq := hid hvq
                have PB10 := PB9.kp k10 (PB9.lt (by omega))
                have BY10 := BY9.kp k10 (BY9.lt (by simp))
                have BX10 := BX9.kp k10 (BX9.lt (by omega))
                have hthB : w10.there pb 0 LQ.toArray.size := by simpa [lLQ] using PB10.thereAt 0 10 (by omega)
                have iQ : (Try.prog.info? 58).map (·.size) = some LQ.toArray.size := by simp only [List.size_toArray, lLQ]; kernel_rfl
                have iA : (Try.prog.info? 29).map (·.size) = some cy.toArray.size := by simp only [List.size_toArray, hly]; kernel_rfl
                obtain ⟨w11, hw11⟩ : ∃ w11, w11 = w10.setCells pb 0 LQ := ⟨_, rfl⟩
                have fx11 : Fx (fun q => q = pb) w10 w11 := by rw [hw11]; exact (Kg.setCells (.inl rfl) LQ 0 (Kg.refl w10 pb)).fx (.inl rfl)
                have PB11 : Bx w11 pb LQ := by rw [hw11]; exact PB10.all (by omega)
                have BY11 := BY10.fx fx11 (BY10.lt (by simp)) (fun e => by omega)
                have hthY : w11.there yb 0 cy.toArray.size := by simpa [hly] using BY11.thereAt 0 6 (by simp)
                obtain ⟨w12, hw12⟩ : ∃ w12, w12 = w11.setCells yb 0 cy := ⟨_, rfl⟩
                have fx12 : Fx (fun q => q = yb) w11 w12 := by rw [hw12]; exact (Kg.setCells (.inl rfl) cy 0 (Kg.refl w11 yb)).fx (.inl rfl)
                have BY12 : Bx w12 yb cy := by rw [hw12]; exact BY11.all (by rw [hly]; rfl)
                replace hw11 := hid hw11
                replace hw12 := hid hw12
                go_upto_region 29 with (first | (refine wpList_store_mid rfl 58 (.tmp 9) (.tmp 106) rfl pb 0 LQ.toArray rfl rfl hthB iQ (all_oneCell_toArray oQ.out) ?_; rw [List.toList_toArray, ← hw11.out]) | (refine wpList_store_mid rfl 29 (.tmp 14) (.tmp 107) rfl yb 0 cy.toArray rfl rfl hthY iA (all_oneCell_toArray H26.out) ?_; rw [List.toList_toArray, ← hw12.out]) | fail)
                have fxA : Fx X4 w10 w12 := (fx11.mono (fun q _ hq => xN q (.inl hq))).trans (fx12.mono (fun q _ hq => xN q (.inr (.inr hq))))
                have RF := RF10.fx fxA
                have PB := PB11.fx fx12 (PB11.lt (by omega)) (fun e => by omega)
                have BXf := (BX10.fx fx11 (BX10.lt (by omega)) (fun e => by omega)).fx fx12 (by have := (BX10.fx fx11 (BX10.lt (by omega)) (fun e => by omega)).lt (by omega); exact this) (fun e => by omega)
                have kwf : Kp w w12 := (((kw9.trans k10).fx X4).trans fxA).kp xW
                have hNx := ((hNx9.kp k10).fx fxA).here
                have hNy := (hNq.fx fxA).here
                have HB := ((HB9.kp k10).fx fx11 (fun q hq e => (sN q hq).1 e) (by omega) (by omega)).fx fx12 (fun q hq e => (sN q hq).2.2 e) (by omega) (by omega)
                clear c0 c1 c2 c3 c4 c5 c6 c7 c8 hthB hthY iQ iA fx11 fx12 PB11 BY11 BY10 BX10 PB10 k10 fxA hNx9 hNq HB9 RF9 RF10 rL fx79 AB9 BY9 BX9 PB9 iL HRR
                obtain ⟨an, ⟨a1, a2, a3, a4⟩, anl⟩ := ak
                obtain ⟨ew8, hew8⟩ : ∃ u, u = v8 := ⟨_, rfl⟩
                have hv8' := hv8.out
                have hvq' := hvq.out
                subst hv8' hvq'
                dsimp only at hNx hNy hcx hcy
                have BXg := BXf
                have BYg := BY12
                rw [hcx.out] at BXg
                rw [hcy.out] at BYg
                have u0 := BXg.cell (j := 0) rfl
                have u1 := BXg.cell (j := 1) rfl
                have u2 := BXg.cell (j := 2) rfl
                have u3 := BXg.cell (j := 3) rfl
                have u4 := BXg.cell (j := 4) rfl
                have u5 := BXg.cell (j := 5) rfl
                have v0 := BYg.cell (j := 0) rfl
                have v1 := BYg.cell (j := 1) rfl
                have v2 := BYg.cell (j := 2) rfl
                have v3 := BYg.cell (j := 3) rfl
                have v4 := BYg.cell (j := 4) rfl
                have v5 := BYg.cell (j := 5) rfl
                have HS := hid (fun W (h : Kp w12 W) => rSame41_refl _ _ ⟨an, (a1, a2, a3, a4), anl⟩ W (hNx.keep (pl_stable _) h) (hNy.keep (pl_stable _) h))
                have HE := hid (fun W (h : Kp w12 W) => EqualGr_same (.slice none 0 0) (.slice none 0 0) [] W (((Sl.nil (Pl encGr) 5 w12)).keep (pl_stable _) h) (((Sl.nil (Pl encGr) 5 w12)).keep (pl_stable _) h))
                have HQ := hid (fun W (h : Kp w12 W) => bRequests_any (HB.kp h))
                have HRq := hid (fun W (h : Kp w12 W) => rRequests_any X4 s' va' vh' W (RF.kp h))
                rw [← hLQ.out] at HRq
                have lLQ2 : LQ.length = 10 := by rw [hLQ.out]; rfl
                have iQ2 : (Try.prog.info? 58).map (·.size) = some LQ.length := by rw [lLQ2]; kernel_rfl
                have rLQ := hid (fun W (h : Kp w12 W) => (PB.kp h (PB.lt (by omega))).range)
                have e0 : ((er0) != (er0)) = false := by simp
                have eok : ((okb) != (okb)) = false := by simp
                clear BXg BYg hew8
                refine G2.wp_region_growT Kp [] 27 155 (G2.pvL [G2.eqv (.int .i64 (er0)), G2.eqv (.int .i64 (er0)), G2.eqv (.bool false), G2.eqv (.bool false), G2.eqv (.bool (okb)), G2.eqv (.bool (okb)), G2.eqv (.bool false), G2.eqv (.bool false), G2.eqv (.bool false), G2.eqv (.agg #[.int .i64 an, .int .i64 a1, .int .i64 a2, .int .i64 a3, .int .i64 a4, .slice A8 anl.length cc8]), G2.eqv (.agg #[.int .i64 an, .int .i64 a1, .int .i64 a2, .int .i64 a3, .int .i64 a4, .slice AQ anl.length cQ]), G2.eqv (.bool true), G2.eqv (.bool false), G2.eqv (.bool false), G2.eqv (.bool false), G2.eqv ((.slice none 0 0)), G2.eqv ((.slice none 0 0)), G2.eqv (.bool true), G2.eqv (.bool false), G2.eqv (.bool false), G2.eqv (.bool false), G2.eqv (.pointer (some ⟨b, 0, none⟩)), (fun v W => Aks W v (reqL s')), G2.eqv (.agg LQ.toArray), (fun v W => Aks W v (reqL s')), G2.eqv (.bool true), G2.eqv (.bool false)]) (by kernel_rfl) (by kernel_rfl) rfl (fun x => Kp.refl x) (fun _ _ _ h k => h.trans k) (Kp.refl _).drew (by intro _ _ _ _ _ h; exact h) (G2.pvL_keep (G2.stabL_cons (G2.stab_eq _) (G2.stabL_cons (G2.stab_eq _) (G2.stabL_cons (G2.stab_eq _) (G2.stabL_cons (G2.stab_eq _) (G2.stabL_cons (G2.stab_eq _) (G2.stabL_cons (G2.stab_eq _) (G2.stabL_cons (G2.stab_eq _) (G2.stabL_cons (G2.stab_eq _) (G2.stabL_cons (G2.stab_eq _) (G2.stabL_cons (G2.stab_eq _) (G2.stabL_cons (G2.stab_eq _) (G2.stabL_cons (G2.stab_eq _) (G2.stabL_cons (G2.stab_eq _) (G2.stabL_cons (G2.stab_eq _) (G2.stabL_cons (G2.stab_eq _) (G2.stabL_cons (G2.stab_eq _) (G2.stabL_cons (G2.stab_eq _) (G2.stabL_cons (G2.stab_eq _) (G2.stabL_cons (G2.stab_eq _) (G2.stabL_cons (G2.stab_eq _) (G2.stabL_cons (G2.stab_eq _) (G2.stabL_cons (G2.stab_eq _) (G2.stabL_cons (fun _ _ _ h k => h.keep rdAk_stable k) (G2.stabL_cons (G2.stab_eq _) (G2.stabL_cons (fun _ _ _ h k => h.keep rdAk_stable k) (G2.stabL_cons (G2.stab_eq _) (G2.stabL_cons (G2.stab_eq _) (G2.stabL_nil))))))))))))))))))))))))))))) (G2.stepsT_cons 0 ?_ (G2.stepsT_cons 1 ?_ (G2.stepsT_cons 2 ?_ (G2.stepsT_cons 3 ?_ (G2.stepsT_cons 4 ?_ (G2.stepsT_cons 5 ?_ (G2.stepsT_cons 6 ?_ (G2.stepsT_cons 7 ?_ (G2.stepsT_cons 8 ?_ (G2.stepsT_cons 9 ?_ (G2.stepsT_cons 10 ?_ (G2.stepsT_cons 11 ?_ (G2.stepsT_cons 12 ?_ (G2.stepsT_cons 13 ?_ (G2.stepsT_cons 14 ?_ (G2.stepsT_cons 15 ?_ (G2.stepsT_cons 16 ?_ (G2.stepsT_cons 17 ?_ (G2.stepsT_cons 18 ?_ (G2.stepsT_cons 19 ?_ (G2.stepsT_cons 20 ?_ (G2.stepsT_cons 21 ?_ (G2.stepsT_cons 22 ?_ (G2.stepsT_cons 23 ?_ (G2.stepsT_cons 24 ?_ (G2.stepsT_cons 25 ?_ (G2.stepsT_cons 26 ?_ (G2.stepsT_nil _ _ _)))))))))))))))))))))))))))) ?_ ?_
                · intro a w' hk hF hD K hK
                  have h8 : a.tmps[8]?.getD undef = .int .i64 (er0) := hF 8 (by kernel_rfl)
                  clear hF hD
                  go_simp
                  exact hK.out _ _ (Kp.refl _) rfl
                · intro a w' hk hF hD K hK
                  have h10 : a.tmps[10]?.getD undef = .int .i64 (er0) := hF 10 (by kernel_rfl)
                  clear hF hD
                  go_simp
                  exact hK.out _ _ (Kp.refl _) rfl
                · intro a w' hk hF hD K hK
                  have h126 : a.tmps[126]?.getD undef = .int .i64 (er0) := hD 0 (by kernel_rfl)
                  have h127 : a.tmps[127]?.getD undef = .int .i64 (er0) := hD 1 (by kernel_rfl)
                  clear hF hD
                  go_simp
                  exact hK.out _ _ (Kp.refl _) rfl
                · intro a w' hk hF hD K hK
                  have h128 : a.tmps[128]?.getD undef = .bool false := hD 2 (by kernel_rfl)
                  clear hF hD
                  go_simp
                  exact hK.out _ _ (Kp.refl _) rfl
                · intro a w' hk hF hD K hK
                  have h17 : a.tmps[17]?.getD undef = .bool (okb) := hF 17 (by kernel_rfl)
                  have h129 : a.tmps[129]?.getD undef = .bool false := hD 3 (by kernel_rfl)
                  have g129 := guard_get h129
                  clear hF hD
                  go_simp
                  exact hK.out _ _ (Kp.refl _) rfl
                · intro a w' hk hF hD K hK
                  have h18 : a.tmps[18]?.getD undef = .bool (okb) := hF 18 (by kernel_rfl)
                  have h129 : a.tmps[129]?.getD undef = .bool false := hD 3 (by kernel_rfl)
                  have g129 := guard_get h129
                  clear hF hD
                  go_simp
                  exact hK.out _ _ (Kp.refl _) rfl
                · intro a w' hk hF hD K hK
                  have h130 : a.tmps[130]?.getD undef = .bool (okb) := hD 4 (by kernel_rfl)
                  have h131 : a.tmps[131]?.getD undef = .bool (okb) := hD 5 (by kernel_rfl)
                  have h129 : a.tmps[129]?.getD undef = .bool false := hD 3 (by kernel_rfl)
                  have g129 := guard_get h129
                  clear hF hD
                  go_simp
                  exact hK.out _ _ (Kp.refl _) rfl
                · intro a w' hk hF hD K hK
                  have h129 : a.tmps[129]?.getD undef = .bool false := hD 3 (by kernel_rfl)
                  have h132 : a.tmps[132]?.getD undef = .bool false := hD 6 (by kernel_rfl)
                  clear hF hD
                  go_simp
                  exact hK.out _ _ (Kp.refl _) rfl
                · intro a w' hk hF hD K hK
                  have h133 : a.tmps[133]?.getD undef = .bool false := hD 7 (by kernel_rfl)
                  clear hF hD
                  go_simp
                  exact hK.out _ _ (Kp.refl _) rfl
                · intro a w' hk hF hD K hK
                  have h13 : a.tmps[13]?.getD undef = .pointer (some ⟨xb, 0, none⟩) := hF 13 (by kernel_rfl)
                  have h134 : a.tmps[134]?.getD undef = .bool false := hD 8 (by kernel_rfl)
                  have g134 := guard_get h134
                  clear hF hD
                  have z0 := hk.cellS u0
                  have z1 := hk.cellS u1
                  have z2 := hk.cellS u2
                  have z3 := hk.cellS u3
                  have z4 := hk.cellS u4
                  have z5 := hk.cellS u5
                  go_simp
                  exact hK.out _ _ (Kp.refl _) rfl
                · intro a w' hk hF hD K hK
                  have h14 : a.tmps[14]?.getD undef = .pointer (some ⟨yb, 0, none⟩) := hF 14 (by kernel_rfl)
                  have h134 : a.tmps[134]?.getD undef = .bool false := hD 8 (by kernel_rfl)
                  have g134 := guard_get h134
                  clear hF hD
                  have z0 := hk.cellS v0
                  have z1 := hk.cellS v1
                  have z2 := hk.cellS v2
                  have z3 := hk.cellS v3
                  have z4 := hk.cellS v4
                  have z5 := hk.cellS v5
                  go_simp
                  exact hK.out _ _ (Kp.refl _) rfl
                · intro a w' hk hF hD K hK
                  have h135 : a.tmps[135]?.getD undef = .agg #[.int .i64 an, .int .i64 a1, .int .i64 a2, .int .i64 a3, .int .i64 a4, .slice A8 anl.length cc8] := hD 9 (by kernel_rfl)
                  have h136 : a.tmps[136]?.getD undef = .agg #[.int .i64 an, .int .i64 a1, .int .i64 a2, .int .i64 a3, .int .i64 a4, .slice AQ anl.length cQ] := hD 10 (by kernel_rfl)
                  have h134 : a.tmps[134]?.getD undef = .bool false := hD 8 (by kernel_rfl)
                  have g134 := guard_get h134
                  clear hF hD
                  go_simp
                  refine (HS.out _ hk).mono ?_
                  rintro e w9 ⟨rfl, hk9⟩
                  exact hK.out _ _ hk9 rfl
                · intro a w' hk hF hD K hK
                  have h137 : a.tmps[137]?.getD undef = .bool true := hD 11 (by kernel_rfl)
                  have h134 : a.tmps[134]?.getD undef = .bool false := hD 8 (by kernel_rfl)
                  have g134 := guard_get h134
                  clear hF hD
                  go_simp
                  exact hK.out _ _ (Kp.refl _) rfl
                · intro a w' hk hF hD K hK
                  have h134 : a.tmps[134]?.getD undef = .bool false := hD 8 (by kernel_rfl)
                  have h138 : a.tmps[138]?.getD undef = .bool false := hD 12 (by kernel_rfl)
                  clear hF hD
                  go_simp
                  exact hK.out _ _ (Kp.refl _) rfl
                · intro a w' hk hF hD K hK
                  have h139 : a.tmps[139]?.getD undef = .bool false := hD 13 (by kernel_rfl)
                  clear hF hD
                  go_simp
                  exact hK.out _ _ (Kp.refl _) rfl
                · intro a w' hk hF hD K hK
                  have h15 : a.tmps[15]?.getD undef = (.slice none 0 0) := hF 15 (by kernel_rfl)
                  have h140 : a.tmps[140]?.getD undef = .bool false := hD 14 (by kernel_rfl)
                  have g140 := guard_get h140
                  clear hF hD
                  go_simp
                  exact hK.out _ _ (Kp.refl _) rfl
                · intro a w' hk hF hD K hK
                  have h16 : a.tmps[16]?.getD undef = (.slice none 0 0) := hF 16 (by kernel_rfl)
                  have h140 : a.tmps[140]?.getD undef = .bool false := hD 14 (by kernel_rfl)
                  have g140 := guard_get h140
                  clear hF hD
                  go_simp
                  exact hK.out _ _ (Kp.refl _) rfl
                · intro a w' hk hF hD K hK
                  have h141 : a.tmps[141]?.getD undef = (.slice none 0 0) := hD 15 (by kernel_rfl)
                  have h142 : a.tmps[142]?.getD undef = (.slice none 0 0) := hD 16 (by kernel_rfl)
                  have h140 : a.tmps[140]?.getD undef = .bool false := hD 14 (by kernel_rfl)
                  have g140 := guard_get h140
                  clear hF hD
                  go_simp
                  refine (HE.out _ hk).mono ?_
                  rintro e w9 ⟨rfl, hk9⟩
                  exact hK.out _ _ hk9 rfl
                · intro a w' hk hF hD K hK
                  have h143 : a.tmps[143]?.getD undef = .bool true := hD 17 (by kernel_rfl)
                  have h140 : a.tmps[140]?.getD undef = .bool false := hD 14 (by kernel_rfl)
                  have g140 := guard_get h140
                  clear hF hD
                  go_simp
                  exact hK.out _ _ (Kp.refl _) rfl
                · intro a w' hk hF hD K hK
                  have h140 : a.tmps[140]?.getD undef = .bool false := hD 14 (by kernel_rfl)
                  have h144 : a.tmps[144]?.getD undef = .bool false := hD 18 (by kernel_rfl)
                  clear hF hD
                  go_simp
                  exact hK.out _ _ (Kp.refl _) rfl
                · intro a w' hk hF hD K hK
                  have h145 : a.tmps[145]?.getD undef = .bool false := hD 19 (by kernel_rfl)
                  clear hF hD
                  go_simp
                  exact hK.out _ _ (Kp.refl _) rfl
                · intro a w' hk hF hD K hK
                  have h7 : a.tmps[7]?.getD undef = .pointer (some ⟨b, 0, none⟩) := hF 7 (by kernel_rfl)
                  have h146 : a.tmps[146]?.getD undef = .bool false := hD 20 (by kernel_rfl)
                  have g146 := guard_get h146
                  clear hF hD
                  go_simp
                  exact hK.out _ _ (Kp.refl _) rfl
                · intro a w' hk hF hD K hK
                  have h147 : a.tmps[147]?.getD undef = .pointer (some ⟨b, 0, none⟩) := hD 21 (by kernel_rfl)
                  have h146 : a.tmps[146]?.getD undef = .bool false := hD 20 (by kernel_rfl)
                  have g146 := guard_get h146
                  clear hF hD
                  go_simp
                  refine (HQ.out _ hk).mono ?_
                  rintro e w9 ⟨v9, l9, rfl, hAR, hl9, hk9⟩
                  exact hK.out _ _ hk9 (by have := aks_of (hAR.own.sl encAV_len) (fun x hx => (hAR.nds x hx).sl encNd_len); rw [hl9] at this; exact this)
                · intro a w' hk hF hD K hK
                  have h9 : a.tmps[9]?.getD undef = .pointer (some ⟨pb, 0, none⟩) := hF 9 (by kernel_rfl)
                  have h146 : a.tmps[146]?.getD undef = .bool false := hD 20 (by kernel_rfl)
                  have g146 := guard_get h146
                  clear hF hD
                  rw [if_pos (by simp [Region.wanted, yielded, g146])]
                  refine wp_load_mid 58 (.tmp 9) rfl pb 0 ((eval_tmp _ _).trans h9) LQ _ (rLQ.out _ hk) Try.underlying58 rfl iQ2 ?_
                  exact hK.out _ _ (Kp.refl _) rfl
                · intro a w' hk hF hD K hK
                  have h149 : a.tmps[149]?.getD undef = .agg LQ.toArray := hD 23 (by kernel_rfl)
                  have h146 : a.tmps[146]?.getD undef = .bool false := hD 20 (by kernel_rfl)
                  have g146 := guard_get h146
                  clear hF hD
                  go_simp
                  refine (HRq.out _ hk).mono ?_
                  rintro e w9 ⟨v9, rfl, hA9, hk9⟩
                  exact hK.out _ _ hk9 hA9
                · intro a w' hk hF hD K hK
                  have h148 : (fun v W => Aks W v (reqL s')) (a.tmps[148]?.getD undef) w' := hD 22 (by kernel_rfl)
                  have h150 : (fun v W => Aks W v (reqL s')) (a.tmps[150]?.getD undef) w' := hD 24 (by kernel_rfl)
                  have h146 : a.tmps[146]?.getD undef = .bool false := hD 20 (by kernel_rfl)
                  have g146 := guard_get h146
                  clear hF hD
                  obtain ⟨r1, hr1⟩ : ∃ u, a.tmps[148]?.getD undef = u := ⟨_, rfl⟩
                  obtain ⟨r2, hr2⟩ : ∃ u, a.tmps[150]?.getD undef = u := ⟨_, rfl⟩
                  rw [hr1] at h148
                  rw [hr2] at h150
                  go_simp
                  refine (rSameAll_refl r1 r2 (reqL s') _ h148 h150).mono ?_
                  rintro e w9 ⟨rfl, hk9⟩
                  exact hK.out _ _ hk9 rfl
                · intro a w' hk hF hD K hK
                  have h151 : a.tmps[151]?.getD undef = .bool true := hD 25 (by kernel_rfl)
                  have h146 : a.tmps[146]?.getD undef = .bool false := hD 20 (by kernel_rfl)
                  have g146 := guard_get h146
                  clear hF hD
                  go_simp
                  exact hK.out _ _ (Kp.refl _) rfl
                · exact fun i0 hi0 => by simp at hi0
                intro v w9 k9 hv
                have v20 : v 20 = .bool false := hv 20 (by omega)
                have v26 : v 26 = .bool false := hv 26 (by omega)
                clear hv
                simp only [G2.growPut, G2.gSlot, List.getElem?_toArray, List.getElem?_cons_zero, List.getElem?_cons_succ, Option.bind_some, List.setIfInBounds_toArray, List.set_cons_zero, List.set_cons_succ, List.drop_succ_cons, List.drop_zero, v20, v26]
                have hltf : pb < w9.heap.size := Nat.lt_of_lt_of_le (PB.lt (by omega)) k9.size
                have hC9 := hid (show CaW w b mb pb s' va' vh' w9 from ⟨(HB.kp k9).to (fun q _ h => sU q h) (fun h => h (.inl (.inl rfl))) (fun h => h (.inl (.inr rfl))), by rw [← hLQ.out]; exact PB.kp k9 (PB.lt (by omega)), (RF.kp k9).mono x3, kwf.trans k9, hltf⟩)
                clear u0 u1 u2 u3 u4 u5 v0 v1 v2 v3 v4 v5 HB RF PB BXf BY12 kwf hNx hNy e0 eok
                go_wp2_with fail
                go_roundw
                case rel => exact ⟨k + 1, er0, s', va', vh', hlt, by go_num, rfl, rfl, hC9.out⟩
                case measure => exact br_meas hlt
              · have g1 : (xk == 1) = false := by simpa using x1
                replace x1 := hid x1
                by_cases x2 : xk = 2
                · have g2 : (xk == 2) = true := by simpa using x2
                  replace x2 := hid x2
                  go_wp2_with fail
                  refine (bHear_any (S := S') (b := b) (mb := mb) (s := s) xf ⟨num, (p1, p2, p3, p4), ns⟩ (.slice An ns.length cn) HB7 (fun q hq => sI q (by omega)) (nds_sxM hn kw7 sL)).mono ?_
                  have HRR := hid (fun (W : World) (h1 : RefX X4 W s va vh) (h2 : ∀ q, X4 q → q < W.heap.size) (h3 : Kp w W) => rHear41_any X4 s xf ⟨num, (p1, p2, p3, p4), ns⟩ (.slice An ns.length cn) va vh W h1 h2 (hn.keep (pl_stable _) h3))
                  obtain ⟨r, hr⟩ : ∃ r, r = hear s xf ⟨num, (p1, p2, p3, p4), ns⟩ := ⟨_, rfl⟩
                  rw [← hr] at HRR ⊢
                  clear hr
                  obtain ⟨s', er⟩ := r
                  dsimp only at HRR ⊢
                  rintro e w9 ⟨rfl, HB9, fx8⟩
                  go_upto_region 28 with (fail)
                  have hxl := BX.lt (by simp)
                  have hyl := BY.lt (by simp)
                  have hpl := PB7.lt (by simp)
                  have hal := AB7.lt (by simp)
                  have hnb : ¬ B2 b mb xb ∧ ¬ B2 b mb yb ∧ ¬ B2 b mb pb ∧ ¬ B2 b mb ab := ⟨fun h => by rcases h with h | h <;> omega, fun h => by rcases h with h | h <;> omega, fun h => by rcases h with h | h <;> omega, fun h => by rcases h with h | h <;> omega⟩
                  have fx79 : Fx X4 w7 w9 := fx8.mono (fun q _ hq => xB q hq)
                  have RF9 := RF7.fx fx79
                  have BX9 := BX.fx fx8 hxl hnb.1
                  have PB9 := PB7.fx fx8 hpl hnb.2.2.1
                  have AB9 := AB7.fx fx8 hal hnb.2.2.2
                  have BY9 := BY.fx fx8 hyl hnb.2.1
                  have kw9 : Kp w w9 := ((kw7.fx X4).trans fx79).kp xW
                  clear c0 c1 c2 c3 c4 c5 c6 c7 c8 fx8 hSn hSa HB7 hxl hyl hpl hal hnb BX BY PB7 AB7
                  have c0 := (AB9).cell (j := 0) rfl
                  have c1 := (AB9).cell (j := 1) rfl
                  have c2 := (AB9).cell (j := 2) rfl
                  have c3 := (AB9).cell (j := 3) rfl
                  have c4 := (AB9).cell (j := 4) rfl
                  have c5 := (AB9).cell (j := 5) rfl
                  have c6 := (AB9).cell (j := 6) rfl
                  have c7 := (AB9).cell (j := 7) rfl
                  have c8 := (AB9).cell (j := 8) rfl
                  obtain ⟨LP, hLP⟩ : ∃ LP : List Value, Hid (LP = refL s va vh) := ⟨_, hid rfl⟩
                  rw [← hLP.out] at PB9 HRR
                  have rL := PB9.range
                  have lLP : LP.length = 10 := by rw [hLP.out]; rfl
                  have iL : (Try.prog.info? 58).map (·.size) = some LP.length := by rw [lLP]; kernel_rfl
                  go_wp2_with (first | (refine wpList_load_mid rfl 58 (.tmp 9) rfl pb 0 rfl LP _ rL Try.underlying58 rfl iL ?_) | fail)
                  refine (HRR.out w9 RF9 (fun q hq => Nat.lt_of_lt_of_le (xl q hq) fx79.size) kw9).mono ?_
                  rintro e w10 ⟨k10, vh', he, RF10⟩
                  obtain ⟨va', hva'⟩ : ∃ va', va' = va := ⟨_, rfl⟩
                  rw [← hva'] at he RF10
                  obtain ⟨LQ, hLQ⟩ : ∃ LQ : List Value, LQ = refL s' va' vh' := ⟨_, rfl⟩
                  have lLQ : LQ.length = 10 := by rw [hLQ]; rfl
                  have oQ := hid (show ∀ u ∈ LQ, u.oneCell' = true by
                    obtain ⟨Aa, ca, Ab, cb, ea, eb⟩ := RF10.form
                    rw [hLQ, ea, eb]
                    simp [Value.oneCell'])
                  try dsimp only at he
                  rw [← hLQ] at he
                  subst he
                  replace hLQ := hid hLQ
                  have PB10 := PB9.kp k10 (PB9.lt (by omega))
                  have BY10 := BY9.kp k10 (BY9.lt (by simp))
                  have BX10 := BX9.kp k10 (BX9.lt (by simp))
                  have hthB : w10.there pb 0 LQ.toArray.size := by simpa [lLQ] using PB10.thereAt 0 10 (by omega)
                  have iQ : (Try.prog.info? 58).map (·.size) = some LQ.toArray.size := by simp only [List.size_toArray, lLQ]; kernel_rfl
                  obtain ⟨w12, hw12⟩ : ∃ w12, w12 = w10.setCells pb 0 LQ := ⟨_, rfl⟩
                  have fx11 : Fx (fun q => q = pb) w10 w12 := by rw [hw12]; exact (Kg.setCells (.inl rfl) LQ 0 (Kg.refl w10 pb)).fx (.inl rfl)
                  have PB : Bx w12 pb LQ := by rw [hw12]; exact PB10.all (by omega)
                  replace hw12 := hid hw12
                  go_upto_region 29 with (first | (refine wpList_store_mid rfl 58 (.tmp 9) (.tmp 124) rfl pb 0 LQ.toArray rfl rfl hthB iQ (all_oneCell_toArray oQ.out) ?_; rw [List.toList_toArray, ← hw12.out]) | fail)
                  have fxA : Fx X4 w10 w12 := fx11.mono (fun q _ hq => xN q (.inl hq))
                  have RF := RF10.fx fxA
                  obtain ⟨ak, A8, cc8, AQ, cQ, hz1, hz2, hz3, hz4, hz5⟩ : ∃ (ak : Ak) (A8 : Option Addr) (cc8 : Nat) (AQ : Option Addr) (cQ : Nat), ak = zAk ∧ A8 = none ∧ cc8 = 0 ∧ AQ = none ∧ cQ = 0 := ⟨_, _, _, _, _, rfl, rfl, rfl, rfl, rfl⟩
                  obtain ⟨v8, hv8⟩ : ∃ v8 : Value, v8 = .slice A8 ak.needs.length cc8 := ⟨_, rfl⟩
                  obtain ⟨vq, hvq⟩ : ∃ vq : Value, vq = .slice AQ ak.needs.length cQ := ⟨_, rfl⟩
                  obtain ⟨cx, hcx⟩ : ∃ cx, cx = askL ak v8 := ⟨_, rfl⟩
                  obtain ⟨cy, hcy⟩ : ∃ cy, cy = askL ak vq := ⟨_, rfl⟩
                  have ecx : cx = #[.int .i64 0, .int .i64 0, .int .i64 0, .int .i64 0, .int .i64 0, .slice none 0 0].toList := by rw [hcx, hv8, hz1, hz2, hz3]; rfl
                  have ecy : cy = #[.int .i64 0, .int .i64 0, .int .i64 0, .int .i64 0, .int .i64 0, .slice none 0 0].toList := by rw [hcy, hvq, hz1, hz4, hz5]; rfl
                  have BXf : Bx w12 xb cx := by rw [ecx]; exact BX10.fx fx11 (BX10.lt (by simp)) (fun e => by omega)
                  have BY12 : Bx w12 yb cy := by rw [ecy]; exact BY10.fx fx11 (BY10.lt (by simp)) (fun e => by omega)
                  have kwf : Kp w w12 := (((kw9.trans k10).fx X4).trans fxA).kp xW
                  have hNx : Nds w12 v8 ak.needs := by rw [hv8, hz1, hz2, hz3]; exact Sl.nil _ _ _
                  have hNy : Nds w12 vq ak.needs := by rw [hvq, hz1, hz4, hz5]; exact Sl.nil _ _ _
                  have HB := (HB9.kp k10).fx fx11 (fun q hq e => (sN q hq).1 e) (by omega) (by omega)
                  replace hcx := hid hcx
                  replace hcy := hid hcy
                  replace hv8 := hid hv8
                  replace hvq := hid hvq
                  clear hz1 hz2 hz3 hz4 hz5 ecx ecy c0 c1 c2 c3 c4 c5 c6 c7 c8 hthB iQ fx11 BY10 BX10 PB10 HB9 RF9 RF10 rL fx79 AB9 BY9 BX9 PB9 iL HRR
                  obtain ⟨an, ⟨a1, a2, a3, a4⟩, anl⟩ := ak
                  obtain ⟨ew8, hew8⟩ : ∃ u, u = v8 := ⟨_, rfl⟩
                  have hv8' := hv8.out
                  have hvq' := hvq.out
                  subst hv8' hvq'
                  dsimp only at hNx hNy hcx hcy
                  have BXg := BXf
                  have BYg := BY12
                  rw [hcx.out] at BXg
                  rw [hcy.out] at BYg
                  have u0 := BXg.cell (j := 0) rfl
                  have u1 := BXg.cell (j := 1) rfl
                  have u2 := BXg.cell (j := 2) rfl
                  have u3 := BXg.cell (j := 3) rfl
                  have u4 := BXg.cell (j := 4) rfl
                  have u5 := BXg.cell (j := 5) rfl
                  have v0 := BYg.cell (j := 0) rfl
                  have v1 := BYg.cell (j := 1) rfl
                  have v2 := BYg.cell (j := 2) rfl
                  have v3 := BYg.cell (j := 3) rfl
                  have v4 := BYg.cell (j := 4) rfl
                  have v5 := BYg.cell (j := 5) rfl
                  have HS := hid (fun W (h : Kp w12 W) => rSame41_refl _ _ ⟨an, (a1, a2, a3, a4), anl⟩ W (hNx.keep (pl_stable _) h) (hNy.keep (pl_stable _) h))
                  have HE := hid (fun W (h : Kp w12 W) => EqualGr_same (.slice none 0 0) (.slice none 0 0) [] W (((Sl.nil (Pl encGr) 5 w12)).keep (pl_stable _) h) (((Sl.nil (Pl encGr) 5 w12)).keep (pl_stable _) h))
                  have HQ := hid (fun W (h : Kp w12 W) => bRequests_any (HB.kp h))
                  have HRq := hid (fun W (h : Kp w12 W) => rRequests_any X4 s' va' vh' W (RF.kp h))
                  rw [← hLQ.out] at HRq
                  have lLQ2 : LQ.length = 10 := by rw [hLQ.out]; rfl
                  have iQ2 : (Try.prog.info? 58).map (·.size) = some LQ.length := by rw [lLQ2]; kernel_rfl
                  have rLQ := hid (fun W (h : Kp w12 W) => (PB.kp h (PB.lt (by omega))).range)
                  have e0 : ((er) != (er)) = false := by simp
                  have eok : ((false) != (false)) = false := by simp
                  clear BXg BYg hew8
                  refine G2.wp_region_growT Kp [] 27 155 (G2.pvL [G2.eqv (.int .i64 (er)), G2.eqv (.int .i64 (er)), G2.eqv (.bool false), G2.eqv (.bool false), G2.eqv (.bool (false)), G2.eqv (.bool (false)), G2.eqv (.bool false), G2.eqv (.bool false), G2.eqv (.bool false), G2.eqv (.agg #[.int .i64 an, .int .i64 a1, .int .i64 a2, .int .i64 a3, .int .i64 a4, .slice A8 anl.length cc8]), G2.eqv (.agg #[.int .i64 an, .int .i64 a1, .int .i64 a2, .int .i64 a3, .int .i64 a4, .slice AQ anl.length cQ]), G2.eqv (.bool true), G2.eqv (.bool false), G2.eqv (.bool false), G2.eqv (.bool false), G2.eqv ((.slice none 0 0)), G2.eqv ((.slice none 0 0)), G2.eqv (.bool true), G2.eqv (.bool false), G2.eqv (.bool false), G2.eqv (.bool false), G2.eqv (.pointer (some ⟨b, 0, none⟩)), (fun v W => Aks W v (reqL s')), G2.eqv (.agg LQ.toArray), (fun v W => Aks W v (reqL s')), G2.eqv (.bool true), G2.eqv (.bool false)]) (by kernel_rfl) (by kernel_rfl) rfl (fun x => Kp.refl x) (fun _ _ _ h k => h.trans k) (Kp.refl _).drew (by intro _ _ _ _ _ h; exact h) (G2.pvL_keep (G2.stabL_cons (G2.stab_eq _) (G2.stabL_cons (G2.stab_eq _) (G2.stabL_cons (G2.stab_eq _) (G2.stabL_cons (G2.stab_eq _) (G2.stabL_cons (G2.stab_eq _) (G2.stabL_cons (G2.stab_eq _) (G2.stabL_cons (G2.stab_eq _) (G2.stabL_cons (G2.stab_eq _) (G2.stabL_cons (G2.stab_eq _) (G2.stabL_cons (G2.stab_eq _) (G2.stabL_cons (G2.stab_eq _) (G2.stabL_cons (G2.stab_eq _) (G2.stabL_cons (G2.stab_eq _) (G2.stabL_cons (G2.stab_eq _) (G2.stabL_cons (G2.stab_eq _) (G2.stabL_cons (G2.stab_eq _) (G2.stabL_cons (G2.stab_eq _) (G2.stabL_cons (G2.stab_eq _) (G2.stabL_cons (G2.stab_eq _) (G2.stabL_cons (G2.stab_eq _) (G2.stabL_cons (G2.stab_eq _) (G2.stabL_cons (G2.stab_eq _) (G2.stabL_cons (fun _ _ _ h k => h.keep rdAk_stable k) (G2.stabL_cons (G2.stab_eq _) (G2.stabL_cons (fun _ _ _ h k => h.keep rdAk_stable k) (G2.stabL_cons (G2.stab_eq _) (G2.stabL_cons (G2.stab_eq _) (G2.stabL_nil))))))))))))))))))))))))))))) (G2.stepsT_cons 0 ?_ (G2.stepsT_cons 1 ?_ (G2.stepsT_cons 2 ?_ (G2.stepsT_cons 3 ?_ (G2.stepsT_cons 4 ?_ (G2.stepsT_cons 5 ?_ (G2.stepsT_cons 6 ?_ (G2.stepsT_cons 7 ?_ (G2.stepsT_cons 8 ?_ (G2.stepsT_cons 9 ?_ (G2.stepsT_cons 10 ?_ (G2.stepsT_cons 11 ?_ (G2.stepsT_cons 12 ?_ (G2.stepsT_cons 13 ?_ (G2.stepsT_cons 14 ?_ (G2.stepsT_cons 15 ?_ (G2.stepsT_cons 16 ?_ (G2.stepsT_cons 17 ?_ (G2.stepsT_cons 18 ?_ (G2.stepsT_cons 19 ?_ (G2.stepsT_cons 20 ?_ (G2.stepsT_cons 21 ?_ (G2.stepsT_cons 22 ?_ (G2.stepsT_cons 23 ?_ (G2.stepsT_cons 24 ?_ (G2.stepsT_cons 25 ?_ (G2.stepsT_cons 26 ?_ (G2.stepsT_nil _ _ _)))))))))))))))))))))))))))) ?_ ?_
                  · intro a w' hk hF hD K hK
                    have h8 : a.tmps[8]?.getD undef = .int .i64 (er) := hF 8 (by kernel_rfl)
                    clear hF hD
                    go_simp
                    exact hK.out _ _ (Kp.refl _) rfl
                  · intro a w' hk hF hD K hK
                    have h10 : a.tmps[10]?.getD undef = .int .i64 (er) := hF 10 (by kernel_rfl)
                    clear hF hD
                    go_simp
                    exact hK.out _ _ (Kp.refl _) rfl
                  · intro a w' hk hF hD K hK
                    have h126 : a.tmps[126]?.getD undef = .int .i64 (er) := hD 0 (by kernel_rfl)
                    have h127 : a.tmps[127]?.getD undef = .int .i64 (er) := hD 1 (by kernel_rfl)
                    clear hF hD
                    go_simp
                    exact hK.out _ _ (Kp.refl _) rfl
                  · intro a w' hk hF hD K hK
                    have h128 : a.tmps[128]?.getD undef = .bool false := hD 2 (by kernel_rfl)
                    clear hF hD
                    go_simp
                    exact hK.out _ _ (Kp.refl _) rfl
                  · intro a w' hk hF hD K hK
                    have h17 : a.tmps[17]?.getD undef = .bool (false) := hF 17 (by kernel_rfl)
                    have h129 : a.tmps[129]?.getD undef = .bool false := hD 3 (by kernel_rfl)
                    have g129 := guard_get h129
                    clear hF hD
                    go_simp
                    exact hK.out _ _ (Kp.refl _) rfl
                  · intro a w' hk hF hD K hK
                    have h18 : a.tmps[18]?.getD undef = .bool (false) := hF 18 (by kernel_rfl)
                    have h129 : a.tmps[129]?.getD undef = .bool false := hD 3 (by kernel_rfl)
                    have g129 := guard_get h129
                    clear hF hD
                    go_simp
                    exact hK.out _ _ (Kp.refl _) rfl
                  · intro a w' hk hF hD K hK
                    have h130 : a.tmps[130]?.getD undef = .bool (false) := hD 4 (by kernel_rfl)
                    have h131 : a.tmps[131]?.getD undef = .bool (false) := hD 5 (by kernel_rfl)
                    have h129 : a.tmps[129]?.getD undef = .bool false := hD 3 (by kernel_rfl)
                    have g129 := guard_get h129
                    clear hF hD
                    go_simp
                    exact hK.out _ _ (Kp.refl _) rfl
                  · intro a w' hk hF hD K hK
                    have h129 : a.tmps[129]?.getD undef = .bool false := hD 3 (by kernel_rfl)
                    have h132 : a.tmps[132]?.getD undef = .bool false := hD 6 (by kernel_rfl)
                    clear hF hD
                    go_simp
                    exact hK.out _ _ (Kp.refl _) rfl
                  · intro a w' hk hF hD K hK
                    have h133 : a.tmps[133]?.getD undef = .bool false := hD 7 (by kernel_rfl)
                    clear hF hD
                    go_simp
                    exact hK.out _ _ (Kp.refl _) rfl
                  · intro a w' hk hF hD K hK
                    have h13 : a.tmps[13]?.getD undef = .pointer (some ⟨xb, 0, none⟩) := hF 13 (by kernel_rfl)
                    have h134 : a.tmps[134]?.getD undef = .bool false := hD 8 (by kernel_rfl)
                    have g134 := guard_get h134
                    clear hF hD
                    have z0 := hk.cellS u0
                    have z1 := hk.cellS u1
                    have z2 := hk.cellS u2
                    have z3 := hk.cellS u3
                    have z4 := hk.cellS u4
                    have z5 := hk.cellS u5
                    go_simp
                    exact hK.out _ _ (Kp.refl _) rfl
                  · intro a w' hk hF hD K hK
                    have h14 : a.tmps[14]?.getD undef = .pointer (some ⟨yb, 0, none⟩) := hF 14 (by kernel_rfl)
                    have h134 : a.tmps[134]?.getD undef = .bool false := hD 8 (by kernel_rfl)
                    have g134 := guard_get h134
                    clear hF hD
                    have z0 := hk.cellS v0
                    have z1 := hk.cellS v1
                    have z2 := hk.cellS v2
                    have z3 := hk.cellS v3
                    have z4 := hk.cellS v4
                    have z5 := hk.cellS v5
                    go_simp
                    exact hK.out _ _ (Kp.refl _) rfl
                  · intro a w' hk hF hD K hK
                    have h135 : a.tmps[135]?.getD undef = .agg #[.int .i64 an, .int .i64 a1, .int .i64 a2, .int .i64 a3, .int .i64 a4, .slice A8 anl.length cc8] := hD 9 (by kernel_rfl)
                    have h136 : a.tmps[136]?.getD undef = .agg #[.int .i64 an, .int .i64 a1, .int .i64 a2, .int .i64 a3, .int .i64 a4, .slice AQ anl.length cQ] := hD 10 (by kernel_rfl)
                    have h134 : a.tmps[134]?.getD undef = .bool false := hD 8 (by kernel_rfl)
                    have g134 := guard_get h134
                    clear hF hD
                    go_simp
                    refine (HS.out _ hk).mono ?_
                    rintro e w9 ⟨rfl, hk9⟩
                    exact hK.out _ _ hk9 rfl
                  · intro a w' hk hF hD K hK
                    have h137 : a.tmps[137]?.getD undef = .bool true := hD 11 (by kernel_rfl)
                    have h134 : a.tmps[134]?.getD undef = .bool false := hD 8 (by kernel_rfl)
                    have g134 := guard_get h134
                    clear hF hD
                    go_simp
                    exact hK.out _ _ (Kp.refl _) rfl
                  · intro a w' hk hF hD K hK
                    have h134 : a.tmps[134]?.getD undef = .bool false := hD 8 (by kernel_rfl)
                    have h138 : a.tmps[138]?.getD undef = .bool false := hD 12 (by kernel_rfl)
                    clear hF hD
                    go_simp
                    exact hK.out _ _ (Kp.refl _) rfl
                  · intro a w' hk hF hD K hK
                    have h139 : a.tmps[139]?.getD undef = .bool false := hD 13 (by kernel_rfl)
                    clear hF hD
                    go_simp
                    exact hK.out _ _ (Kp.refl _) rfl
                  · intro a w' hk hF hD K hK
                    have h15 : a.tmps[15]?.getD undef = (.slice none 0 0) := hF 15 (by kernel_rfl)
                    have h140 : a.tmps[140]?.getD undef = .bool false := hD 14 (by kernel_rfl)
                    have g140 := guard_get h140
                    clear hF hD
                    go_simp
                    exact hK.out _ _ (Kp.refl _) rfl
                  · intro a w' hk hF hD K hK
                    have h16 : a.tmps[16]?.getD undef = (.slice none 0 0) := hF 16 (by kernel_rfl)
                    have h140 : a.tmps[140]?.getD undef = .bool false := hD 14 (by kernel_rfl)
                    have g140 := guard_get h140
                    clear hF hD
                    go_simp
                    exact hK.out _ _ (Kp.refl _) rfl
                  · intro a w' hk hF hD K hK
                    have h141 : a.tmps[141]?.getD undef = (.slice none 0 0) := hD 15 (by kernel_rfl)
                    have h142 : a.tmps[142]?.getD undef = (.slice none 0 0) := hD 16 (by kernel_rfl)
                    have h140 : a.tmps[140]?.getD undef = .bool false := hD 14 (by kernel_rfl)
                    have g140 := guard_get h140
                    clear hF hD
                    go_simp
                    refine (HE.out _ hk).mono ?_
                    rintro e w9 ⟨rfl, hk9⟩
                    exact hK.out _ _ hk9 rfl
                  · intro a w' hk hF hD K hK
                    have h143 : a.tmps[143]?.getD undef = .bool true := hD 17 (by kernel_rfl)
                    have h140 : a.tmps[140]?.getD undef = .bool false := hD 14 (by kernel_rfl)
                    have g140 := guard_get h140
                    clear hF hD
                    go_simp
                    exact hK.out _ _ (Kp.refl _) rfl
                  · intro a w' hk hF hD K hK
                    have h140 : a.tmps[140]?.getD undef = .bool false := hD 14 (by kernel_rfl)
                    have h144 : a.tmps[144]?.getD undef = .bool false := hD 18 (by kernel_rfl)
                    clear hF hD
                    go_simp
                    exact hK.out _ _ (Kp.refl _) rfl
                  · intro a w' hk hF hD K hK
                    have h145 : a.tmps[145]?.getD undef = .bool false := hD 19 (by kernel_rfl)
                    clear hF hD
                    go_simp
                    exact hK.out _ _ (Kp.refl _) rfl
                  · intro a w' hk hF hD K hK
                    have h7 : a.tmps[7]?.getD undef = .pointer (some ⟨b, 0, none⟩) := hF 7 (by kernel_rfl)
                    have h146 : a.tmps[146]?.getD undef = .bool false := hD 20 (by kernel_rfl)
                    have g146 := guard_get h146
                    clear hF hD
                    go_simp
                    exact hK.out _ _ (Kp.refl _) rfl
                  · intro a w' hk hF hD K hK
                    have h147 : a.tmps[147]?.getD undef = .pointer (some ⟨b, 0, none⟩) := hD 21 (by kernel_rfl)
                    have h146 : a.tmps[146]?.getD undef = .bool false := hD 20 (by kernel_rfl)
                    have g146 := guard_get h146
                    clear hF hD
                    go_simp
                    refine (HQ.out _ hk).mono ?_
                    rintro e w9 ⟨v9, l9, rfl, hAR, hl9, hk9⟩
                    exact hK.out _ _ hk9 (by have := aks_of (hAR.own.sl encAV_len) (fun x hx => (hAR.nds x hx).sl encNd_len); rw [hl9] at this; exact this)
                  · intro a w' hk hF hD K hK
                    have h9 : a.tmps[9]?.getD undef = .pointer (some ⟨pb, 0, none⟩) := hF 9 (by kernel_rfl)
                    have h146 : a.tmps[146]?.getD undef = .bool false := hD 20 (by kernel_rfl)
                    have g146 := guard_get h146
                    clear hF hD
                    rw [if_pos (by simp [Region.wanted, yielded, g146])]
                    refine wp_load_mid 58 (.tmp 9) rfl pb 0 ((eval_tmp _ _).trans h9) LQ _ (rLQ.out _ hk) Try.underlying58 rfl iQ2 ?_
                    exact hK.out _ _ (Kp.refl _) rfl
                  · intro a w' hk hF hD K hK
                    have h149 : a.tmps[149]?.getD undef = .agg LQ.toArray := hD 23 (by kernel_rfl)
                    have h146 : a.tmps[146]?.getD undef = .bool false := hD 20 (by kernel_rfl)
                    have g146 := guard_get h146
                    clear hF hD
                    go_simp
                    refine (HRq.out _ hk).mono ?_
                    rintro e w9 ⟨v9, rfl, hA9, hk9⟩
                    exact hK.out _ _ hk9 hA9
                  · intro a w' hk hF hD K hK
                    have h148 : (fun v W => Aks W v (reqL s')) (a.tmps[148]?.getD undef) w' := hD 22 (by kernel_rfl)
                    have h150 : (fun v W => Aks W v (reqL s')) (a.tmps[150]?.getD undef) w' := hD 24 (by kernel_rfl)
                    have h146 : a.tmps[146]?.getD undef = .bool false := hD 20 (by kernel_rfl)
                    have g146 := guard_get h146
                    clear hF hD
                    obtain ⟨r1, hr1⟩ : ∃ u, a.tmps[148]?.getD undef = u := ⟨_, rfl⟩
                    obtain ⟨r2, hr2⟩ : ∃ u, a.tmps[150]?.getD undef = u := ⟨_, rfl⟩
                    rw [hr1] at h148
                    rw [hr2] at h150
                    go_simp
                    refine (rSameAll_refl r1 r2 (reqL s') _ h148 h150).mono ?_
                    rintro e w9 ⟨rfl, hk9⟩
                    exact hK.out _ _ hk9 rfl
                  · intro a w' hk hF hD K hK
                    have h151 : a.tmps[151]?.getD undef = .bool true := hD 25 (by kernel_rfl)
                    have h146 : a.tmps[146]?.getD undef = .bool false := hD 20 (by kernel_rfl)
                    have g146 := guard_get h146
                    clear hF hD
                    go_simp
                    exact hK.out _ _ (Kp.refl _) rfl
                  · exact fun i0 hi0 => by simp at hi0
                  intro v w9 k9 hv
                  have v20 : v 20 = .bool false := hv 20 (by omega)
                  have v26 : v 26 = .bool false := hv 26 (by omega)
                  clear hv
                  simp only [G2.growPut, G2.gSlot, List.getElem?_toArray, List.getElem?_cons_zero, List.getElem?_cons_succ, Option.bind_some, List.setIfInBounds_toArray, List.set_cons_zero, List.set_cons_succ, List.drop_succ_cons, List.drop_zero, v20, v26]
                  have hltf : pb < w9.heap.size := Nat.lt_of_lt_of_le (PB.lt (by omega)) k9.size
                  have hC9 := hid (show CaW w b mb pb s' va' vh' w9 from ⟨(HB.kp k9).to (fun q _ h => sU q h) (fun h => h (.inl (.inl rfl))) (fun h => h (.inl (.inr rfl))), by rw [← hLQ.out]; exact PB.kp k9 (PB.lt (by omega)), (RF.kp k9).mono x3, kwf.trans k9, hltf⟩)
                  clear u0 u1 u2 u3 u4 u5 v0 v1 v2 v3 v4 v5 HB RF PB BXf BY12 kwf hNx hNy e0 eok
                  go_wp2_with fail
                  go_roundw
                  case rel => exact ⟨k + 1, er, s', va', vh', hlt, by go_num, rfl, rfl, hC9.out⟩
                  case measure => exact br_meas hlt
                · have g2 : (xk == 2) = false := by simpa using x2
                  replace x2 := hid x2
                  go_wp2_with fail
                  refine (bGrants_any (S := S') (b := b) (mb := mb) (s := s) al (.slice Al al.length cl) HB7 (fun q hq => sI q (by omega)) (nds_sxM ha kw7 sL)).mono ?_
                  have HRR := hid (fun (W : World) (h1 : RefX X4 W s va vh) (h2 : ∀ q, X4 q → q < W.heap.size) (h3 : Kp w W) => rGrants41_any X4 s al va vh (.slice Al al.length cl) W h1 h2 (ha.keep (pl_stable _) h3))
                  obtain ⟨r, hr⟩ : ∃ r, r = grants s al := ⟨_, rfl⟩
                  rw [← hr] at HRR ⊢
                  clear hr
                  obtain ⟨s', gs⟩ := r
                  dsimp only at HRR ⊢
                  rintro e w9 ⟨gv, rfl, gown, HB9, fx8⟩
                  obtain ⟨Ag, cg, rfl, -, -⟩ := gown.form
                  have hG9 : OwF X4 w9 fun w' => Grs w' (.slice Ag gs.length cg) gs := (gown.owF xl).imp fun _ h => h.sl encGr_len
                  clear gown
                  go_upto_region 19 with (fail)
                  have hxl := BX.lt (by simp)
                  have hyl := BY.lt (by simp)
                  have hpl := PB7.lt (by simp)
                  have hal := AB7.lt (by simp)
                  have hnb : ¬ B2 b mb xb ∧ ¬ B2 b mb yb ∧ ¬ B2 b mb pb ∧ ¬ B2 b mb ab := ⟨fun h => by rcases h with h | h <;> omega, fun h => by rcases h with h | h <;> omega, fun h => by rcases h with h | h <;> omega, fun h => by rcases h with h | h <;> omega⟩
                  have fx79 : Fx X4 w7 w9 := fx8.mono (fun q _ hq => xB q hq)
                  have RF9 := RF7.fx fx79
                  have BX9 := BX.fx fx8 hxl hnb.1
                  have PB9 := PB7.fx fx8 hpl hnb.2.2.1
                  have AB9 := AB7.fx fx8 hal hnb.2.2.2
                  have BY9 := BY.fx fx8 hyl hnb.2.1
                  have kw9 : Kp w w9 := ((kw7.fx X4).trans fx79).kp xW
                  clear c0 c1 c2 c3 c4 c5 c6 c7 c8 fx8 hSn hSa HB7 hxl hyl hpl hal hnb BX BY PB7 AB7
                  have c0 := (AB9).cell (j := 0) rfl
                  have c1 := (AB9).cell (j := 1) rfl
                  have c2 := (AB9).cell (j := 2) rfl
                  have c3 := (AB9).cell (j := 3) rfl
                  have c4 := (AB9).cell (j := 4) rfl
                  have c5 := (AB9).cell (j := 5) rfl
                  have c6 := (AB9).cell (j := 6) rfl
                  have c7 := (AB9).cell (j := 7) rfl
                  have c8 := (AB9).cell (j := 8) rfl
                  obtain ⟨LP, hLP⟩ : ∃ LP : List Value, Hid (LP = refL s va vh) := ⟨_, hid rfl⟩
                  rw [← hLP.out] at PB9 HRR
                  have rL := PB9.range
                  have lLP : LP.length = 10 := by rw [hLP.out]; rfl
                  have iL : (Try.prog.info? 58).map (·.size) = some LP.length := by rw [lLP]; kernel_rfl
                  go_wp2_with (first | (refine wpList_load_mid rfl 58 (.tmp 9) rfl pb 0 rfl LP _ rL Try.underlying58 rfl iL ?_) | fail)
                  refine (HRR.out w9 RF9 (fun q hq => Nat.lt_of_lt_of_le (xl q hq) fx79.size) kw9).mono ?_
                  rintro e w10 ⟨k10, vh', vg, he, hGq, RF10⟩
                  obtain ⟨va', hva'⟩ : ∃ va', va' = va := ⟨_, rfl⟩
                  rw [← hva'] at he RF10
                  obtain ⟨Aq, cq, rfl, -, -⟩ := hGq.here.form
                  have hG10 := hG9.kp k10
                  have hGa := hid (fun W (h : Fx X4 w10 W) => (hG10.fx h).here)
                  have hGb := hid (fun W (h : Fx X4 w10 W) => (hGq.fx h).here)
                  clear hG9 hG10 hGq
                  obtain ⟨LQ, hLQ⟩ : ∃ LQ : List Value, LQ = refL s' va' vh' := ⟨_, rfl⟩
                  have lLQ : LQ.length = 10 := by rw [hLQ]; rfl
                  have oQ := hid (show ∀ u ∈ LQ, u.oneCell' = true by
                    obtain ⟨Aa, ca, Ab, cb, ea, eb⟩ := RF10.form
                    rw [hLQ, ea, eb]
                    simp [Value.oneCell'])
                  try dsimp only at he
                  rw [← hLQ] at he
                  subst he
                  replace hLQ := hid hLQ
                  have PB10 := PB9.kp k10 (PB9.lt (by omega))
                  have BY10 := BY9.kp k10 (BY9.lt (by simp))
                  have BX10 := BX9.kp k10 (BX9.lt (by simp))
                  have hthB : w10.there pb 0 LQ.toArray.size := by simpa [lLQ] using PB10.thereAt 0 10 (by omega)
                  have iQ : (Try.prog.info? 58).map (·.size) = some LQ.toArray.size := by simp only [List.size_toArray, lLQ]; kernel_rfl
                  obtain ⟨w12, hw12⟩ : ∃ w12, w12 = w10.setCells pb 0 LQ := ⟨_, rfl⟩
                  have fx11 : Fx (fun q => q = pb) w10 w12 := by rw [hw12]; exact (Kg.setCells (.inl rfl) LQ 0 (Kg.refl w10 pb)).fx (.inl rfl)
                  have PB : Bx w12 pb LQ := by rw [hw12]; exact PB10.all (by omega)
                  replace hw12 := hid hw12
                  go_upto_region 29 with (first | (refine wpList_store_mid rfl 58 (.tmp 9) (.tmp 65) rfl pb 0 LQ.toArray rfl rfl hthB iQ (all_oneCell_toArray oQ.out) ?_; rw [List.toList_toArray, ← hw12.out]) | fail)
                  have fxA : Fx X4 w10 w12 := fx11.mono (fun q _ hq => xN q (.inl hq))
                  have RF := RF10.fx fxA
                  obtain ⟨ak, A8, cc8, AQ, cQ, hz1, hz2, hz3, hz4, hz5⟩ : ∃ (ak : Ak) (A8 : Option Addr) (cc8 : Nat) (AQ : Option Addr) (cQ : Nat), ak = zAk ∧ A8 = none ∧ cc8 = 0 ∧ AQ = none ∧ cQ = 0 := ⟨_, _, _, _, _, rfl, rfl, rfl, rfl, rfl⟩
                  obtain ⟨v8, hv8⟩ : ∃ v8 : Value, v8 = .slice A8 ak.needs.length cc8 := ⟨_, rfl⟩
                  obtain ⟨vq, hvq⟩ : ∃ vq : Value, vq = .slice AQ ak.needs.length cQ := ⟨_, rfl⟩
                  obtain ⟨cx, hcx⟩ : ∃ cx, cx = askL ak v8 := ⟨_, rfl⟩
                  obtain ⟨cy, hcy⟩ : ∃ cy, cy = askL ak vq := ⟨_, rfl⟩
                  have ecx : cx = #[.int .i64 0, .int .i64 0, .int .i64 0, .int .i64 0, .int .i64 0, .slice none 0 0].toList := by rw [hcx, hv8, hz1, hz2, hz3]; rfl
                  have ecy : cy = #[.int .i64 0, .int .i64 0, .int .i64 0, .int .i64 0, .int .i64 0, .slice none 0 0].toList := by rw [hcy, hvq, hz1, hz4, hz5]; rfl
                  have BXf : Bx w12 xb cx := by rw [ecx]; exact BX10.fx fx11 (BX10.lt (by simp)) (fun e => by omega)
                  have BY12 : Bx w12 yb cy := by rw [ecy]; exact BY10.fx fx11 (BY10.lt (by simp)) (fun e => by omega)
                  have kwf : Kp w w12 := (((kw9.trans k10).fx X4).trans fxA).kp xW
                  have hNx : Nds w12 v8 ak.needs := by rw [hv8, hz1, hz2, hz3]; exact Sl.nil _ _ _
                  have hNy : Nds w12 vq ak.needs := by rw [hvq, hz1, hz4, hz5]; exact Sl.nil _ _ _
                  have HB := (HB9.kp k10).fx fx11 (fun q hq e => (sN q hq).1 e) (by omega) (by omega)
                  replace hcx := hid hcx
                  replace hcy := hid hcy
                  replace hv8 := hid hv8
                  replace hvq := hid hvq
                  clear hz1 hz2 hz3 hz4 hz5 ecx ecy c0 c1 c2 c3 c4 c5 c6 c7 c8 hthB iQ fx11 BY10 BX10 PB10 HB9 RF9 RF10 rL fx79 AB9 BY9 BX9 PB9 iL HRR
                  have hgA := hGa.out w12 fxA
                  have hgB := hGb.out w12 fxA
                  obtain ⟨an, ⟨a1, a2, a3, a4⟩, anl⟩ := ak
                  obtain ⟨ew8, hew8⟩ : ∃ u, u = v8 := ⟨_, rfl⟩
                  have hv8' := hv8.out
                  have hvq' := hvq.out
                  subst hv8' hvq'
                  dsimp only at hNx hNy hcx hcy
                  have BXg := BXf
                  have BYg := BY12
                  rw [hcx.out] at BXg
                  rw [hcy.out] at BYg
                  have u0 := BXg.cell (j := 0) rfl
                  have u1 := BXg.cell (j := 1) rfl
                  have u2 := BXg.cell (j := 2) rfl
                  have u3 := BXg.cell (j := 3) rfl
                  have u4 := BXg.cell (j := 4) rfl
                  have u5 := BXg.cell (j := 5) rfl
                  have v0 := BYg.cell (j := 0) rfl
                  have v1 := BYg.cell (j := 1) rfl
                  have v2 := BYg.cell (j := 2) rfl
                  have v3 := BYg.cell (j := 3) rfl
                  have v4 := BYg.cell (j := 4) rfl
                  have v5 := BYg.cell (j := 5) rfl
                  have HS := hid (fun W (h : Kp w12 W) => rSame41_refl _ _ ⟨an, (a1, a2, a3, a4), anl⟩ W (hNx.keep (pl_stable _) h) (hNy.keep (pl_stable _) h))
                  have HE := hid (fun W (h : Kp w12 W) => EqualGr_same (.slice Ag gs.length cg) (.slice Aq gs.length cq) gs W ((hgA).keep (pl_stable _) h) ((hgB).keep (pl_stable _) h))
                  have HQ := hid (fun W (h : Kp w12 W) => bRequests_any (HB.kp h))
                  have HRq := hid (fun W (h : Kp w12 W) => rRequests_any X4 s' va' vh' W (RF.kp h))
                  rw [← hLQ.out] at HRq
                  have lLQ2 : LQ.length = 10 := by rw [hLQ.out]; rfl
                  have iQ2 : (Try.prog.info? 58).map (·.size) = some LQ.length := by rw [lLQ2]; kernel_rfl
                  have rLQ := hid (fun W (h : Kp w12 W) => (PB.kp h (PB.lt (by omega))).range)
                  have e0 : ((er0) != (er0)) = false := by simp
                  have eok : ((false) != (false)) = false := by simp
                  clear BXg BYg hew8
                  refine G2.wp_region_growT Kp [] 27 155 (G2.pvL [G2.eqv (.int .i64 (er0)), G2.eqv (.int .i64 (er0)), G2.eqv (.bool false), G2.eqv (.bool false), G2.eqv (.bool (false)), G2.eqv (.bool (false)), G2.eqv (.bool false), G2.eqv (.bool false), G2.eqv (.bool false), G2.eqv (.agg #[.int .i64 an, .int .i64 a1, .int .i64 a2, .int .i64 a3, .int .i64 a4, .slice A8 anl.length cc8]), G2.eqv (.agg #[.int .i64 an, .int .i64 a1, .int .i64 a2, .int .i64 a3, .int .i64 a4, .slice AQ anl.length cQ]), G2.eqv (.bool true), G2.eqv (.bool false), G2.eqv (.bool false), G2.eqv (.bool false), G2.eqv ((.slice Ag gs.length cg)), G2.eqv ((.slice Aq gs.length cq)), G2.eqv (.bool true), G2.eqv (.bool false), G2.eqv (.bool false), G2.eqv (.bool false), G2.eqv (.pointer (some ⟨b, 0, none⟩)), (fun v W => Aks W v (reqL s')), G2.eqv (.agg LQ.toArray), (fun v W => Aks W v (reqL s')), G2.eqv (.bool true), G2.eqv (.bool false)]) (by kernel_rfl) (by kernel_rfl) rfl (fun x => Kp.refl x) (fun _ _ _ h k => h.trans k) (Kp.refl _).drew (by intro _ _ _ _ _ h; exact h) (G2.pvL_keep (G2.stabL_cons (G2.stab_eq _) (G2.stabL_cons (G2.stab_eq _) (G2.stabL_cons (G2.stab_eq _) (G2.stabL_cons (G2.stab_eq _) (G2.stabL_cons (G2.stab_eq _) (G2.stabL_cons (G2.stab_eq _) (G2.stabL_cons (G2.stab_eq _) (G2.stabL_cons (G2.stab_eq _) (G2.stabL_cons (G2.stab_eq _) (G2.stabL_cons (G2.stab_eq _) (G2.stabL_cons (G2.stab_eq _) (G2.stabL_cons (G2.stab_eq _) (G2.stabL_cons (G2.stab_eq _) (G2.stabL_cons (G2.stab_eq _) (G2.stabL_cons (G2.stab_eq _) (G2.stabL_cons (G2.stab_eq _) (G2.stabL_cons (G2.stab_eq _) (G2.stabL_cons (G2.stab_eq _) (G2.stabL_cons (G2.stab_eq _) (G2.stabL_cons (G2.stab_eq _) (G2.stabL_cons (G2.stab_eq _) (G2.stabL_cons (G2.stab_eq _) (G2.stabL_cons (fun _ _ _ h k => h.keep rdAk_stable k) (G2.stabL_cons (G2.stab_eq _) (G2.stabL_cons (fun _ _ _ h k => h.keep rdAk_stable k) (G2.stabL_cons (G2.stab_eq _) (G2.stabL_cons (G2.stab_eq _) (G2.stabL_nil))))))))))))))))))))))))))))) (G2.stepsT_cons 0 ?_ (G2.stepsT_cons 1 ?_ (G2.stepsT_cons 2 ?_ (G2.stepsT_cons 3 ?_ (G2.stepsT_cons 4 ?_ (G2.stepsT_cons 5 ?_ (G2.stepsT_cons 6 ?_ (G2.stepsT_cons 7 ?_ (G2.stepsT_cons 8 ?_ (G2.stepsT_cons 9 ?_ (G2.stepsT_cons 10 ?_ (G2.stepsT_cons 11 ?_ (G2.stepsT_cons 12 ?_ (G2.stepsT_cons 13 ?_ (G2.stepsT_cons 14 ?_ (G2.stepsT_cons 15 ?_ (G2.stepsT_cons 16 ?_ (G2.stepsT_cons 17 ?_ (G2.stepsT_cons 18 ?_ (G2.stepsT_cons 19 ?_ (G2.stepsT_cons 20 ?_ (G2.stepsT_cons 21 ?_ (G2.stepsT_cons 22 ?_ (G2.stepsT_cons 23 ?_ (G2.stepsT_cons 24 ?_ (G2.stepsT_cons 25 ?_ (G2.stepsT_cons 26 ?_ (G2.stepsT_nil _ _ _)))))))))))))))))))))))))))) ?_ ?_
                  · intro a w' hk hF hD K hK
                    have h8 : a.tmps[8]?.getD undef = .int .i64 (er0) := hF 8 (by kernel_rfl)
                    clear hF hD
                    go_simp
                    exact hK.out _ _ (Kp.refl _) rfl
                  · intro a w' hk hF hD K hK
                    have h10 : a.tmps[10]?.getD undef = .int .i64 (er0) := hF 10 (by kernel_rfl)
                    clear hF hD
                    go_simp
                    exact hK.out _ _ (Kp.refl _) rfl
                  · intro a w' hk hF hD K hK
                    have h126 : a.tmps[126]?.getD undef = .int .i64 (er0) := hD 0 (by kernel_rfl)
                    have h127 : a.tmps[127]?.getD undef = .int .i64 (er0) := hD 1 (by kernel_rfl)
                    clear hF hD
                    go_simp
                    exact hK.out _ _ (Kp.refl _) rfl
                  · intro a w' hk hF hD K hK
                    have h128 : a.tmps[128]?.getD undef = .bool false := hD 2 (by kernel_rfl)
                    clear hF hD
                    go_simp
                    exact hK.out _ _ (Kp.refl _) rfl
                  · intro a w' hk hF hD K hK
                    have h17 : a.tmps[17]?.getD undef = .bool (false) := hF 17 (by kernel_rfl)
                    have h129 : a.tmps[129]?.getD undef = .bool false := hD 3 (by kernel_rfl)
                    have g129 := guard_get h129
                    clear hF hD
                    go_simp
                    exact hK.out _ _ (Kp.refl _) rfl
                  · intro a w' hk hF hD K hK
                    have h18 : a.tmps[18]?.getD undef = .bool (false) := hF 18 (by kernel_rfl)
                    have h129 : a.tmps[129]?.getD undef = .bool false := hD 3 (by kernel_rfl)
                    have g129 := guard_get h129
                    clear hF hD
                    go_simp
                    exact hK.out _ _ (Kp.refl _) rfl
                  · intro a w' hk hF hD K hK
                    have h130 : a.tmps[130]?.getD undef = .bool (false) := hD 4 (by kernel_rfl)
                    have h131 : a.tmps[131]?.getD undef = .bool (false) := hD 5 (by kernel_rfl)
                    have h129 : a.tmps[129]?.getD undef = .bool false := hD 3 (by kernel_rfl)
                    have g129 := guard_get h129
                    clear hF hD
                    go_simp
                    exact hK.out _ _ (Kp.refl _) rfl
                  · intro a w' hk hF hD K hK
                    have h129 : a.tmps[129]?.getD undef = .bool false := hD 3 (by kernel_rfl)
                    have h132 : a.tmps[132]?.getD undef = .bool false := hD 6 (by kernel_rfl)
                    clear hF hD
                    go_simp
                    exact hK.out _ _ (Kp.refl _) rfl
                  · intro a w' hk hF hD K hK
                    have h133 : a.tmps[133]?.getD undef = .bool false := hD 7 (by kernel_rfl)
                    clear hF hD
                    go_simp
                    exact hK.out _ _ (Kp.refl _) rfl
                  · intro a w' hk hF hD K hK
                    have h13 : a.tmps[13]?.getD undef = .pointer (some ⟨xb, 0, none⟩) := hF 13 (by kernel_rfl)
                    have h134 : a.tmps[134]?.getD undef = .bool false := hD 8 (by kernel_rfl)
                    have g134 := guard_get h134
                    clear hF hD
                    have z0 := hk.cellS u0
                    have z1 := hk.cellS u1
                    have z2 := hk.cellS u2
                    have z3 := hk.cellS u3
                    have z4 := hk.cellS u4
                    have z5 := hk.cellS u5
                    go_simp
                    exact hK.out _ _ (Kp.refl _) rfl
                  · intro a w' hk hF hD K hK
                    have h14 : a.tmps[14]?.getD undef = .pointer (some ⟨yb, 0, none⟩) := hF 14 (by kernel_rfl)
                    have h134 : a.tmps[134]?.getD undef = .bool false := hD 8 (by kernel_rfl)
                    have g134 := guard_get h134
                    clear hF hD
                    have z0 := hk.cellS v0
                    have z1 := hk.cellS v1
                    have z2 := hk.cellS v2
                    have z3 := hk.cellS v3
                    have z4 := hk.cellS v4
                    have z5 := hk.cellS v5
                    go_simp
                    exact hK.out _ _ (Kp.refl _) rfl
                  · intro a w' hk hF hD K hK
                    have h135 : a.tmps[135]?.getD undef = .agg #[.int .i64 an, .int .i64 a1, .int .i64 a2, .int .i64 a3, .int .i64 a4, .slice A8 anl.length cc8] := hD 9 (by kernel_rfl)
                    have h136 : a.tmps[136]?.getD undef = .agg #[.int .i64 an, .int .i64 a1, .int .i64 a2, .int .i64 a3, .int .i64 a4, .slice AQ anl.length cQ] := hD 10 (by kernel_rfl)
                    have h134 : a.tmps[134]?.getD undef = .bool false := hD 8 (by kernel_rfl)
                    have g134 := guard_get h134
                    clear hF hD
                    go_simp
                    refine (HS.out _ hk).mono ?_
                    rintro e w9 ⟨rfl, hk9⟩
                    exact hK.out _ _ hk9 rfl
                  · intro a w' hk hF hD K hK
                    have h137 : a.tmps[137]?.getD undef = .bool true := hD 11 (by kernel_rfl)
                    have h134 : a.tmps[134]?.getD undef = .bool false := hD 8 (by kernel_rfl)
                    have g134 := guard_get h134
                    clear hF hD
                    go_simp
                    exact hK.out _ _ (Kp.refl _) rfl
                  · intro a w' hk hF hD K hK
                    have h134 : a.tmps[134]?.getD undef = .bool false := hD 8 (by kernel_rfl)
                    have h138 : a.tmps[138]?.getD undef = .bool false := hD 12 (by kernel_rfl)
                    clear hF hD
                    go_simp
                    exact hK.out _ _ (Kp.refl _) rfl
                  · intro a w' hk hF hD K hK
                    have h139 : a.tmps[139]?.getD undef = .bool false := hD 13 (by kernel_rfl)
                    clear hF hD
                    go_simp
                    exact hK.out _ _ (Kp.refl _) rfl
                  · intro a w' hk hF hD K hK
                    have h15 : a.tmps[15]?.getD undef = (.slice Ag gs.length cg) := hF 15 (by kernel_rfl)
                    have h140 : a.tmps[140]?.getD undef = .bool false := hD 14 (by kernel_rfl)
                    have g140 := guard_get h140
                    clear hF hD
                    go_simp
                    exact hK.out _ _ (Kp.refl _) rfl
                  · intro a w' hk hF hD K hK
                    have h16 : a.tmps[16]?.getD undef = (.slice Aq gs.length cq) := hF 16 (by kernel_rfl)
                    have h140 : a.tmps[140]?.getD undef = .bool false := hD 14 (by kernel_rfl)
                    have g140 := guard_get h140
                    clear hF hD
                    go_simp
                    exact hK.out _ _ (Kp.refl _) rfl
                  · intro a w' hk hF hD K hK
                    have h141 : a.tmps[141]?.getD undef = (.slice Ag gs.length cg) := hD 15 (by kernel_rfl)
                    have h142 : a.tmps[142]?.getD undef = (.slice Aq gs.length cq) := hD 16 (by kernel_rfl)
                    have h140 : a.tmps[140]?.getD undef = .bool false := hD 14 (by kernel_rfl)
                    have g140 := guard_get h140
                    clear hF hD
                    go_simp
                    refine (HE.out _ hk).mono ?_
                    rintro e w9 ⟨rfl, hk9⟩
                    exact hK.out _ _ hk9 rfl
                  · intro a w' hk hF hD K hK
                    have h143 : a.tmps[143]?.getD undef = .bool true := hD 17 (by kernel_rfl)
                    have h140 : a.tmps[140]?.getD undef = .bool false := hD 14 (by kernel_rfl)
                    have g140 := guard_get h140
                    clear hF hD
                    go_simp
                    exact hK.out _ _ (Kp.refl _) rfl
                  · intro a w' hk hF hD K hK
                    have h140 : a.tmps[140]?.getD undef = .bool false := hD 14 (by kernel_rfl)
                    have h144 : a.tmps[144]?.getD undef = .bool false := hD 18 (by kernel_rfl)
                    clear hF hD
                    go_simp
                    exact hK.out _ _ (Kp.refl _) rfl
                  · intro a w' hk hF hD K hK
                    have h145 : a.tmps[145]?.getD undef = .bool false := hD 19 (by kernel_rfl)
                    clear hF hD
                    go_simp
                    exact hK.out _ _ (Kp.refl _) rfl
                  · intro a w' hk hF hD K hK
                    have h7 : a.tmps[7]?.getD undef = .pointer (some ⟨b, 0, none⟩) := hF 7 (by kernel_rfl)
                    have h146 : a.tmps[146]?.getD undef = .bool false := hD 20 (by kernel_rfl)
                    have g146 := guard_get h146
                    clear hF hD
                    go_simp
                    exact hK.out _ _ (Kp.refl _) rfl
                  · intro a w' hk hF hD K hK
                    have h147 : a.tmps[147]?.getD undef = .pointer (some ⟨b, 0, none⟩) := hD 21 (by kernel_rfl)
                    have h146 : a.tmps[146]?.getD undef = .bool false := hD 20 (by kernel_rfl)
                    have g146 := guard_get h146
                    clear hF hD
                    go_simp
                    refine (HQ.out _ hk).mono ?_
                    rintro e w9 ⟨v9, l9, rfl, hAR, hl9, hk9⟩
                    exact hK.out _ _ hk9 (by have := aks_of (hAR.own.sl encAV_len) (fun x hx => (hAR.nds x hx).sl encNd_len); rw [hl9] at this; exact this)
                  · intro a w' hk hF hD K hK
                    have h9 : a.tmps[9]?.getD undef = .pointer (some ⟨pb, 0, none⟩) := hF 9 (by kernel_rfl)
                    have h146 : a.tmps[146]?.getD undef = .bool false := hD 20 (by kernel_rfl)
                    have g146 := guard_get h146
                    clear hF hD
                    rw [if_pos (by simp [Region.wanted, yielded, g146])]
                    refine wp_load_mid 58 (.tmp 9) rfl pb 0 ((eval_tmp _ _).trans h9) LQ _ (rLQ.out _ hk) Try.underlying58 rfl iQ2 ?_
                    exact hK.out _ _ (Kp.refl _) rfl
                  · intro a w' hk hF hD K hK
                    have h149 : a.tmps[149]?.getD undef = .agg LQ.toArray := hD 23 (by kernel_rfl)
                    have h146 : a.tmps[146]?.getD undef = .bool false := hD 20 (by kernel_rfl)
                    have g146 := guard_get h146
                    clear hF hD
                    go_simp
                    refine (HRq.out _ hk).mono ?_
                    rintro e w9 ⟨v9, rfl, hA9, hk9⟩
                    exact hK.out _ _ hk9 hA9
                  · intro a w' hk hF hD K hK
                    have h148 : (fun v W => Aks W v (reqL s')) (a.tmps[148]?.getD undef) w' := hD 22 (by kernel_rfl)
                    have h150 : (fun v W => Aks W v (reqL s')) (a.tmps[150]?.getD undef) w' := hD 24 (by kernel_rfl)
                    have h146 : a.tmps[146]?.getD undef = .bool false := hD 20 (by kernel_rfl)
                    have g146 := guard_get h146
                    clear hF hD
                    obtain ⟨r1, hr1⟩ : ∃ u, a.tmps[148]?.getD undef = u := ⟨_, rfl⟩
                    obtain ⟨r2, hr2⟩ : ∃ u, a.tmps[150]?.getD undef = u := ⟨_, rfl⟩
                    rw [hr1] at h148
                    rw [hr2] at h150
                    go_simp
                    refine (rSameAll_refl r1 r2 (reqL s') _ h148 h150).mono ?_
                    rintro e w9 ⟨rfl, hk9⟩
                    exact hK.out _ _ hk9 rfl
                  · intro a w' hk hF hD K hK
                    have h151 : a.tmps[151]?.getD undef = .bool true := hD 25 (by kernel_rfl)
                    have h146 : a.tmps[146]?.getD undef = .bool false := hD 20 (by kernel_rfl)
                    have g146 := guard_get h146
                    clear hF hD
                    go_simp
                    exact hK.out _ _ (Kp.refl _) rfl
                  · exact fun i0 hi0 => by simp at hi0
                  intro v w9 k9 hv
                  have v20 : v 20 = .bool false := hv 20 (by omega)
                  have v26 : v 26 = .bool false := hv 26 (by omega)
                  clear hv
                  simp only [G2.growPut, G2.gSlot, List.getElem?_toArray, List.getElem?_cons_zero, List.getElem?_cons_succ, Option.bind_some, List.setIfInBounds_toArray, List.set_cons_zero, List.set_cons_succ, List.drop_succ_cons, List.drop_zero, v20, v26]
                  have hltf : pb < w9.heap.size := Nat.lt_of_lt_of_le (PB.lt (by omega)) k9.size
                  have hC9 := hid (show CaW w b mb pb s' va' vh' w9 from ⟨(HB.kp k9).to (fun q _ h => sU q h) (fun h => h (.inl (.inl rfl))) (fun h => h (.inl (.inr rfl))), by rw [← hLQ.out]; exact PB.kp k9 (PB.lt (by omega)), (RF.kp k9).mono x3, kwf.trans k9, hltf⟩)
                  clear u0 u1 u2 u3 u4 u5 v0 v1 v2 v3 v4 v5 HB RF PB BXf BY12 kwf hNx hNy e0 eok
                  go_wp2_with fail
                  go_roundw
                  case rel => exact ⟨k + 1, er0, s', va', vh', hlt, by go_num, rfl, rfl, hC9.out⟩
                  case measure => exact br_meas hlt
          · have hkl : ¬ (k : Int) < (l.length : Int) := by omega
            have kE := hC.kp
            go_wp2
            go_ret
            exact ⟨rfl, kE⟩
end Go.Proofs.Ytbcekihjcgnhkaa
