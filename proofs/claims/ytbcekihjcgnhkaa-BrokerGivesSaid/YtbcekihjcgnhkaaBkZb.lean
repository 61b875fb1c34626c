
/-
BrokerGives: what is given away is neither too much nor too little: the walk.
-/
import Derived.Test.YtbcekihjcgnhkaaBkU
import Derived.Test.YtbcekihjcgnhkaaBkY
import Derived.Test.YtbcekihjcgnhkaaBkYb
import Derived.Test.YtbcekihjcgnhkaaBkQ
namespace Go.Proofs.Ytbcekihjcgnhkaa
set_option linter.unusedSimpArgs false
set_option linter.unusedVariables false
open Go.RowKit

/-- the broker behind a call that gives nothing away -/
def actB (s : Bk) (x : Ac) : Bk := if x.kind = 0 then (request s x.ask.pri x.ask.needs x.all).1 else if x.kind = 1 then (rest s).1 else if x.kind = 2 then (hear s x.frm x.ask).1 else s
theorem ac_box (w : World) (cs : List Value) (h : cs.length = 9) :
    (w.alloc (.cells #[.int .i64 0, .int .i64 0, .int .i64 0, .int .i64 0, .int .i64 0, .int .i64 0, .int .i64 0, .slice none 0 0, .slice none 0 0] 62)).there w.heap.size 0 cs.length ∧ Bx ((w.alloc (.cells #[.int .i64 0, .int .i64 0, .int .i64 0, .int .i64 0, .int .i64 0, .int .i64 0, .int .i64 0, .slice none 0 0, .slice none 0 0] 62)).setCells w.heap.size 0 cs) w.heap.size cs ∧ Kp w ((w.alloc (.cells #[.int .i64 0, .int .i64 0, .int .i64 0, .int .i64 0, .int .i64 0, .int .i64 0, .int .i64 0, .slice none 0 0, .slice none 0 0] 62)).setCells w.heap.size 0 cs) ∧ w.heap.size < ((w.alloc (.cells #[.int .i64 0, .int .i64 0, .int .i64 0, .int .i64 0, .int .i64 0, .int .i64 0, .int .i64 0, .slice none 0 0, .slice none 0 0] 62)).setCells w.heap.size 0 cs).heap.size ∧ (Try.prog.info? 62).map (·.size) = some cs.length :=
  ⟨there_new w #[.int .i64 0, .int .i64 0, .int .i64 0, .int .i64 0, .int .i64 0, .int .i64 0, .int .i64 0, .slice none 0 0, .slice none 0 0] 62 cs.length (by rw [h]; rfl), (Bx.new w #[.int .i64 0, .int .i64 0, .int .i64 0, .int .i64 0, .int .i64 0, .int .i64 0, .int .i64 0, .slice none 0 0, .slice none 0 0] 62).all (cs := cs) (by rw [h]; rfl), Kp.setCells (Nat.le_refl _) cs 0 _ ((Kp.refl w).alloc _), by rw [setCells_size]; exact alloc_lt w _, by rw [h]; kernel_rfl⟩
theorem ask_box (w : World) (cs : List Value) (h : cs.length = 6) :
    (w.alloc (.cells #[.int .i64 0, .int .i64 0, .int .i64 0, .int .i64 0, .int .i64 0, .slice none 0 0] 29)).there w.heap.size 0 cs.length ∧ Kp w ((w.alloc (.cells #[.int .i64 0, .int .i64 0, .int .i64 0, .int .i64 0, .int .i64 0, .slice none 0 0] 29)).setCells w.heap.size 0 cs) ∧ (Try.prog.info? 29).map (·.size) = some cs.length :=
  ⟨there_new w #[.int .i64 0, .int .i64 0, .int .i64 0, .int .i64 0, .int .i64 0, .slice none 0 0] 29 cs.length (by rw [h]; rfl), Kp.setCells (Nat.le_refl _) cs 0 _ ((Kp.refl w).alloc _), by rw [h]; kernel_rfl⟩
theorem rdAc_one {w : World} {cs : List Value} {x : Ac} (h : rdAc w cs x) : cs.length = 9 ∧ ∀ u ∈ cs, u.oneCell' = true := by
  obtain ⟨vn, va, rfl, h1, h2⟩ := h
  obtain ⟨A1, c1, rfl, -, -⟩ := h1.form
  obtain ⟨A2, c2, rfl, -, -⟩ := h2.form
  exact ⟨rfl, by simp [Value.oneCell']⟩
theorem Sl.acR {w : World} {A : Option Addr} {n c : Nat} {l : List Ac} (h : Acs w (.slice A n c) l) {k : Nat} (hk : k < l.length) :
    ∃ b o cs, A = some ⟨b, o, none⟩ ∧ b < w.heap.size ∧ w.rangeAt b (o + k * 9) cs ∧ rdAc w cs l[k] := by
  obtain ⟨b, o, cs, hA, had, hcs, hc, hr⟩ := h.at_ hk
  exact ⟨b, o, cs, hA, had, hc, hr⟩
theorem kp_range {w w' : World} (hk : Kp w w') {b o : Nat} {cs : List Value} (h : w.rangeAt b o cs) : w'.rangeAt b o cs := fun j u hu => hk.cellS (h j u hu)
theorem nds_sxB {S : Nat → Prop} {w w4 : World} {v : Value} {l : List Nd} (h : Nds w v l) (k : Kp w w4) (hs : ∀ q, q < w.heap.size → S q) : Sx S w4 v l := fun w' h1 h2 => by
  have h3 : Nds { w with heap := w'.heap } v l := h.keep (pl_stable _) ⟨rfl, rfl, rfl, Nat.le_trans k.size h1, fun q hq => (h2 q (hs q hq) (Nat.lt_of_lt_of_le hq k.size)).trans (k.block hq)⟩
  exact h3
theorem Fx.cellS {X : Nat → Prop} {w w' : World} (h : Fx X w w') {p : Addr} {v : Value} (hp : w.cell? p = some v) (hx : ¬ X p.block) : w'.cell? p = some v := (World.cell?_of_block (h.block p.block (block_lt_of_cell hp) hx)).trans hp
theorem eval_tmp (a : Act) (i : Nat) : a.eval (.tmp i) = a.tmps[i]?.getD undef := by simp [Act.eval]
def Sp (b mb pb : Nat) (k : Nat) : Prop := ¬ B2 b mb k ∧ k ≠ pb
/-- the rounds over the calls -/
structure GA (ii : Int) (w : World) (b mb pb : Nat) (own : Bool) (va : Value) (wr : World) (s : Bk) (p : Pr) (all : List Nd) : Prop where
  br : BrW (Sp b mb pb) wr b mb s
  box : Bx wr pb (prL p)
  kp : Kp w wr
  own1 : own = true → s.own = some (p, all) ∧ Nds w va all
  own0 : own = false → s.own = none
  si : s.i = ii
theorem request_own {s : Bk} {p : Pr} {m l : List Nd} : (request s p m l).2.2 = 0 → (request s p m l).1.own = some (p, l) := by
  unfold request
  split
  · intro h; cases h
  · split
    · intro h; cases h
    · intro _; rfl
theorem request_err {s : Bk} {p : Pr} {m l : List Nd} : (request s p m l).2.2 ≠ 0 → (request s p m l).1.own = s.own := by
  unfold request
  split
  · intro _; rfl
  · split
    · intro _; rfl
    · intro h; exact absurd rfl h
theorem rest_own {s : Bk} : ((rest s).2.2 = true → (rest s).1.own = none) ∧ ((rest s).2.2 = false → (rest s).1.own = s.own) := by
  unfold rest
  split
  · exact ⟨fun h => (by cases h), fun _ => rfl⟩
  · exact ⟨fun _ => rfl, fun h => (by cases h)⟩
theorem hear_own {s : Bk} {k : Int} {a : Ak} : (hear s k a).1.own = s.own := by
  unfold hear
  split
  · rfl
  · split
    · rfl
    · split <;> rfl
set_option maxRecDepth 8000 in
set_option maxHeartbeats 16000000 in
theorem gives_walk (nn ii : Int) (l : List Ac) (has : List Nd) (vl vh : Value) (w : World) (hL : Acs w vl l) (hH : Nds w vh has) :
    Calls Try.prog 7 #[.int .i64 nn, .int .i64 ii, vl, vh] w fun e w' => e = .returned (.bool true) ∧ Kp w w' := by
  obtain ⟨A, c, rfl, hc, hm⟩ := hL.form
  obtain ⟨Ah, ch, rfl, hch, hmh⟩ := hH.form
  go_enter Try.func7, Try.ntmps7
  go_wp2_with fail
  refine (awake41_any w).mono ?_
  rintro e w1 ⟨rfl, kw⟩
  go_wp2_with fail
  refine (rFew41_any l (.slice A l.length c) w1 (hL.keep rdAc_stable kw)).mono ?_
  rintro e w2 ⟨rfl, k2⟩
  replace kw := kw.trans k2
  cases hfew : fewL l with
  | false =>
    go_wp2
    go_ret
    exact ⟨rfl, kw⟩
  | true =>
    by_cases q1 : 12 < has.length
    · have f1 : decide ((12 : Int) < (has.length : Int)) = true := decide_eq_true (by omega)
      go_wp2
      go_ret
      exact ⟨rfl, kw⟩
    have f1 : decide ((12 : Int) < (has.length : Int)) = false := decide_eq_false (by omega)
    go_wp2_with fail
    refine (rValid_any (.slice Ah has.length ch) has w2 (hH.keep (pl_stable _) kw)).mono ?_
    rintro e w3 ⟨rfl, k3⟩
    replace kw := kw.trans k3
    cases hval : validL has with
    | false =>
      go_wp2
      go_ret
      exact ⟨rfl, kw⟩
    | true =>
      go_wp2_with fail
      refine (bNew_any nn ii w3).mono ?_
      rintro e w4 ⟨h4, k4⟩
      have kw3 := kw
      replace kw := kw.trans k4
      rcases h4 with ⟨-, rfl⟩ | ⟨-, b, mb, rfl, hbw, hmw, hbr⟩
      · go_wp2_with fail
        go_ret
        exact ⟨rfl, kw⟩
      have hall : l.length ≤ 40 := by
        unfold fewL at hfew
        simp only [Bool.and_eq_true, decide_eq_true_eq] at hfew
        exact hfew.2
      have HFEW := hid hfew
      have HVAL := hid hval
      have hhas : has.length ≤ 12 := by omega
      clear hfew hval f1 q1
      go_upto_region 10 with (fail)
      have k5 := ((Kp.refl w4).alloc (.cells #[] 41)).alloc (.cells #[.int .i64 0, .int .i64 0, .int .i64 0, .int .i64 0] 23)
      have hP5 : Bx ((w4.alloc (.cells #[] 41)).alloc (.cells #[.int .i64 0, .int .i64 0, .int .i64 0, .int .i64 0] 23)) (w4.heap.size + 1) (prL (0, 0, 0, 0)) := by
        have := Bx.new (w4.alloc (.cells #[] 41)) #[.int .i64 0, .int .i64 0, .int .i64 0, .int .i64 0] 23
        rw [World.size_alloc] at this
        exact this
      have hs5 : w4.heap.size + 2 ≤ ((w4.alloc (.cells #[] 41)).alloc (.cells #[.int .i64 0, .int .i64 0, .int .i64 0, .int .i64 0] 23)).heap.size := by simp
      have hw34 := k4.size
      have hw03 := kw3.size
      have hlt4 : b < w4.heap.size ∧ mb < w4.heap.size := ⟨(hbr (fun k => ¬ B2 b mb k) (fun h => h (.inl rfl)) (fun h => h (.inr rfl))).lt, (hbr (fun k => ¬ B2 b mb k) (fun h => h (.inl rfl)) (fun h => h (.inr rfl))).mlt⟩
      have hb5 := (hbr (Sp b mb (w4.heap.size + 1)) (fun h => h.1 (.inl rfl)) (fun h => h.1 (.inr rfl))).kp k5
      replace kw := kw.trans k5
      clear k5 hbr
      generalize (w4.alloc (.cells #[] 41)).alloc (.cells #[.int .i64 0, .int .i64 0, .int .i64 0, .int .i64 0] 23) = w5 at *
      have hpb : w4.heap.size < w4.heap.size + 1 := by omega
      generalize w4.heap.size + 1 = pb at *
      have hpB : ¬ B2 b mb pb := fun e => by rcases e with e | e <;> omega
      have nS : ∀ q, pb < q → Sp b mb pb q := fun q hq => ⟨fun e => by rcases e with e | e <;> omega, by omega⟩
      have nW : ∀ q, q < w.heap.size → Sp b mb pb q := fun q hq => ⟨fun e => by rcases e with e | e <;> omega, by omega⟩
      have hs5' : pb < w5.heap.size := hP5.lt (by simp [prL])
      have HG0 : Hid (GA ii w b mb pb false (.slice (some ⟨w4.heap.size, 0, none⟩) 0 0) w5 (newB nn ii) (0, 0, 0, 0) []) := hid ⟨hb5, hP5, kw, fun h => (by cases h), fun _ => rfl, rfl⟩
      have hbp : b < pb ∧ mb < pb := by omega
      have hwp : w.heap.size ≤ pb := by omega
      clear hb5 hP5 kw hs5 hw34 hw03 k4 k3 k2 kw3
      go_wp2_with fail
      go_loopw [11, 12, 65] (fun ov va i wr => ∃ (k : Nat) (own : Bool) (s : Bk), k ≤ l.length ∧ i = .int .i64 (k : Int) ∧ ov = .bool own ∧ pb < wr.heap.size ∧ Hid (∃ p all, GA ii w b mb pb own va wr s p all)) (fun _ _ i _ => l.length - (intOf i).toNat)
      case atStart => exact ⟨0, false, _, Nat.zero_le _, rfl, rfl, hs5', hid ⟨_, _, HG0.out⟩⟩
      case round =>
        clear HG0 hs5'
        obtain ⟨k, own, s, hk, rfl, rfl, hsr, HG⟩ := hrel
        obtain ⟨p, all, hG⟩ := HG.out
        clear HG
        obtain ⟨wo, hwo⟩ : ∃ wo, wo = wr := ⟨_, rfl⟩
        subst hwo
        have kw := hG.kp
        have hbr := hG.br
        have HG := hid hG
        clear hG
        by_cases hlt : k < l.length
        · have hkl : (k : Int) < (l.length : Int) := by omega
          obtain ⟨ga, o, cs, rfl, hga, hr0, hx⟩ := hL.acR hlt
          have hr1 := kp_range kw hr0
          obtain ⟨hcs, h1c⟩ := rdAc_one hx
          have H1C := hid h1c
          have HX := hid hx
          obtain ⟨hth, hbx, kb, hlb, hi⟩ := ac_box wo cs hcs
          clear hr0 hx h1c hcs
          generalize l[k] = x at *
          go_upto_region 13 with (first | (refine wpList_load_mid rfl 62 (.tmp 67) rfl ga (o + k * 9) rfl cs _ hr1 Try.underlying62 rfl hi ?_) | (refine wpList_store_mid rfl 62 (.tmp 15) (.tmp 68) rfl wo.heap.size 0 cs.toArray rfl rfl hth hi (all_oneCell_toArray H1C.out) ?_; generalize (wo.alloc (.cells #[.int .i64 0, .int .i64 0, .int .i64 0, .int .i64 0, .int .i64 0, .int .i64 0, .int .i64 0, .slice none 0 0, .slice none 0 0] 62)).setCells wo.heap.size 0 cs = w6 at *))
          clear hth hi hr1 H1C
          have hz6 := kb.size
          obtain ⟨vn, vl', rfl, hn, ha⟩ := HX.out
          clear HX
          obtain ⟨An, cn, rfl, -, -⟩ := hn.form
          obtain ⟨Al, cl, rfl, -, -⟩ := ha.form
          obtain ⟨xk, xf, ⟨num, ⟨p1, p2, p3, p4⟩, ns⟩, al⟩ := x
          dsimp only at *
          have c0 := hbx.cell (j := 0) rfl
          have c1 := hbx.cell (j := 1) rfl
          have c2 := hbx.cell (j := 2) rfl
          have c3 := hbx.cell (j := 3) rfl
          have c4 := hbx.cell (j := 4) rfl
          have c5 := hbx.cell (j := 5) rfl
          have c6 := hbx.cell (j := 6) rfl
          have c7 := hbx.cell (j := 7) rfl
          have c8 := hbx.cell (j := 8) rfl
          have hb6 := hbr.kp kb
          have kw6 := kw.trans kb
          have hP6 := HG.out.box.keep (kb.block (HG.out.box.lt (by simp [prL])))
          have hs6 : pb < w6.heap.size := by omega
          have hSn := fun W hW => nds_sxB (S := Sp b mb pb) (w4 := W) hn hW nW
          have hSa := fun W hW => nds_sxB (S := Sp b mb pb) (w4 := W) ha hW nW
          have H1 := HG.out.own1
          have H0 := HG.out.own0
          have HS := hid HG.out.si
          have hbo : b < wo.heap.size ∧ mb < wo.heap.size := ⟨hbr.lt, hbr.mlt⟩
          clear kb hbr kw HG
          by_cases x0 : xk = 0
          · have g0 : (xk == 0) = true := by simpa using x0
            replace x0 := hid x0
            go_wp2_with fail
            refine (bRequest_any (S := Sp b mb pb) (b := b) (mb := mb) (s := s) (p1, p2, p3, p4) (.slice An ns.length cn) (.slice Al al.length cl) ns al hb6 (fun q hq => nS q (by omega)) (hSn w6 kw6) (hSa w6 kw6)).mono ?_
            have hq1 := request_own (s := s) (p := (p1, p2, p3, p4)) (m := ns) (l := al)
            have hq2 := request_err (s := s) (p := (p1, p2, p3, p4)) (m := ns) (l := al)
            have hqi := request_i (s := s) (p := (p1, p2, p3, p4)) (m := ns) (l := al)
            rw [HS.out] at hqi
            generalize request s (p1, p2, p3, p4) ns al = r at *
            have HI := hid hqi
            clear hqi
            replace hq1 := hid hq1
            replace hq2 := hid hq2
            obtain ⟨s', ak, er⟩ := r
            dsimp only at hq1 hq2 ⊢
            rintro e w7 ⟨v7, he, hn7, hb7, fx7⟩
            obtain ⟨A7, c7', hv7, -, -⟩ := hn7.form
            obtain ⟨c6', hc6⟩ : ∃ c6', askL ak v7 = c6' := ⟨_, rfl⟩
            have hl6 : c6'.length = 6 := by rw [← hc6]; rfl
            have H16 : Hid (∀ u ∈ c6', u.oneCell' = true) := hid (by rw [← hc6, hv7]; simp [askL, Value.oneCell'])
            rw [show askV ak v7 = .agg (askL ak v7).toArray from rfl, hc6] at he
            subst he
            clear hc6 hn7 hv7
            obtain ⟨hth, k78, hi⟩ := ask_box w7 c6' hl6
            have fx68 := fx7.trans (k78.fx _)
            go_upto_region 16 with (refine wpList_store_mid rfl 29 (.tmp 16) (.tmp 84) rfl w7.heap.size 0 c6'.toArray rfl rfl hth hi (all_oneCell_toArray H16.out) ?_; generalize (w7.alloc (.cells #[.int .i64 0, .int .i64 0, .int .i64 0, .int .i64 0, .int .i64 0, .slice none 0 0] 29)).setCells w7.heap.size 0 c6' = w8 at *)
            have hb8 := hb7.kp k78
            have kw8 := ((kw6.fx (B2 b mb)).trans fx68).kp fun q hq => (nW q hq).1
            have hP8 := hP6.keep (fx68.block pb hs6 hpB)
            have hs8 : pb < w8.heap.size := Nat.lt_of_lt_of_le hs6 fx68.size
            have hbx8 := hbx.keep (fx68.block wo.heap.size hlb (fun e => by rcases e with e | e <;> omega))
            clear hth hi H16 hl6 hb7 fx7 k78 fx68 c0 c1 c2 c3 c4 c5 c6 c7 c8
            by_cases hE : er = 0
            · have ge : (er == 0) = true := by simpa using hE
              replace hE := hid hE
              have d3 := hbx8.cell (j := 3) rfl
              have d4 := hbx8.cell (j := 4) rfl
              have d5 := hbx8.cell (j := 5) rfl
              have d6 := hbx8.cell (j := 6) rfl
              have d8 := hbx8.cell (j := 8) rfl
              have hxl := hbx8.lt (by simp)
              go_upto_region 17 with (fail)
              have hxp : ¬ wo.heap.size = pb := by omega
              generalize wo.heap.size = bx at *
              refine wp_region_growC 6 (fun q => q = pb) [] 7 265 [G2.eqv (.pointer (some ⟨bx, 2, none⟩)), G2.eqv (.pointer (some ⟨bx, 3, none⟩)), G2.eqv (.agg #[.int .i64 p1, .int .i64 p2, .int .i64 p3, .int .i64 p4]), G2.eqv (.pointer (some ⟨bx, 8, none⟩)), G2.eqv (.slice Al al.length cl), G2.eqv (.bool true), (fun _ W => Bx W pb (prL (p1, p2, p3, p4)))] (by kernel_rfl) (by kernel_rfl) rfl (by omega) (fun _ _ _ _ _ h => h) (stabC_cons (stabG_eq _) (stabC_cons (stabG_eq _) (stabC_cons (stabG_eq _) (stabC_cons (stabG_eq _) (stabC_cons (stabG_eq _) (stabC_cons (stabG_eq _) (stabC_here (stabG_nil)))))))) (fun v W1 W2 h k => h.keep (k.block (h.lt (by simp [prL])))) ?_ ?_ ?_
              · intro i0 hi0
                have hi' : i0 = 0 ∨ i0 = 1 ∨ i0 = 2 ∨ i0 = 3 ∨ i0 = 4 ∨ i0 = 5 ∨ i0 = 6 := by omega
                rcases hi' with rfl | rfl | rfl | rfl | rfl | rfl | rfl
                · intro a w' hk hF hD K hK
                  have hk : Fx (fun q => q = pb) _ w' := hk
                  simp only [List.getElem?_toArray, List.getElem?_cons_zero, List.getElem?_cons_succ, Option.map_some, Option.getD_some]
                  have h15 : a.tmps[15]?.getD undef = .pointer (some ⟨bx, 0, none⟩) := hF 15 (by kernel_rfl)
                  clear hF hD
                  go_simp
                  exact hK.out _ _ (Kp.refl _) rfl
                · intro a w' hk hF hD K hK
                  have hk : Fx (fun q => q = pb) _ w' := hk
                  simp only [List.getElem?_toArray, List.getElem?_cons_zero, List.getElem?_cons_succ, Option.map_some, Option.getD_some]
                  have h88 : a.tmps[88]?.getD undef = .pointer (some ⟨bx, 2, none⟩) := hD 0 (by kernel_rfl)
                  clear hF hD
                  go_simp
                  exact hK.out _ _ (Kp.refl _) rfl
                · intro a w' hk hF hD K hK
                  have hk : Fx (fun q => q = pb) _ w' := hk
                  simp only [List.getElem?_toArray, List.getElem?_cons_zero, List.getElem?_cons_succ, Option.map_some, Option.getD_some]
                  have h89 : a.tmps[89]?.getD undef = .pointer (some ⟨bx, 3, none⟩) := hD 1 (by kernel_rfl)
                  clear hF hD
                  have z3 := hk.cellS d3 hxp
                  have z4 := hk.cellS d4 hxp
                  have z5 := hk.cellS d5 hxp
                  have z6 := hk.cellS d6 hxp
                  go_simp
                  exact hK.out _ _ (Kp.refl _) rfl
                · intro a w' hk hF hD K hK
                  have hk : Fx (fun q => q = pb) _ w' := hk
                  simp only [List.getElem?_toArray, List.getElem?_cons_zero, List.getElem?_cons_succ, Option.map_some, Option.getD_some]
                  have h15 : a.tmps[15]?.getD undef = .pointer (some ⟨bx, 0, none⟩) := hF 15 (by kernel_rfl)
                  clear hF hD
                  go_simp
                  exact hK.out _ _ (Kp.refl _) rfl
                · intro a w' hk hF hD K hK
                  have hk : Fx (fun q => q = pb) _ w' := hk
                  simp only [List.getElem?_toArray, List.getElem?_cons_zero, List.getElem?_cons_succ, Option.map_some, Option.getD_some]
                  have h91 : a.tmps[91]?.getD undef = .pointer (some ⟨bx, 8, none⟩) := hD 3 (by kernel_rfl)
                  clear hF hD
                  have z0 := hk.cellS d8 hxp
                  go_simp
                  exact hK.out _ _ (Kp.refl _) rfl
                · intro a w' hk hF hD K hK
                  have hk : Fx (fun q => q = pb) _ w' := hk
                  simp only [List.getElem?_toArray, List.getElem?_cons_zero, List.getElem?_cons_succ, Option.map_some, Option.getD_some]
                  clear hF hD
                  go_simp
                  exact hK.out _ _ (Kp.refl _) rfl
                · intro a w' hk hF hD K hK
                  have hk : Kp _ w' := hk
                  simp only [List.getElem?_toArray, List.getElem?_cons_zero, List.getElem?_cons_succ, Option.map_some, Option.getD_some]
                  have h13 : a.tmps[13]?.getD undef = .pointer (some ⟨pb, 0, none⟩) := hF 13 (by kernel_rfl)
                  have h90 : a.tmps[90]?.getD undef = .agg #[.int .i64 p1, .int .i64 p2, .int .i64 p3, .int .i64 p4] := hD 2 (by kernel_rfl)
                  clear hF hD
                  rw [if_pos (by simp [Region.wanted])]
                  have hPw := hP8.keep (hk.block hs8)
                  refine wp_store_mid 23 (.tmp 13) (.tmp 90) rfl pb 0 #[.int .i64 p1, .int .i64 p2, .int .i64 p3, .int .i64 p4] ((eval_tmp _ _).trans h13) ((eval_tmp _ _).trans h90) hPw.there (by kernel_rfl) (all_oneCell_toArray (by simp [Value.oneCell'])) ?_
                  exact hK.out undef _ ((Kg.setCells (g := pb) (.inl rfl) (prL (p1, p2, p3, p4)) 0 (Kg.refl w' pb)).fx (.inl rfl)) (hPw.all (cs := prL (p1, p2, p3, p4)) rfl)
              · exact fun i0 hi0 => by simp at hi0
              intro v w9 k9 hv
              have v4 : v 4 = .slice Al al.length cl := hv 4 (by omega)
              have v5 : v 5 = .bool true := hv 5 (by omega)
              have v6 : (fun _ W => Bx W pb (prL (p1, p2, p3, p4))) (v 6) w9 := hv 6 (by omega)
              clear hv
              simp only [G2.growPut, G2.gSlot, List.getElem?_toArray, List.getElem?_cons_zero, List.getElem?_cons_succ, Option.bind_some, List.setIfInBounds_toArray, List.set_cons_zero, List.set_cons_succ, List.drop_succ_cons, List.drop_zero, v4, v5]
              have hb10 := hb8.fx k9 (fun q hq => hq.2) (by omega) (by omega)
              have kw10 := ((kw8.fx (fun q => q = pb)).trans k9).kp fun q hq e => by omega
              have hs10 : pb < w9.heap.size := by have := k9.size; omega
              have HGn : Hid (GA ii w b mb pb true (.slice Al al.length cl) w9 s' (p1, p2, p3, p4) al) := hid ⟨hb10, v6, kw10, fun _ => ⟨hq1.out hE.out, ha⟩, fun h => (by cases h), HI.out⟩
              clear hb10 kw10 hP8 hb8 kw8 d3 d4 d5 d6 d8 H1 H0 hs8
              have hs8 := hs10
              go_wp2_with fail
              go_roundw
              case rel => exact ⟨k + 1, _, _, by omega, by go_num, rfl, hs8, hid ⟨_, _, HGn.out⟩⟩
              case measure => simp [intOf]; omega
            · have ge : (er == 0) = false := by simpa using hE
              replace hE := hid hE
              have HGn : Hid (GA ii w b mb pb own _ w8 s' p all) := hid ⟨hb8, hP8, kw8, fun h => ⟨by rw [hq2.out hE.out]; exact (H1 h).1, (H1 h).2⟩, fun h => by rw [hq2.out hE.out]; exact H0 h, HI.out⟩
              clear H1 H0
              go_wp2_with fail
              go_roundw
              case rel => exact ⟨k + 1, _, _, by omega, by go_num, rfl, hs8, hid ⟨_, _, HGn.out⟩⟩
              case measure => simp [intOf]; omega
          · have g0 : (xk == 0) = false := by simpa using x0
            replace x0 := hid x0
            by_cases x1 : xk = 1
            · have g1 : (xk == 1) = true := by simpa using x1
              replace x1 := hid x1
              go_wp2_with fail
              refine (bRest_any hb6).mono ?_
              have hq1 := rest_own (s := s)
              have hqi := rest_i (s := s)
              rw [HS.out] at hqi
              generalize rest s = r at *
              have HI := hid hqi
              clear hqi
              replace hq1 := hid hq1
              obtain ⟨s', ak, er⟩ := r
              dsimp only at hq1 ⊢
              rintro e w7 ⟨he, hb7, fx7⟩
              obtain ⟨v7, hv7⟩ : ∃ v7, v7 = Value.slice none 0 0 := ⟨_, rfl⟩
              rw [← hv7] at he
              have hn7 : ∃ A c n, v7 = Value.slice A n c := ⟨_, _, _, hv7⟩
              clear hv7
              obtain ⟨A7, c7', n7', hv7⟩ := hn7
              obtain ⟨c6', hc6⟩ : ∃ c6', askL ak v7 = c6' := ⟨_, rfl⟩
              have hl6 : c6'.length = 6 := by rw [← hc6]; rfl
              have H16 : Hid (∀ u ∈ c6', u.oneCell' = true) := hid (by rw [← hc6, hv7]; simp [askL, Value.oneCell'])
              rw [show askV ak v7 = .agg (askL ak v7).toArray from rfl, hc6] at he
              subst he
              clear hc6 hv7
              obtain ⟨hth, k78, hi⟩ := ask_box w7 c6' hl6
              have fx68 := fx7.trans (k78.fx _)
              go_upto_region 20 with (refine wpList_store_mid rfl 29 (.tmp 18) (.tmp 98) rfl w7.heap.size 0 c6'.toArray rfl rfl hth hi (all_oneCell_toArray H16.out) ?_; generalize (w7.alloc (.cells #[.int .i64 0, .int .i64 0, .int .i64 0, .int .i64 0, .int .i64 0, .slice none 0 0] 29)).setCells w7.heap.size 0 c6' = w8 at *)
              have hb8 := hb7.kp k78
              have kw8 := ((kw6.fx (B2 b mb)).trans fx68).kp fun q hq => (nW q hq).1
              have hP8 := hP6.keep (fx68.block pb hs6 hpB)
              have hs8 : pb < w8.heap.size := Nat.lt_of_lt_of_le hs6 fx68.size
              have hbx8 := hbx.keep (fx68.block wo.heap.size hlb (fun e => by rcases e with e | e <;> omega))
              clear hth hi H16 hl6 hb7 fx7 k78 fx68 c0 c1 c2 c3 c4 c5 c6 c7 c8
              cases er with
              | true =>
                have HGn : Hid (GA ii w b mb pb false (.slice none 0 0) w8 s' p all) := hid ⟨hb8, hP8, kw8, fun h => (by cases h), fun _ => hq1.out.1 rfl, HI.out⟩
                clear H1 H0
                go_wp2_with fail
                go_roundw
                case rel => exact ⟨k + 1, _, _, by omega, by go_num, rfl, hs8, hid ⟨_, _, HGn.out⟩⟩
                case measure => simp [intOf]; omega
              | false =>
                have HGn : Hid (GA ii w b mb pb own _ w8 s' p all) := hid ⟨hb8, hP8, kw8, fun h => ⟨by rw [hq1.out.2 rfl]; exact (H1 h).1, (H1 h).2⟩, fun h => by rw [hq1.out.2 rfl]; exact H0 h, HI.out⟩
                clear H1 H0
                go_wp2_with fail
                go_roundw
                case rel => exact ⟨k + 1, _, _, by omega, by go_num, rfl, hs8, hid ⟨_, _, HGn.out⟩⟩
                case measure => simp [intOf]; omega
            · have g1 : (xk == 1) = false := by simpa using x1
              replace x1 := hid x1
              by_cases x2 : xk = 2
              · have g2 : (xk == 2) = true := by simpa using x2
                replace x2 := hid x2
                go_wp2_with fail
                refine (bHear_any (S := Sp b mb pb) (b := b) (mb := mb) (s := s) xf ⟨num, (p1, p2, p3, p4), ns⟩ (.slice An ns.length cn) hb6 (fun q hq => nS q (by omega)) (hSn w6 kw6)).mono ?_
                have hq1 := hear_own (s := s) (k := xf) (a := ⟨num, (p1, p2, p3, p4), ns⟩)
                have hqi := hear_i (s := s) (k := xf) (a := ⟨num, (p1, p2, p3, p4), ns⟩)
                rw [HS.out] at hqi
                generalize hear s xf ⟨num, (p1, p2, p3, p4), ns⟩ = r at *
                have HI := hid hqi
                clear hqi
                replace hq1 := hid hq1
                obtain ⟨s', er⟩ := r
                dsimp only at hq1 ⊢
                rintro e w8 ⟨rfl, hb8, fx8⟩
                have kw8 := ((kw6.fx (B2 b mb)).trans fx8).kp fun q hq => (nW q hq).1
                have hP8 := hP6.keep (fx8.block pb hs6 hpB)
                have hs8 : pb < w8.heap.size := Nat.lt_of_lt_of_le hs6 fx8.size
                have HGn : Hid (GA ii w b mb pb own _ w8 s' p all) := hid ⟨hb8, hP8, kw8, fun h => ⟨by rw [hq1.out]; exact (H1 h).1, (H1 h).2⟩, fun h => by rw [hq1.out]; exact H0 h, HI.out⟩
                clear H1 H0 fx8 hb8 kw8 hP8
                go_wp2_with fail
                go_roundw
                case rel => exact ⟨k + 1, _, _, by omega, by go_num, rfl, hs8, hid ⟨_, _, HGn.out⟩⟩
                case measure => simp [intOf]; omega
              · have g2 : (xk == 2) = false := by simpa using x2
                replace x2 := hid x2
                have hs8 := hs6
                have HGn : Hid (GA ii w b mb pb own _ w6 s p all) := hid ⟨hb6, hP6, kw6, H1, H0, HS.out⟩
                clear H1 H0 hb6 kw6 hP6
                go_wp2_with fail
                go_roundw
                case rel => exact ⟨k + 1, _, _, by omega, by go_num, rfl, hs8, hid ⟨_, _, HGn.out⟩⟩
                case measure => simp [intOf]; omega
        · have hkl : ¬ (k : Int) < (l.length : Int) := by omega
          have H1 := hid HG.out.own1
          have H0 := hid HG.out.own0
          have HS := hid HG.out.si
          have hP := HG.out.box
          have hok := hid hbr.ok
          obtain ⟨p1, p2, p3, p4⟩ := p
          clear HG
          go_wp2_with fail
          refine (bRequests_any hbr).mono ?_
          rintro e w6 ⟨va6, la, rfl, har, hla, k6⟩
          obtain ⟨Aa, ca, rfl, hac, ham⟩ := har.own.form
          replace hla := hid hla
          have kw6 := kw.trans k6
          have hz6 := k6.size
          go_wp2_with fail
          refine (bGrants_any (S := Sp b mb pb) (b := b) (mb := mb) (s := s) has (.slice Ah has.length ch) (hbr.kp k6) (fun q hq => nS q (by omega)) (nds_sxB hH kw6 nW)).mono ?_
          rintro e w7 ⟨gv, rfl, gown, hb7, fx7⟩
          have HGD := hid (grants_good hok.out HVAL.out)
          have HTW := hid (fun rest hr => grants_twice (rest := rest) hok.out HVAL.out hb7.ok hr)
          have HFI := hid (fun a l hl hk => grants_first (a := a) (l := l) hok.out HVAL.out hl hk)
          generalize (grants s has).1 = s1 at *
          generalize (grants s has).2 = gs at *
          obtain ⟨Ag, cg, rfl, hgc, hgm⟩ := gown.form
          have kw7 := ((kw6.fx (B2 b mb)).trans fx7).kp fun q hq => (nW q hq).1
          have hP7 := (hP.keep (k6.block hsr)).keep (fx7.block pb (by omega) hpB)
          have hs7 : pb < w7.heap.size := by have := fx7.size; omega
          have HAR : Hid (AR wo.heap.size w7 (.slice Aa la.length ca) la) := hid ⟨har.own.owS w7 fx7.size fun q hq hlt => fx7.block q hlt (fun e => by have := har.own.ge q hq; have := hbr.lt; have := hbr.mlt; rcases e with e | e <;> omega), fun x hx => (har.nds x hx).owS w7 fx7.size fun q hq hlt => fx7.block q hlt (fun e => by have := (har.nds x hx).ge q hq; have := hbr.lt; have := hbr.mlt; rcases e with e | e <;> omega), har.apart, har.row⟩
          clear fx7 k6 hbr kw kw6 hP har
          go_wp2_with fail
          refine (CloneNd_any (.slice Ah has.length ch) has w7 (hH.keep (pl_stable _) kw7) (by omega)).mono ?_
          rintro e w8 ⟨vr, rfl, own8, k8⟩
          obtain ⟨Ar, cr, rfl, hrc, hrm⟩ := own8.form
          have HGR := hid (GR.start HVAL.out HGD.out)
          have HPOS := hid (goodG_pos HGD.out)
          have HKP : Hid (∀ y p, 0 ≤ keeps s.own y p) := hid fun y p => (keeps_bound hok.out y p).1
          have HO8 := hid own8
          clear own8 HGD
          go_wp2_with fail
          go_loopw [119] (fun i wr => ∃ (k : Nat) (rest : List Nd), k ≤ gs.length ∧ i = .int .i64 (k : Int) ∧ Kp w7 wr ∧ Hid (Own encNd 41 4 w7.heap.size wr (.slice Ar has.length cr) rest) ∧ Hid (GR (has, gs) (has, gs) s.own s.i (reqL s) k rest)) (fun i _ => gs.length - (intOf i).toNat)
          case atStart => exact ⟨0, has, Nat.zero_le _, rfl, k8, HO8, HGR⟩
          case round =>
            clear HGR HO8 k8
            obtain ⟨k', rest, hk', rfl, kr, HO, HR⟩ := hrel
            obtain ⟨wi, hwi⟩ : ∃ wi, wi = wr := ⟨_, rfl⟩
            subst hwi
            have hlr : rest.length = has.length := by have := congrArg List.length HR.out.rts; simpa using this
            have HLR := hid hlr
            clear hlr
            by_cases hlt' : k' < gs.length
            · have hkl' : (k' : Int) < (gs.length : Int) := by omega
              obtain ⟨bg, og, rfl, hbg, i0, i1, i2, i3, i4⟩ := ((gown.sl encGr_len).keep (pl_stable _) kr).gr hlt'
              have HGK := hid (fun tg y m hg => HR.out.at_ (tg := tg) (y := y) (m := m) HVAL.out hlt' hg (HKP.out _))
              obtain ⟨⟨tg, ⟨y1, y2, y3⟩, m⟩, hgk⟩ : ∃ g, gs[k'] = g := ⟨_, rfl⟩
              rw [hgk] at i0 i1 i2 i3 i4
              dsimp only at i0 i1 i2 i3 i4
              obtain ⟨⟨a, ham0, hat, hai, hm1, hmn, hkp⟩, hset⟩ := HGK.out tg (y1, y2, y3) m hgk
              have hrest : amt rest (y1, y2, y3) ≠ 0 := by have := HKP.out (y1, y2, y3) a.pri; omega
              have hnd := HR.out.nodup HVAL.out
              obtain ⟨q, hq, hqi, hqr⟩ := idx_nd hnd hrest
              obtain ⟨j, hj, hji, hja⟩ := idx_ask hok.out hla.out ham0 hat
              have hfb := HR.out.bnd rest[q] (List.getElem_mem hq)
              rw [hqr] at hfb
              dsimp only at hfb
              have hkp0 := HKP.out (y1, y2, y3) a.pri
              rw [HS.out] at hai
              replace hset := hid (hset q (by rw [List.getElem?_eq_getElem hq, hqr]))
              have HJI := hid hji
              have HQI := hid hqi
              have HJA := hid hja
              have HQR := hid hqr
              have HA0 := hid ham0
              have HNF := hid ((heard_facts hok.out ((mem_reqL hok.out a).1 ham0).2).1)
              clear hgk HGK hnd hqi hji hja hqr ham0 hat
              generalize hff : amt rest (y1, y2, y3) = f at *
              have HFF := hid hff
              clear hff
              generalize hkpe : keeps s.own (y1, y2, y3) a.pri = kp at *
              have HKE := hid hkpe
              clear hkpe
              have hT := Bx.new wi #[.int .i64 tg, .int .i64 y1, .int .i64 y2, .int .i64 y3, .int .i64 m] 46
              have kb := (Kp.refl wi).alloc (.cells #[.int .i64 tg, .int .i64 y1, .int .i64 y2, .int .i64 y3, .int .i64 m] 46)
              go_upto_region 31 with (fail)
              generalize wi.alloc (.cells #[.int .i64 tg, .int .i64 y1, .int .i64 y2, .int .i64 y3, .int .i64 m] 46) = wa at *
              have htl := hT.lt (by simp)
              have hti : w7.heap.size ≤ wi.heap.size := kr.size
              clear i0 i1 i2 i3 i4
              generalize htb : wi.heap.size = tb at *
              have HTB := hid htb
              clear htb
              have kra := kr.trans kb
              go_wp2_with fail
              refine (IndexFuncAsk_any (fun x => x.a.pri.2.2.1 == tg) 32 [.pointer (some ⟨tb, 0, none⟩)] (.slice Aa la.length ca) la wa ((HAR.out.own.sl encAV_len).keep (pl_stable _) kra) ⟨_, Try.func32, by kernel_rfl, by kernel_rfl⟩ (fun w' num p1 p2 p3 p4 ns xA xn xc hk => lGives1_any num p1 p2 p3 p4 _ tb tg w' ((hT.keep (hk.block htl)).cell (j := 0) rfl))).mono ?_
              rintro e wb ⟨rfl, kab⟩
              rw [HJI.out]
              have krb := kra.trans kab
              have hTb := hT.keep (kab.block htl)
              have htlb := hTb.lt (by simp)
              go_wp2_with fail
              refine (IndexFuncNd_any (fun z => decide (z.1 = (y1, y2, y3))) 34 [.pointer (some ⟨tb, 0, none⟩)] (.slice Ar has.length cr) rest wb ((Own.kp HO.out (kb.trans kab)).sl encNd_len) ⟨_, Try.func34, by kernel_rfl, by kernel_rfl⟩ (fun w' x1 x2 x3 x4 hk => lGives2_any x1 x2 x3 x4 tb y1 y2 y3 w' ((hTb.keep (hk.block htlb)).cell (j := 1) rfl) ((hTb.keep (hk.block htlb)).cell (j := 2) rfl) ((hTb.keep (hk.block htlb)).cell (j := 3) rfl))).mono ?_
              rintro e wc ⟨rfl, kbc⟩
              rw [HQI.out]
              have krc := krb.trans kbc
              have hTc := hTb.keep (kbc.block htlb)
              go_upto_region 33 with (fail)
              have hown := Own.kp HO.out ((kb.trans kab).trans kbc)
              have hvn := HAR.out.nds la[j] (List.getElem_mem hj)
              obtain ⟨ba, oa, rfl, hba, e0, e1, e2, e3, e4, e5⟩ := ((HAR.out.own.sl encAV_len).keep (pl_stable _) krc).av hj
              obtain ⟨⟨xa, xA, xn, xc⟩, hxj⟩ : ∃ x, la[j] = x := ⟨_, rfl⟩
              have hja := HJA.out
              rw [hxj] at hvn e0 e1 e2 e3 e4 e5 hja
              dsimp only [AV.v] at hvn e0 e1 e2 e3 e4 e5 hja
              subst hja
              obtain ⟨anum, ⟨a1, a2, a3, a4⟩, ans⟩ := xa
              dsimp only at *
              have hns := (validL_iff ans).1 HNF.out
              have hof := ofN_amt (y1, y2, y3) ans hns.2.1
              have HOF : Hid (∀ u, Calls Try.prog 35 #[.slice xA xn xc, rtV (y1, y2, y3)] (Kw wc u) fun e w' => e = .returned (.int .i64 (ofN ans (y1, y2, y3))) ∧ Kp (Kw wc u) w') :=
                hid fun u => lOf_any (y1, y2, y3) ans _ (Kw wc u) ((hvn.sl encNd_len).keep (pl_stable _) (krc.trans (kw_kp wc u))) (fun z hz => by have := okNd_amt (hns.1 z hz); omega) hns.2.2
              rw [hof] at HOF
              replace hxj := hid hxj
              clear hvn hns hof
              have t0 := hTc.cell (j := 0) rfl
              have t1 := hTc.cell (j := 1) rfl
              have t2 := hTc.cell (j := 2) rfl
              have t3 := hTc.cell (j := 3) rfl
              have t4 := hTc.cell (j := 4) rfl
              have htlc := hTc.lt (by simp)
              generalize amt ans (y1, y2, y3) = am at *
              have u1 : decide ((j : Int) < 0) = false := decide_eq_false (by omega)
              have u2 : decide ((q : Int) < 0) = false := decide_eq_false (by omega)
              have u3 : decide (m < 1) = false := decide_eq_false (by omega)
              have u4 : (tg == ii) = false := by simpa using hai
              have u5 : decide (am < m) = false := decide_eq_false (by omega)
              have hjl : (j : Int) < (la.length : Int) := by omega
              refine wp_region_kw (by kernel_rfl) (by kernel_rfl) ?_
              repeat (go_big_quiet_step ((go_at_call 35; exact quiet_kw (HOF.out _))))
              refine wpQuiet_nil ?_
              intro _ hw'
              obtain ⟨u, hw''⟩ := hw'
              subst hw''
              have kcd := kw_kp wc u
              generalize Kw wc u = wd at *
              have krd := krc.trans kcd
              have hTd := hTc.keep (kcd.block htlc)
              have hPd := hP7.keep (krd.block hs7)
              have hownd := hown.kp kcd
              replace e0 := kcd.cellS e0
              replace e1 := kcd.cellS e1
              replace e2 := kcd.cellS e2
              replace e3 := kcd.cellS e3
              replace e4 := kcd.cellS e4
              clear t0 t1 t2 t3 t4 e5 hTc hown HOF kcd kbc kab hTb htlb
              obtain ⟨gr, rfl, hgr1, hgr2⟩ := hownd.at_ (by omega)
              have t0 := hTd.cell (j := 0) rfl
              have t1 := hTd.cell (j := 1) rfl
              have t2 := hTd.cell (j := 2) rfl
              have t3 := hTd.cell (j := 3) rfl
              have t4 := hTd.cell (j := 4) rfl
              have c0 := hPd.cell (j := 0) rfl
              have c1 := hPd.cell (j := 1) rfl
              have c2 := hPd.cell (j := 2) rfl
              have c3 := hPd.cell (j := 3) rfl
              have htld := hTd.lt (by simp)
              have hpld := hPd.lt (by simp [prL])
              have hbad : ba < wd.heap.size := block_lt_of_cell e0
              dsimp only at c0 c1 c2 c3
              cases own with
              | false =>
                go_upto_region 36 with (fail)
                refine wp_region_kw (by kernel_rfl) (by kernel_rfl) ?_
                repeat (go_big_quiet_step ((fail)))
                refine wpQuiet_nil ?_
                intro _ hw'
                obtain ⟨u2, hw''⟩ := hw'
                subst hw''
                have kx := kw_kp wd u2
                generalize Kw wd u2 = we at *
                have kre := krd.trans kx
                have howne := hownd.kp kx
                have hTe := hTd.keep (kx.block htld)
                have hgre : gr < we.heap.size := by have := kx.size; omega
                clear e0 e1 e2 e3 e4 t0 t1 t2 t3 t4 c0 c1 c2 c3
                have t4 := hTe.cell (j := 4) rfl
                have htle := hTe.lt (by simp)
                obtain ⟨m0, m1, m2, m3⟩ := own_nd howne HLR.out.symm (k := q) hq HQR.out
                have hql : (q : Int) < (has.length : Int) := by have := HLR.out; omega
                have hge : decide (f - m < 0) = false := decide_eq_false (by omega)
                have HZ := hid (And.intro (IntWalk.i64_in (f - m) (by omega)) (IntWalk.wrap64_in (f - m) (by omega)))
                have z1 := HZ.out.1
                have z2 := HZ.out.2
                go_upto_region 38 with (fail)
                refine wp_region_kw_tail 9 (by kernel_rfl) (by kernel_rfl) ?_
                simp only [List.take_succ_cons, List.take_zero, List.drop_succ_cons, List.drop_zero]
                repeat (go_big_quiet_step ((fail)))
                refine wpQuiet_nil ?_
                intro _ hw'
                obtain ⟨u3, hw''⟩ := hw'
                subst hw''
                clear z1 z2
                have kf := kw_kp we u3
                generalize Kw we u3 = wf at *
                have hownf := howne.kp kf
                clear m0 m1 m2 m3 t4
                obtain ⟨m0, m1, m2, m3⟩ := own_nd hownf HLR.out.symm (k := q) hq HQR.out
                have ff := hownf.frozen HLR.out.symm (q * 4 + 3)
                have hlr4 : rest.length = has.length := HLR.out
                have HOn : Hid (Own encNd 41 4 w7.heap.size (wf.setCell ⟨gr, q * 4 + 3, none⟩ (.int .i64 (f - m))) (.slice (some ⟨gr, 0, none⟩) has.length cr) (rest.set q ((y1, y2, y3), f - m))) := hid (by
                  have h1 := hownf
                  rw [← hlr4] at h1
                  have h2 := Own.set (k := q) (j := 3) (u := .int .i64 (f - m)) (x := ((y1, y2, y3), f - m)) encNd_len h1 hq (by omega) (fun hk => by rw [HQR.out]; rfl)
                  rw [hlr4] at h2
                  exact h2)
                have KN : Kp w7 (wf.setCell ⟨gr, q * 4 + 3, none⟩ (.int .i64 (f - m))) := Kg.to_kp (kre.trans kf) ((Kg.refl wf gr).set (p := ⟨gr, q * 4 + 3, none⟩) (.inl rfl) (.int .i64 (f - m))) hgr1
                have hgrf : gr < wf.heap.size := by have := kf.size; omega
                clear hlr4
                go_wp2_with fail
                go_roundw
                case rel => exact ⟨k' + 1, _, by omega, by go_num, KN, HOn, hset⟩
                case measure => simp [intOf]; omega
              | true =>
                obtain ⟨hown1, hnall⟩ := H1.out rfl
                have HLS : Hid (∀ u, Calls Try.prog 9 #[prV (p1, p2, p3, p4), prV (a1, a2, a3, a4)] (Kw wd u) fun e w' => e = .returned (.bool (lessB (p1, p2, p3, p4) (a1, a2, a3, a4))) ∧ Kp (Kw wd u) w') :=
                  hid fun u => (bLess_at (p1, p2, p3, p4) (a1, a2, a3, a4) (Kw wd u)).mono fun e w' ⟨h1, h2⟩ => ⟨h1, h2.kp⟩
                have hkk : keeps s.own (y1, y2, y3) (a1, a2, a3, a4) = if lessB (p1, p2, p3, p4) (a1, a2, a3, a4) then amt all (y1, y2, y3) else 0 := by rw [hown1]; rfl
                have hke := HKE.out
                rw [hkk] at hke
                replace hown1 := hid hown1
                cases hls : lessB (p1, p2, p3, p4) (a1, a2, a3, a4) with
                | false =>
                  rw [hls] at HLS
                  go_upto_region 36 with (fail)
                  refine wp_region_kw (by kernel_rfl) (by kernel_rfl) ?_
                  repeat (go_big_quiet_step ((go_at_call 9; exact quiet_kw (HLS.out _))))
                  refine wpQuiet_nil ?_
                  intro _ hw'
                  obtain ⟨u2, hw''⟩ := hw'
                  subst hw''
                  clear hke hkk
                  have kx := kw_kp wd u2
                  generalize Kw wd u2 = we at *
                  have kre := krd.trans kx
                  have howne := hownd.kp kx
                  have hTe := hTd.keep (kx.block htld)
                  have hgre : gr < we.heap.size := by have := kx.size; omega
                  clear e0 e1 e2 e3 e4 t0 t1 t2 t3 t4 c0 c1 c2 c3
                  have t4 := hTe.cell (j := 4) rfl
                  have htle := hTe.lt (by simp)
                  obtain ⟨m0, m1, m2, m3⟩ := own_nd howne HLR.out.symm (k := q) hq HQR.out
                  have hql : (q : Int) < (has.length : Int) := by have := HLR.out; omega
                  have hge : decide (f - m < 0) = false := decide_eq_false (by omega)
                  have HZ := hid (And.intro (IntWalk.i64_in (f - m) (by omega)) (IntWalk.wrap64_in (f - m) (by omega)))
                  have z1 := HZ.out.1
                  have z2 := HZ.out.2
                  go_upto_region 38 with (fail)
                  refine wp_region_kw_tail 9 (by kernel_rfl) (by kernel_rfl) ?_
                  simp only [List.take_succ_cons, List.take_zero, List.drop_succ_cons, List.drop_zero]
                  repeat (go_big_quiet_step ((fail)))
                  refine wpQuiet_nil ?_
                  intro _ hw'
                  obtain ⟨u3, hw''⟩ := hw'
                  subst hw''
                  clear z1 z2
                  have kf := kw_kp we u3
                  generalize Kw we u3 = wf at *
                  have hownf := howne.kp kf
                  clear m0 m1 m2 m3 t4
                  obtain ⟨m0, m1, m2, m3⟩ := own_nd hownf HLR.out.symm (k := q) hq HQR.out
                  have ff := hownf.frozen HLR.out.symm (q * 4 + 3)
                  have hlr4 : rest.length = has.length := HLR.out
                  have HOn : Hid (Own encNd 41 4 w7.heap.size (wf.setCell ⟨gr, q * 4 + 3, none⟩ (.int .i64 (f - m))) (.slice (some ⟨gr, 0, none⟩) has.length cr) (rest.set q ((y1, y2, y3), f - m))) := hid (by
                    have h1 := hownf
                    rw [← hlr4] at h1
                    have h2 := Own.set (k := q) (j := 3) (u := .int .i64 (f - m)) (x := ((y1, y2, y3), f - m)) encNd_len h1 hq (by omega) (fun hk => by rw [HQR.out]; rfl)
                    rw [hlr4] at h2
                    exact h2)
                  have KN : Kp w7 (wf.setCell ⟨gr, q * 4 + 3, none⟩ (.int .i64 (f - m))) := Kg.to_kp (kre.trans kf) ((Kg.refl wf gr).set (p := ⟨gr, q * 4 + 3, none⟩) (.inl rfl) (.int .i64 (f - m))) hgr1
                  have hgrf : gr < wf.heap.size := by have := kf.size; omega
                  clear hlr4
                  go_wp2_with fail
                  go_roundw
                  case rel => exact ⟨k' + 1, _, by omega, by go_num, KN, HOn, hset⟩
                  case measure => simp [intOf]; omega
                | true =>
                  rw [hls] at HLS hke
                  have hke : amt all (y1, y2, y3) = kp := hke
                  have hva := (validL_iff all).1 (hok.out.own _ _ hown1.out).2
                  have hoa := ofN_amt (y1, y2, y3) all hva.2.1
                  rw [hke] at hoa
                  replace hoa := hid hoa
                  replace hke := hid hke
                  clear hkk
                  go_upto_region 36 with (fail)
                  refine wp_region_kw (by kernel_rfl) (by kernel_rfl) ?_
                  repeat (go_big_quiet_step ((go_at_call 9; exact quiet_kw (HLS.out _))))
                  refine wpQuiet_nil ?_
                  intro _ hw'
                  obtain ⟨u2, hw''⟩ := hw'
                  subst hw''
                  go_wp2_with fail
                  refine (lOf_any (y1, y2, y3) all _ (Kw wd u2) (hnall.keep (pl_stable _) (kw7.trans (krd.trans (kw_kp wd u2)))) (fun z hz => by have := okNd_amt (hva.1 z hz); omega) hva.2.2).mono ?_
                  rintro e w9 ⟨rfl, k9⟩
                  rw [hoa.out]
                  have kx := (kw_kp wd u2).trans k9
                  obtain ⟨we, hwe⟩ : ∃ we, we = w9 := ⟨_, rfl⟩
                  subst hwe
                  clear k9
                  have kre := krd.trans kx
                  have howne := hownd.kp kx
                  have hTe := hTd.keep (kx.block htld)
                  have hgre : gr < we.heap.size := by have := kx.size; omega
                  clear e0 e1 e2 e3 e4 t0 t1 t2 t3 t4 c0 c1 c2 c3
                  have t4 := hTe.cell (j := 4) rfl
                  have htle := hTe.lt (by simp)
                  obtain ⟨m0, m1, m2, m3⟩ := own_nd howne HLR.out.symm (k := q) hq HQR.out
                  have hql : (q : Int) < (has.length : Int) := by have := HLR.out; omega
                  have hge : decide (f - m < kp) = false := decide_eq_false (by omega)
                  have HZ := hid (And.intro (IntWalk.i64_in (f - m) (by omega)) (IntWalk.wrap64_in (f - m) (by omega)))
                  have z1 := HZ.out.1
                  have z2 := HZ.out.2
                  go_upto_region 38 with (fail)
                  refine wp_region_kw_tail 9 (by kernel_rfl) (by kernel_rfl) ?_
                  simp only [List.take_succ_cons, List.take_zero, List.drop_succ_cons, List.drop_zero]
                  repeat (go_big_quiet_step ((fail)))
                  refine wpQuiet_nil ?_
                  intro _ hw'
                  obtain ⟨u3, hw''⟩ := hw'
                  subst hw''
                  clear z1 z2
                  have kf := kw_kp we u3
                  generalize Kw we u3 = wf at *
                  have hownf := howne.kp kf
                  clear m0 m1 m2 m3 t4
                  obtain ⟨m0, m1, m2, m3⟩ := own_nd hownf HLR.out.symm (k := q) hq HQR.out
                  have ff := hownf.frozen HLR.out.symm (q * 4 + 3)
                  have hlr4 : rest.length = has.length := HLR.out
                  have HOn : Hid (Own encNd 41 4 w7.heap.size (wf.setCell ⟨gr, q * 4 + 3, none⟩ (.int .i64 (f - m))) (.slice (some ⟨gr, 0, none⟩) has.length cr) (rest.set q ((y1, y2, y3), f - m))) := hid (by
                    have h1 := hownf
                    rw [← hlr4] at h1
                    have h2 := Own.set (k := q) (j := 3) (u := .int .i64 (f - m)) (x := ((y1, y2, y3), f - m)) encNd_len h1 hq (by omega) (fun hk => by rw [HQR.out]; rfl)
                    rw [hlr4] at h2
                    exact h2)
                  have KN : Kp w7 (wf.setCell ⟨gr, q * 4 + 3, none⟩ (.int .i64 (f - m))) := Kg.to_kp (kre.trans kf) ((Kg.refl wf gr).set (p := ⟨gr, q * 4 + 3, none⟩) (.inl rfl) (.int .i64 (f - m))) hgr1
                  have hgrf : gr < wf.heap.size := by have := kf.size; omega
                  clear hlr4
                  go_wp2_with fail
                  go_roundw
                  case rel => exact ⟨k' + 1, _, by omega, by go_num, KN, HOn, hset⟩
                  case measure => simp [intOf]; omega
            · have hkl' : ¬ (k' : Int) < (gs.length : Int) := by omega
              obtain rfl : k' = gs.length := by omega
              have HEND : Hid (∀ y, amt (noZ rest) y = runF (amt has) gs y) := hid fun y => by
                have h1 := HR.out.am y
                dsimp only at h1
                rw [List.take_length] at h1
                rw [amt_noZ (HR.out.nodup HVAL.out), h1]
              clear HR hkl'
              by_cases hl0 : la.length = 0
              · have u1 : decide ((0 : Int) < (la.length : Int)) = false := decide_eq_false (by omega)
                have hl1 : ¬ 0 < la.length := by omega
                have hl2 : ¬ (0 : Int) < (la.length : Int) := by omega
                replace hl0 := hid hl0
                go_upto_region 42 with (fail)
                refine wp_region_kw (by kernel_rfl) (by kernel_rfl) ?_
                repeat (go_big_quiet_step ((fail)))
                refine wpQuiet_nil ?_
                intro _ hw'
                obtain ⟨u, hw''⟩ := hw'
                subst hw''
                have kf := kr.trans (kw_kp wi u)
                have hof := Own.kp HO.out (kw_kp wi u)
                generalize Kw wi u = wf at *
                have hge := hof.ge
                have hdel := DeleteNd_any (fun r => r.2 == 0) 37 Ar cr w7.heap.size rest wf (by rw [HLR.out]; exact hof) ⟨_, Try.func37, by kernel_rfl, by kernel_rfl⟩ (fun w' x1 x2 x3 x4 => lGives3_any x1 x2 x3 x4 w')
                rw [HLR.out] at hdel
                replace hdel := hid hdel
                go_wp2_with fail
                refine hdel.out.mono ?_
                rintro e wy ⟨v', rfl, ⟨A', n', c', rfl⟩, hsx, hgy⟩
                have kwy := kf.grown hgy (fun q hq => hge q hq)
                go_wp2_with fail
                refine (bGrants_any (S := Sp b mb pb) (b := b) (mb := mb) (s := s1) (noZ rest) (.slice A' n' c') (hb7.kp kwy) (fun q hq => nS q (by have := kwy.size; omega)) (hsx (Sp b mb pb) (fun q hq => nS q (by have := hge q hq; omega)))).mono ?_
                rintro e wz ⟨gv2, rfl, gown2, -, fxz⟩
                rw [HTW.out (noZ rest) HEND.out] at gown2
                obtain ⟨A2, c2', he2, -, -⟩ := gown2.form
                have he2 : gv2 = .slice A2 0 c2' := he2
                subst he2
                go_wp2
                go_ret
                exact ⟨rfl, (((kw7.trans kwy).fx (B2 b mb)).trans fxz).kp fun q hq => (nW q hq).1⟩
              · have u1 : decide ((0 : Int) < (la.length : Int)) = true := decide_eq_true (by omega)
                have hl1 : 0 < la.length := by omega
                have hl2 : (0 : Int) < (la.length : Int) := by omega
                have hvn := HAR.out.nds la[0] (List.getElem_mem hl1)
                obtain ⟨ba, oa, rfl, hba, e0, e1, e2, e3, e4, e5⟩ := ((HAR.out.own.sl encAV_len).keep (pl_stable _) kr).av hl1
                have hmc := map_cons0 (fun x : AV => x.a) hl1
                rw [hla.out] at hmc
                obtain ⟨⟨xa, xA, xn, xc⟩, hxj⟩ : ∃ x, la[0] = x := ⟨_, rfl⟩
                rw [hxj] at hvn e0 e1 e2 e3 e4 e5 hmc
                dsimp only [AV.v] at hvn e0 e1 e2 e3 e4 e5 hmc
                obtain ⟨anum, ⟨a1, a2, a3, a4⟩, ans⟩ := xa
                dsimp only at hvn e0 e1 e2 e3 e4 e5 hmc
                have hxn := own_len4 hvn
                subst hxn
                simp only [Nat.zero_mul, Nat.add_zero] at e0 e1 e2 e3 e4 e5
                have HF0 := hid (HFI.out _ _ hmc)
                have hai := (mem_reqL hok.out ⟨anum, (a1, a2, a3, a4), ans⟩).1 (by rw [hmc]; exact List.mem_cons_self)
                have HNV := hid ((validL_iff ans).1 (heard_facts hok.out hai.2).1)
                replace hl0 := hid hl0
                replace hxj := hid hxj
                have HVN := hid hvn
                have hanl : ans.length ≤ 1024 := HNV.out.2.2
                clear hmc hai hvn
                have hPi := hP7.keep (kr.block hs7)
                have c0 := hPi.cell (j := 0) rfl
                have c1 := hPi.cell (j := 1) rfl
                have c2 := hPi.cell (j := 2) rfl
                have c3 := hPi.cell (j := 3) rfl
                dsimp only at c0 c1 c2 c3
                have hbai : ba < wi.heap.size := block_lt_of_cell e0
                have hpbi : pb < wi.heap.size := block_lt_of_cell c0
                cases own with
                | false =>
                  have HF1 := hid (HF0.out fun y => by rw [H0.out rfl]; rfl)
                  clear HF0 HFI
                  go_upto_region 42 with (fail)
                  refine wp_region_kw (by kernel_rfl) (by kernel_rfl) ?_
                  repeat (go_big_quiet_step ((fail)))
                  refine wpQuiet_nil ?_
                  intro _ hw'
                  obtain ⟨u, hw''⟩ := hw'
                  subst hw''
                  have kf := kw_kp wi u
                  generalize Kw wi u = wf at *
                  replace e3 := kf.cellS e3
                  replace e5 := kf.cellS e5
                  have krf := kr.trans kf
                  clear e0 e1 e2 e4 c0 c1 c2 c3 hPi
                  have hbaf : ba < wf.heap.size := block_lt_of_cell e3
                  go_wp2_with fail
                  go_loopw [216] (fun i wr => ∃ n : Nat, n ≤ ans.length ∧ i = .int .i64 (n : Int) ∧ Kp wf wr) (fun i _ => ans.length - (intOf i).toNat)
                  case atStart => exact ⟨0, Nat.zero_le _, rfl, Kp.refl _⟩
                  case round =>
                    obtain ⟨n, hn, rfl, kn⟩ := hrel
                    obtain ⟨wn, hwn⟩ : ∃ wn, wn = wr := ⟨_, rfl⟩
                    subst hwn
                    have krn := krf.trans kn
                    have hof := Own.kp HO.out (kf.trans kn)
                    by_cases hnl : n < ans.length
                    · have hni : (n : Int) < (ans.length : Int) := by omega
                      obtain ⟨bn, on, rfl, hbn, i0, i1, i2, i3⟩ := ((HVN.out.sl encNd_len).keep (pl_stable _) krn).nd hnl
                      have hsum := HF1.out ans[n] (List.getElem_mem hnl)
                      have hxok := okNd_amt (HNV.out.1 ans[n] (List.getElem_mem hnl))
                      obtain ⟨⟨⟨x1, x2, x3⟩, x4⟩, hxn⟩ : ∃ x, ans[n] = x := ⟨_, rfl⟩
                      rw [hxn] at hsum hxok i0 i1 i2 i3
                      dsimp only at hsum hxok i0 i1 i2 i3
                      replace hxn := hid hxn
                      have hY := Bx.new wn #[.int .i64 x1, .int .i64 x2, .int .i64 x3, .int .i64 x4] 41
                      have ky := (Kp.refl wn).alloc (.cells #[.int .i64 x1, .int .i64 x2, .int .i64 x3, .int .i64 x4] 41)
                      go_upto_region 46 with (fail)
                      generalize wn.alloc (.cells #[.int .i64 x1, .int .i64 x2, .int .i64 x3, .int .i64 x4] 41) = wy at *
                      clear i0 i1 i2 i3
                      generalize wn.heap.size = yb at *
                      have krny := krn.trans ky
                      have hyl := hY.lt (by simp)
                      have e3y := (kn.trans ky).cellS e3
                      have hamb := amt_bound ((validL_iff has).1 HVAL.out).1 (x1, x2, x3)
                      obtain ⟨tot, htot⟩ : ∃ tot, min x4 (amt has (x1, x2, x3)) = tot := ⟨_, rfl⟩
                      rw [htot] at hsum
                      have htb : 0 ≤ tot ∧ tot ≤ 1000000 := by omega
                      go_wp2_with fail
                      go_loopw [30, 222] (fun got i wr => ∃ m : Nat, m ≤ gs.length ∧ got = .int .i64 (sumG a3 (x1, x2, x3) (gs.take m)) ∧ i = .int .i64 (m : Int) ∧ Kp wy wr) (fun _ i _ => gs.length - (intOf i).toNat)
                      case atStart => exact ⟨0, Nat.zero_le _, rfl, rfl, Kp.refl _⟩
                      case round =>
                        obtain ⟨m, hm, rfl, rfl, km⟩ := hrel
                        obtain ⟨wm, hwm⟩ : ∃ wm, wm = wr := ⟨_, rfl⟩
                        subst hwm
                        by_cases hml : m < gs.length
                        · have hmi : (m : Int) < (gs.length : Int) := by omega
                          obtain ⟨bg, og, rfl, hbg, i0, i1, i2, i3, i4⟩ := ((gown.sl encGr_len).keep (pl_stable _) (krny.trans km)).gr hml
                          have HSN := hid (sumG_snoc a3 (x1, x2, x3) gs m hml)
                          have hst := sumG_take a3 (x1, x2, x3) HPOS.out m
                          have hst2 := sumG_take a3 (x1, x2, x3) HPOS.out (m + 1)
                          rw [hsum] at hst hst2
                          have hgp := HPOS.out gs[m] (List.getElem_mem hml)
                          generalize sumG a3 (x1, x2, x3) (gs.take m) = sm at *
                          generalize gs[m] = g at *
                          obtain ⟨gt, ⟨y1, y2, y3⟩, gm⟩ := g
                          dsimp only at i0 i1 i2 i3 i4 hgp
                          have hT := Bx.new wm #[.int .i64 gt, .int .i64 y1, .int .i64 y2, .int .i64 y3, .int .i64 gm] 46
                          have kt := (Kp.refl wm).alloc (.cells #[.int .i64 gt, .int .i64 y1, .int .i64 y2, .int .i64 y3, .int .i64 gm] 46)
                          go_upto_region 50 with (fail)
                          generalize wm.alloc (.cells #[.int .i64 gt, .int .i64 y1, .int .i64 y2, .int .i64 y3, .int .i64 gm] 46) = wt at *
                          clear i0 i1 i2 i3 i4
                          generalize wm.heap.size = tb at *
                          have htl := hT.lt (by simp)
                          have kyt := km.trans kt
                          have hYt := hY.keep (kyt.block hyl)
                          have hylt := hYt.lt (by simp)
                          have e3t := kyt.cellS e3y
                          have hbat : ba < wt.heap.size := block_lt_of_cell e3t
                          have t0 := hT.cell (j := 0) rfl
                          have t1 := hT.cell (j := 1) rfl
                          have t2 := hT.cell (j := 2) rfl
                          have t3 := hT.cell (j := 3) rfl
                          have t4 := hT.cell (j := 4) rfl
                          have d0 := hYt.cell (j := 0) rfl
                          have d1 := hYt.cell (j := 1) rfl
                          have d2 := hYt.cell (j := 2) rfl
                          have heq := fun W => run_eql_rt W (y1, y2, y3) (x1, x2, x3)
                          by_cases hgt : gt = a3
                          · have g1 : (gt == a3) = true := by simpa using hgt
                            by_cases hxy : ((y1, y2, y3) : Rt) = (x1, x2, x3)
                            · rw [decide_eq_true hxy] at heq
                              have HSM : Hid (sumG a3 (x1, x2, x3) (gs.take (m + 1)) = sm + gm) := hid (by rw [HSN.out]; dsimp only; rw [if_pos ⟨hgt, hxy⟩])
                              rw [HSM.out] at hst2
                              have HZ := hid (And.intro (IntWalk.i64_in (sm + gm) (by omega)) (IntWalk.wrap64_in (sm + gm) (by omega)))
                              replace hgt := hid hgt
                              replace hxy := hid hxy
                              refine wp_region_kw (by kernel_rfl) (by kernel_rfl) ?_
                              repeat (go_big_quiet_step ((fail)))
                              refine wpQuiet_nil ?_
                              intro _ hw'
                              obtain ⟨u9, hw''⟩ := hw'
                              subst hw''
                              have ku := kw_kp wt u9
                              generalize Kw wt u9 = wu at *
                              clear t0 t1 t2 t3 d0 d1 d2 HSN
                              replace t4 := ku.cellS t4
                              have z1 := HZ.out.1
                              have z2 := HZ.out.2
                              go_wp2_with fail
                              go_roundw
                              case rel =>
                                clear z1 z2 HZ
                                exact ⟨m + 1, by omega, by rw [HSM.out], by go_num, kyt.trans ku⟩
                              case measure =>
                                clear z1 z2 HZ
                                simp [intOf]
                                omega
                            · rw [decide_eq_false hxy] at heq
                              have HSM : Hid (sumG a3 (x1, x2, x3) (gs.take (m + 1)) = sm) := hid (by rw [HSN.out]; dsimp only; rw [if_neg (fun e => hxy e.2)]; omega)
                              replace hgt := hid hgt
                              replace hxy := hid hxy
                              refine wp_region_kw (by kernel_rfl) (by kernel_rfl) ?_
                              repeat (go_big_quiet_step ((fail)))
                              refine wpQuiet_nil ?_
                              intro _ hw'
                              obtain ⟨u9, hw''⟩ := hw'
                              subst hw''
                              have ku := kw_kp wt u9
                              generalize Kw wt u9 = wu at *
                              clear t0 t1 t2 t3 t4 d0 d1 d2 HSN
                              go_wp2_with fail
                              go_roundw
                              case rel => exact ⟨m + 1, by omega, by rw [HSM.out], by go_num, kyt.trans ku⟩
                              case measure => simp [intOf]; omega
                          · have g1 : (gt == a3) = false := by simpa using hgt
                            have HSM : Hid (sumG a3 (x1, x2, x3) (gs.take (m + 1)) = sm) := hid (by rw [HSN.out]; dsimp only; rw [if_neg (fun e => hgt e.1)]; omega)
                            replace hgt := hid hgt
                            refine wp_region_kw (by kernel_rfl) (by kernel_rfl) ?_
                            repeat (go_big_quiet_step ((fail)))
                            refine wpQuiet_nil ?_
                            intro _ hw'
                            obtain ⟨u9, hw''⟩ := hw'
                            subst hw''
                            have ku := kw_kp wt u9
                            generalize Kw wt u9 = wu at *
                            clear t0 t1 t2 t3 t4 d0 d1 d2 HSN
                            go_wp2_with fail
                            go_roundw
                            case rel => exact ⟨m + 1, by omega, by rw [HSM.out], by go_num, kyt.trans ku⟩
                            case measure => simp [intOf]; omega
                        · have hmi : ¬ (m : Int) < (gs.length : Int) := by omega
                          obtain rfl : m = gs.length := by omega
                          rw [List.take_length, hsum]
                          have hYm := hY.keep (km.block hyl)
                          have d0 := hYm.cell (j := 0) rfl
                          have d1 := hYm.cell (j := 1) rfl
                          have d2 := hYm.cell (j := 2) rfl
                          have d3 := hYm.cell (j := 3) rfl
                          have hym := hYm.lt (by simp)
                          have hva := (validL_iff has).1 HVAL.out
                          have hoh := ofN_amt (x1, x2, x3) has hva.2.1
                          have HOF : Hid (∀ u, Calls Try.prog 35 #[.slice Ah has.length ch, rtV (x1, x2, x3)] (Kw wm u) fun e w' => e = .returned (.int .i64 (ofN has (x1, x2, x3))) ∧ Kp (Kw wm u) w') :=
                            hid fun u => lOf_any (x1, x2, x3) has _ (Kw wm u) (hH.keep (pl_stable _) ((kw7.trans (krny.trans km)).trans (kw_kp wm u))) (fun z hz => by have := okNd_amt (hva.1 z hz); omega) hva.2.2
                          rw [hoh] at HOF
                          clear hoh hva hsum
                          generalize amt has (x1, x2, x3) = am at *
                          have hne : (tot != tot) = false := by simp
                          go_upto_region 53 with (fail)
                          refine wp_region_kw (by kernel_rfl) (by kernel_rfl) ?_
                          repeat (go_big_quiet_step ((go_at_call 35; exact quiet_kw (HOF.out _))))
                          refine wpQuiet_nil ?_
                          intro _ hw'
                          obtain ⟨u9, hw''⟩ := hw'
                          subst hw''
                          go_wp2_with fail
                          go_roundw
                          case rel => exact ⟨n + 1, by omega, by go_num, ((kn.trans ky).trans km).trans (kw_kp wm u9)⟩
                          case measure => simp [intOf]; omega
                    · have hni : ¬ (n : Int) < (ans.length : Int) := by omega
                      clear e3 e5 kn kf
                      have kf := krn
                      obtain ⟨wf', hwf⟩ : ∃ wf', wf' = wn := ⟨_, rfl⟩
                      subst hwf
                      have hge := hof.ge
                      have hdel := DeleteNd_any (fun r => r.2 == 0) 37 Ar cr w7.heap.size rest wf' (by rw [HLR.out]; exact hof) ⟨_, Try.func37, by kernel_rfl, by kernel_rfl⟩ (fun w' x1 x2 x3 x4 => lGives3_any x1 x2 x3 x4 w')
                      rw [HLR.out] at hdel
                      replace hdel := hid hdel
                      go_wp2_with fail
                      refine hdel.out.mono ?_
                      rintro e wy ⟨v', rfl, ⟨A', n', c', rfl⟩, hsx, hgy⟩
                      have kwy := kf.grown hgy (fun q hq => hge q hq)
                      go_wp2_with fail
                      refine (bGrants_any (S := Sp b mb pb) (b := b) (mb := mb) (s := s1) (noZ rest) (.slice A' n' c') (hb7.kp kwy) (fun q hq => nS q (by have := kwy.size; omega)) (hsx (Sp b mb pb) (fun q hq => nS q (by have := hge q hq; omega)))).mono ?_
                      rintro e wz ⟨gv2, rfl, gown2, -, fxz⟩
                      rw [HTW.out (noZ rest) HEND.out] at gown2
                      obtain ⟨A2, c2', he2, -, -⟩ := gown2.form
                      have he2 : gv2 = .slice A2 0 c2' := he2
                      subst he2
                      go_wp2
                      go_ret
                      exact ⟨rfl, (((kw7.trans kwy).fx (B2 b mb)).trans fxz).kp fun q hq => (nW q hq).1⟩
                | true =>
                  obtain ⟨hown1, hnall⟩ := H1.out rfl
                  have HLS : Hid (∀ u, Calls Try.prog 9 #[prV (a1, a2, a3, a4), prV (p1, p2, p3, p4)] (Kw wi u) fun e w' => e = .returned (.bool (lessB (a1, a2, a3, a4) (p1, p2, p3, p4))) ∧ Kp (Kw wi u) w') :=
                    hid fun u => (bLess_at (a1, a2, a3, a4) (p1, p2, p3, p4) (Kw wi u)).mono fun e w' ⟨h1, h2⟩ => ⟨h1, h2.kp⟩
                  replace hown1 := hid hown1
                  cases hls : lessB (a1, a2, a3, a4) (p1, p2, p3, p4) with
                  | false =>
                    rw [hls] at HLS
                    go_upto_region 42 with (fail)
                    refine wp_region_kw (by kernel_rfl) (by kernel_rfl) ?_
                    repeat (go_big_quiet_step ((go_at_call 9; exact quiet_kw (HLS.out _))))
                    refine wpQuiet_nil ?_
                    intro _ hw'
                    obtain ⟨u, hw''⟩ := hw'
                    subst hw''
                    have kf := kr.trans (kw_kp wi u)
                    have hof := Own.kp HO.out (kw_kp wi u)
                    generalize Kw wi u = wf at *
                    clear e0 e1 e2 e3 e4 e5 c0 c1 c2 c3
                    have hge := hof.ge
                    have hdel := DeleteNd_any (fun r => r.2 == 0) 37 Ar cr w7.heap.size rest wf (by rw [HLR.out]; exact hof) ⟨_, Try.func37, by kernel_rfl, by kernel_rfl⟩ (fun w' x1 x2 x3 x4 => lGives3_any x1 x2 x3 x4 w')
                    rw [HLR.out] at hdel
                    replace hdel := hid hdel
                    go_wp2_with fail
                    refine hdel.out.mono ?_
                    rintro e wy ⟨v', rfl, ⟨A', n', c', rfl⟩, hsx, hgy⟩
                    have kwy := kf.grown hgy (fun q hq => hge q hq)
                    go_wp2_with fail
                    refine (bGrants_any (S := Sp b mb pb) (b := b) (mb := mb) (s := s1) (noZ rest) (.slice A' n' c') (hb7.kp kwy) (fun q hq => nS q (by have := kwy.size; omega)) (hsx (Sp b mb pb) (fun q hq => nS q (by have := hge q hq; omega)))).mono ?_
                    rintro e wz ⟨gv2, rfl, gown2, -, fxz⟩
                    rw [HTW.out (noZ rest) HEND.out] at gown2
                    obtain ⟨A2, c2', he2, -, -⟩ := gown2.form
                    have he2 : gv2 = .slice A2 0 c2' := he2
                    subst he2
                    go_wp2
                    go_ret
                    exact ⟨rfl, (((kw7.trans kwy).fx (B2 b mb)).trans fxz).kp fun q hq => (nW q hq).1⟩
                  | true =>
                    rw [hls] at HLS
                    have HF1 := hid (HF0.out fun y => by rw [hown1.out]; simp only [keeps]; rw [lessB_asymm hls]; rfl)
                    clear HF0 HFI
                    go_upto_region 42 with (fail)
                    refine wp_region_kw (by kernel_rfl) (by kernel_rfl) ?_
                    repeat (go_big_quiet_step ((go_at_call 9; exact quiet_kw (HLS.out _))))
                    refine wpQuiet_nil ?_
                    intro _ hw'
                    obtain ⟨u, hw''⟩ := hw'
                    subst hw''
                    have kf := kw_kp wi u
                    generalize Kw wi u = wf at *
                    replace e3 := kf.cellS e3
                    replace e5 := kf.cellS e5
                    have krf := kr.trans kf
                    clear e0 e1 e2 e4 c0 c1 c2 c3 hPi
                    have hbaf : ba < wf.heap.size := block_lt_of_cell e3
                    go_wp2_with fail
                    go_loopw [216] (fun i wr => ∃ n : Nat, n ≤ ans.length ∧ i = .int .i64 (n : Int) ∧ Kp wf wr) (fun i _ => ans.length - (intOf i).toNat)
                    case atStart => exact ⟨0, Nat.zero_le _, rfl, Kp.refl _⟩
                    case round =>
                      obtain ⟨n, hn, rfl, kn⟩ := hrel
                      obtain ⟨wn, hwn⟩ : ∃ wn, wn = wr := ⟨_, rfl⟩
                      subst hwn
                      have krn := krf.trans kn
                      have hof := Own.kp HO.out (kf.trans kn)
                      by_cases hnl : n < ans.length
                      · have hni : (n : Int) < (ans.length : Int) := by omega
                        obtain ⟨bn, on, rfl, hbn, i0, i1, i2, i3⟩ := ((HVN.out.sl encNd_len).keep (pl_stable _) krn).nd hnl
                        have hsum := HF1.out ans[n] (List.getElem_mem hnl)
                        have hxok := okNd_amt (HNV.out.1 ans[n] (List.getElem_mem hnl))
                        obtain ⟨⟨⟨x1, x2, x3⟩, x4⟩, hxn⟩ : ∃ x, ans[n] = x := ⟨_, rfl⟩
                        rw [hxn] at hsum hxok i0 i1 i2 i3
                        dsimp only at hsum hxok i0 i1 i2 i3
                        replace hxn := hid hxn
                        have hY := Bx.new wn #[.int .i64 x1, .int .i64 x2, .int .i64 x3, .int .i64 x4] 41
                        have ky := (Kp.refl wn).alloc (.cells #[.int .i64 x1, .int .i64 x2, .int .i64 x3, .int .i64 x4] 41)
                        go_upto_region 46 with (fail)
                        generalize wn.alloc (.cells #[.int .i64 x1, .int .i64 x2, .int .i64 x3, .int .i64 x4] 41) = wy at *
                        clear i0 i1 i2 i3
                        generalize wn.heap.size = yb at *
                        have krny := krn.trans ky
                        have hyl := hY.lt (by simp)
                        have e3y := (kn.trans ky).cellS e3
                        have hamb := amt_bound ((validL_iff has).1 HVAL.out).1 (x1, x2, x3)
                        obtain ⟨tot, htot⟩ : ∃ tot, min x4 (amt has (x1, x2, x3)) = tot := ⟨_, rfl⟩
                        rw [htot] at hsum
                        have htb : 0 ≤ tot ∧ tot ≤ 1000000 := by omega
                        go_wp2_with fail
                        go_loopw [30, 222] (fun got i wr => ∃ m : Nat, m ≤ gs.length ∧ got = .int .i64 (sumG a3 (x1, x2, x3) (gs.take m)) ∧ i = .int .i64 (m : Int) ∧ Kp wy wr) (fun _ i _ => gs.length - (intOf i).toNat)
                        case atStart => exact ⟨0, Nat.zero_le _, rfl, rfl, Kp.refl _⟩
                        case round =>
                          obtain ⟨m, hm, rfl, rfl, km⟩ := hrel
                          obtain ⟨wm, hwm⟩ : ∃ wm, wm = wr := ⟨_, rfl⟩
                          subst hwm
                          by_cases hml : m < gs.length
                          · have hmi : (m : Int) < (gs.length : Int) := by omega
                            obtain ⟨bg, og, rfl, hbg, i0, i1, i2, i3, i4⟩ := ((gown.sl encGr_len).keep (pl_stable _) (krny.trans km)).gr hml
                            have HSN := hid (sumG_snoc a3 (x1, x2, x3) gs m hml)
                            have hst := sumG_take a3 (x1, x2, x3) HPOS.out m
                            have hst2 := sumG_take a3 (x1, x2, x3) HPOS.out (m + 1)
                            rw [hsum] at hst hst2
                            have hgp := HPOS.out gs[m] (List.getElem_mem hml)
                            generalize sumG a3 (x1, x2, x3) (gs.take m) = sm at *
                            generalize gs[m] = g at *
                            obtain ⟨gt, ⟨y1, y2, y3⟩, gm⟩ := g
                            dsimp only at i0 i1 i2 i3 i4 hgp
                            have hT := Bx.new wm #[.int .i64 gt, .int .i64 y1, .int .i64 y2, .int .i64 y3, .int .i64 gm] 46
                            have kt := (Kp.refl wm).alloc (.cells #[.int .i64 gt, .int .i64 y1, .int .i64 y2, .int .i64 y3, .int .i64 gm] 46)
                            go_upto_region 50 with (fail)
                            generalize wm.alloc (.cells #[.int .i64 gt, .int .i64 y1, .int .i64 y2, .int .i64 y3, .int .i64 gm] 46) = wt at *
                            clear i0 i1 i2 i3 i4
                            generalize wm.heap.size = tb at *
                            have htl := hT.lt (by simp)
                            have kyt := km.trans kt
                            have hYt := hY.keep (kyt.block hyl)
                            have hylt := hYt.lt (by simp)
                            have e3t := kyt.cellS e3y
                            have hbat : ba < wt.heap.size := block_lt_of_cell e3t
                            have t0 := hT.cell (j := 0) rfl
                            have t1 := hT.cell (j := 1) rfl
                            have t2 := hT.cell (j := 2) rfl
                            have t3 := hT.cell (j := 3) rfl
                            have t4 := hT.cell (j := 4) rfl
                            have d0 := hYt.cell (j := 0) rfl
                            have d1 := hYt.cell (j := 1) rfl
                            have d2 := hYt.cell (j := 2) rfl
                            have heq := fun W => run_eql_rt W (y1, y2, y3) (x1, x2, x3)
                            by_cases hgt : gt = a3
                            · have g1 : (gt == a3) = true := by simpa using hgt
                              by_cases hxy : ((y1, y2, y3) : Rt) = (x1, x2, x3)
                              · rw [decide_eq_true hxy] at heq
                                have HSM : Hid (sumG a3 (x1, x2, x3) (gs.take (m + 1)) = sm + gm) := hid (by rw [HSN.out]; dsimp only; rw [if_pos ⟨hgt, hxy⟩])
                                rw [HSM.out] at hst2
                                have HZ := hid (And.intro (IntWalk.i64_in (sm + gm) (by omega)) (IntWalk.wrap64_in (sm + gm) (by omega)))
                                replace hgt := hid hgt
                                replace hxy := hid hxy
                                refine wp_region_kw (by kernel_rfl) (by kernel_rfl) ?_
                                repeat (go_big_quiet_step ((fail)))
                                refine wpQuiet_nil ?_
                                intro _ hw'
                                obtain ⟨u9, hw''⟩ := hw'
                                subst hw''
                                have ku := kw_kp wt u9
                                generalize Kw wt u9 = wu at *
                                clear t0 t1 t2 t3 d0 d1 d2 HSN
                                replace t4 := ku.cellS t4
                                have z1 := HZ.out.1
                                have z2 := HZ.out.2
                                go_wp2_with fail
                                go_roundw
                                case rel =>
                                  clear z1 z2 HZ
                                  exact ⟨m + 1, by omega, by rw [HSM.out], by go_num, kyt.trans ku⟩
                                case measure =>
                                  clear z1 z2 HZ
                                  simp [intOf]
                                  omega
                              · rw [decide_eq_false hxy] at heq
                                have HSM : Hid (sumG a3 (x1, x2, x3) (gs.take (m + 1)) = sm) := hid (by rw [HSN.out]; dsimp only; rw [if_neg (fun e => hxy e.2)]; omega)
                                replace hgt := hid hgt
                                replace hxy := hid hxy
                                refine wp_region_kw (by kernel_rfl) (by kernel_rfl) ?_
                                repeat (go_big_quiet_step ((fail)))
                                refine wpQuiet_nil ?_
                                intro _ hw'
                                obtain ⟨u9, hw''⟩ := hw'
                                subst hw''
                                have ku := kw_kp wt u9
                                generalize Kw wt u9 = wu at *
                                clear t0 t1 t2 t3 t4 d0 d1 d2 HSN
                                go_wp2_with fail
                                go_roundw
                                case rel => exact ⟨m + 1, by omega, by rw [HSM.out], by go_num, kyt.trans ku⟩
                                case measure => simp [intOf]; omega
                            · have g1 : (gt == a3) = false := by simpa using hgt
                              have HSM : Hid (sumG a3 (x1, x2, x3) (gs.take (m + 1)) = sm) := hid (by rw [HSN.out]; dsimp only; rw [if_neg (fun e => hgt e.1)]; omega)
                              replace hgt := hid hgt
                              refine wp_region_kw (by kernel_rfl) (by kernel_rfl) ?_
                              repeat (go_big_quiet_step ((fail)))
                              refine wpQuiet_nil ?_
                              intro _ hw'
                              obtain ⟨u9, hw''⟩ := hw'
                              subst hw''
                              have ku := kw_kp wt u9
                              generalize Kw wt u9 = wu at *
                              clear t0 t1 t2 t3 t4 d0 d1 d2 HSN
                              go_wp2_with fail
                              go_roundw
                              case rel => exact ⟨m + 1, by omega, by rw [HSM.out], by go_num, kyt.trans ku⟩
                              case measure => simp [intOf]; omega
                          · have hmi : ¬ (m : Int) < (gs.length : Int) := by omega
                            obtain rfl : m = gs.length := by omega
                            rw [List.take_length, hsum]
                            have hYm := hY.keep (km.block hyl)
                            have d0 := hYm.cell (j := 0) rfl
                            have d1 := hYm.cell (j := 1) rfl
                            have d2 := hYm.cell (j := 2) rfl
                            have d3 := hYm.cell (j := 3) rfl
                            have hym := hYm.lt (by simp)
                            have hva := (validL_iff has).1 HVAL.out
                            have hoh := ofN_amt (x1, x2, x3) has hva.2.1
                            have HOF : Hid (∀ u, Calls Try.prog 35 #[.slice Ah has.length ch, rtV (x1, x2, x3)] (Kw wm u) fun e w' => e = .returned (.int .i64 (ofN has (x1, x2, x3))) ∧ Kp (Kw wm u) w') :=
                              hid fun u => lOf_any (x1, x2, x3) has _ (Kw wm u) (hH.keep (pl_stable _) ((kw7.trans (krny.trans km)).trans (kw_kp wm u))) (fun z hz => by have := okNd_amt (hva.1 z hz); omega) hva.2.2
                            rw [hoh] at HOF
                            clear hoh hva hsum
                            generalize amt has (x1, x2, x3) = am at *
                            have hne : (tot != tot) = false := by simp
                            go_upto_region 53 with (fail)
                            refine wp_region_kw (by kernel_rfl) (by kernel_rfl) ?_
                            repeat (go_big_quiet_step ((go_at_call 35; exact quiet_kw (HOF.out _))))
                            refine wpQuiet_nil ?_
                            intro _ hw'
                            obtain ⟨u9, hw''⟩ := hw'
                            subst hw''
                            go_wp2_with fail
                            go_roundw
                            case rel => exact ⟨n + 1, by omega, by go_num, ((kn.trans ky).trans km).trans (kw_kp wm u9)⟩
                            case measure => simp [intOf]; omega
                      · have hni : ¬ (n : Int) < (ans.length : Int) := by omega
                        clear e3 e5 kn kf
                        have kf := krn
                        obtain ⟨wf', hwf⟩ : ∃ wf', wf' = wn := ⟨_, rfl⟩
                        subst hwf
                        have hge := hof.ge
                        have hdel := DeleteNd_any (fun r => r.2 == 0) 37 Ar cr w7.heap.size rest wf' (by rw [HLR.out]; exact hof) ⟨_, Try.func37, by kernel_rfl, by kernel_rfl⟩ (fun w' x1 x2 x3 x4 => lGives3_any x1 x2 x3 x4 w')
                        rw [HLR.out] at hdel
                        replace hdel := hid hdel
                        go_wp2_with fail
                        refine hdel.out.mono ?_
                        rintro e wy ⟨v', rfl, ⟨A', n', c', rfl⟩, hsx, hgy⟩
                        have kwy := kf.grown hgy (fun q hq => hge q hq)
                        go_wp2_with fail
                        refine (bGrants_any (S := Sp b mb pb) (b := b) (mb := mb) (s := s1) (noZ rest) (.slice A' n' c') (hb7.kp kwy) (fun q hq => nS q (by have := kwy.size; omega)) (hsx (Sp b mb pb) (fun q hq => nS q (by have := hge q hq; omega)))).mono ?_
                        rintro e wz ⟨gv2, rfl, gown2, -, fxz⟩
                        rw [HTW.out (noZ rest) HEND.out] at gown2
                        obtain ⟨A2, c2', he2, -, -⟩ := gown2.form
                        have he2 : gv2 = .slice A2 0 c2' := he2
                        subst he2
                        go_wp2
                        go_ret
                        exact ⟨rfl, (((kw7.trans kwy).fx (B2 b mb)).trans fxz).kp fun q hq => (nW q hq).1⟩
end Go.Proofs.Ytbcekihjcgnhkaa
