
/-
What a broker gives away: the walk.
-/
import Derived.Test.YtbcekihjcgnhkaaBkM
namespace Go.Proofs.Ytbcekihjcgnhkaa
set_option linter.unusedSimpArgs false
set_option linter.unusedVariables false
open Go.RowKit

def encGr (g : Gr) : List Value := [.int .i64 g.1, .int .i64 g.2.1.1, .int .i64 g.2.1.2.1, .int .i64 g.2.1.2.2, .int .i64 g.2.2]
theorem encGr_len (g : Gr) : (encGr g).length = 5 := rfl
theorem encGr_one (g : Gr) : ∀ u ∈ encGr g, u.oneCell' = true := by simp [encGr, Value.oneCell']
theorem stgr : SliceT Try.prog 42 46 5 40 := SliceT.mk' Try.underlying42 (z := .agg #[.int .i64 0, .int .i64 0, .int .i64 0, .int .i64 0, .int .i64 0]) (by kernel_rfl) rfl (by omega)
/-- the blocks of the requests answered so far, and what lay there before -/
def Sj (S : Nat → Prop) (n0 : Nat) (l : List AV) (k : Nat) : Prop := (S k ∧ k < n0) ∨ ∃ x ∈ l, x.v.ownBlock = some k
abbrev fV (f : Rt → Int) : Rt → Value := fun y => .int .i64 (f y)
abbrev sH (s : Bk) (H : Int → Option Ak) : Bk := { s with heard := H }
/-- the rounds over the requests -/
structure GO (S : Nat → Prop) (w : World) (b mb : Nat) (s : Bk) (f0 : Rt → Int) (M M2 lb : Nat) (l : List AV) (vl : Value) (j : Nat) (wr : World) (s8 : Value) (f : Rt → Int) (H : Int → Option Ak) (gs : List Gr) : Prop where
  j1 : j ≤ l.length
  eq : giveA s.own f0 s.heard (l.map (·.a)) = ((giveA s.own f H ((l.drop j).map (·.a))).1, gs ++ (giveA s.own f H ((l.drop j).map (·.a))).2)
  mp : MapF wr lb (.int .i64 0) (fV f)
  fb : ∀ y, 0 ≤ f y ∧ f y ≤ 1000000
  gl : gs.length ≤ j * 1024
  out : Own encGr 46 5 M2 wr s8 gs
  br : BrW (Sj S w.heap.size (l.take j)) wr b mb (sH s H)
  nds : ∀ x ∈ l.drop j, Own encNd 41 4 M wr x.v x.a.needs
  row : Own encAV 29 6 M wr vl l
  fx : Fx (B2 b mb) w wr
  sz : M2 ≤ wr.heap.size
theorem insA_len (a : Ak) : ∀ l, (insA a l).length = l.length + 1
  | [] => rfl
  | x :: l => by
    unfold insA
    split
    · rfl
    · rw [List.length_cons, insA_len a l, List.length_cons]
theorem sortA_len : ∀ l, (sortA l).length = l.length
  | [] => rfl
  | a :: l => by unfold sortA; rw [insA_len, sortA_len l, List.length_cons]
theorem asked_len (H : Int → Option Ak) : ∀ n, (asked H n).length ≤ n
  | 0 => by simp [asked]
  | n + 1 => by
    unfold asked
    rw [List.length_append]
    have := asked_len H n
    have h2 : ((H n).filter hasN).toList.length ≤ 1 := by cases (H n).filter hasN <;> simp
    omega
theorem reqL_len {s : Bk} (h : OkB s) : (reqL s).length ≤ 5 := by
  unfold reqL
  rw [sortA_len]
  have := asked_len s.heard s.n.toNat
  have := h.n1
  omega
theorem Fx.grown {X : Nat → Prop} {a w w' : World} {row : Option Nat} (h : Fx X a w) (hg : w.grownBy w' row) (hr : ∀ g, row = some g → X g ∨ a.heap.size ≤ g) : Fx X a w' :=
  ⟨hg.os.trans h.os, hg.tape.trans h.tape, hg.output.trans h.output, Nat.le_trans h.size hg.size, fun i hi hx => (hg.block i (Nat.lt_of_lt_of_le hi h.size) (fun e => by
    rcases hr i e.symm with h1 | h1
    · exact hx h1
    · omega)).trans (h.block i hi hx)⟩
theorem _root_.Go.World.grownBy.fxg {w w' : World} {row : Option Nat} (h : w.grownBy w' row) (g : Nat) (hr : row = some g) : Fx (fun q => q = g) w w' := ⟨h.os, h.tape, h.output, h.size, fun i hi hx => h.block i hi (by rw [hr]; simp; exact hx)⟩
/-- the blocks that the rounds over the needs change -/
def YG (lb gx : Nat) (v8 : Value) (q : Nat) : Prop := q = lb ∨ q = gx ∨ v8.ownBlock = some q
theorem not_YG {lb gx q : Nat} {v8 : Value} (h1 : q ≠ lb) (h2 : q ≠ gx) (h3 : ∀ g, v8.ownBlock = some g → q ≠ g) : ¬ YG lb gx v8 q := fun h => by
  rcases h with h | h | h
  · exact h1 h
  · exact h2 h
  · exact h3 q h rfl
/-- the rounds over the needs of a request -/
structure GI (kp : Rt → Int) (tg : Int) (f0 : Rt → Int) (ns : List Nd) (M M2 lb gx cx : Nat) (v8 : Value) (gs : List Gr) (wA : World) (k : Nat) (wr : World) (s8 : Value) (f : Rt → Int) (done : List Nd) (gs1 : List Gr) : Prop where
  k1 : k ≤ ns.length
  dl : done.length = k
  eq : give1 kp tg f0 ns = ((give1 kp tg f (ns.drop k)).1, done ++ (give1 kp tg f (ns.drop k)).2.1, gs1 ++ (give1 kp tg f (ns.drop k)).2.2)
  mp : MapF wr lb (.int .i64 0) (fV f)
  fb : ∀ y, 0 ≤ f y ∧ f y ≤ 1000000
  gl : gs1.length ≤ k
  out : Own encGr 46 5 M2 wr s8 (gs ++ gs1)
  row : Own encNd 41 4 M wr (.slice (some ⟨gx, 0, none⟩) ns.length cx) (done ++ ns.drop k)
  fx : Fx (YG lb gx v8) wA wr
  ob : s8.ownBlock = v8.ownBlock ∨ ∀ g, s8.ownBlock = some g → wA.heap.size ≤ g
theorem own_av {base : Nat} {w : World} {g n c : Nat} {l : List AV} (h : Own encAV 29 6 base w (.slice (some ⟨g, 0, none⟩) n c) l) (hn : n = l.length) {k : Nat} (hk : k < l.length) :
    w.cell? ⟨g, k * 6, none⟩ = some (.int .i64 l[k].a.num) ∧ w.cell? ⟨g, k * 6 + 1, none⟩ = some (.int .i64 l[k].a.pri.1) ∧ w.cell? ⟨g, k * 6 + 2, none⟩ = some (.int .i64 l[k].a.pri.2.1) ∧ w.cell? ⟨g, k * 6 + 3, none⟩ = some (.int .i64 l[k].a.pri.2.2.1) ∧ w.cell? ⟨g, k * 6 + 4, none⟩ = some (.int .i64 l[k].a.pri.2.2.2) ∧ w.cell? ⟨g, k * 6 + 5, none⟩ = some l[k].v :=
  ⟨Own.cellAt encAV_len h hn hk (j := 0) (by omega), Own.cellAt encAV_len h hn hk (j := 1) (by omega), Own.cellAt encAV_len h hn hk (j := 2) (by omega), Own.cellAt encAV_len h hn hk (j := 3) (by omega), Own.cellAt encAV_len h hn hk (j := 4) (by omega), Own.cellAt encAV_len h hn hk (j := 5) (by omega)⟩
theorem own_nd {base : Nat} {w : World} {g n c : Nat} {l : List Nd} (h : Own encNd 41 4 base w (.slice (some ⟨g, 0, none⟩) n c) l) (hn : n = l.length) {k : Nat} (hk : k < l.length) {x1 x2 x3 x4 : Int} (hx : l[k] = ((x1, x2, x3), x4)) :
    w.cell? ⟨g, k * 4, none⟩ = some (.int .i64 x1) ∧ w.cell? ⟨g, k * 4 + 1, none⟩ = some (.int .i64 x2) ∧ w.cell? ⟨g, k * 4 + 2, none⟩ = some (.int .i64 x3) ∧ w.cell? ⟨g, k * 4 + 3, none⟩ = some (.int .i64 x4) := by
  have h0 := Own.cellAt encNd_len h hn hk (j := 0) (by omega)
  have h1 := Own.cellAt encNd_len h hn hk (j := 1) (by omega)
  have h2 := Own.cellAt encNd_len h hn hk (j := 2) (by omega)
  have h3 := Own.cellAt encNd_len h hn hk (j := 3) (by omega)
  rw [hx] at h0 h1 h2 h3
  exact ⟨h0, h1, h2, h3⟩
theorem at_k {α : Type} {done l : List α} {k : Nat} (hd : done.length = k) (hk : k < l.length) : ∃ h : k < (done ++ l.drop k).length, (done ++ l.drop k)[k] = l[k] := by
  refine ⟨by simp; omega, ?_⟩
  rw [List.getElem_append_right (by omega)]
  simp [hd]
/-- what Grants returns -/
def GrantsR (S : Nat → Prop) (w : World) (b mb : Nat) (r : Bk × List Gr) (e : Ending) (w' : World) : Prop := ∃ v, e = .returned v ∧ Own encGr 46 5 w.heap.size w' v r.2 ∧ BrW S w' b mb r.1 ∧ Fx (B2 b mb) w w'
set_option maxRecDepth 8000 in
set_option maxHeartbeats 16000000 in
theorem bGrants_any {S : Nat → Prop} {b mb : Nat} {s : Bk} {w : World} (has : List Nd) (vh : Value) (h : BrW S w b mb s) (hnew : ∀ k, w.heap.size ≤ k → S k) (hv : Sx S w vh has) :
    Calls Try.prog 15 #[.pointer (some ⟨b, 0, none⟩), vh] w (GrantsR S w b mb (grants s has)) := by
  obtain ⟨A, c, rfl, hc, hcm⟩ := hv.here.form
  have hmm := @run_makeMap Try.prog
  have hH := hid h
  have HV := hid hv
  have hblt := h.lt
  have hmlt := h.mlt
  clear h hv
  generalize hr : grants s has = r
  have HR := hid hr
  clear hr
  go_enter Try.func15, Try.ntmps15
  go_wp2_with fail
  refine (bValid_any _ has w HV.out.here).mono ?_
  rintro e w1 ⟨rfl, k1⟩
  cases hvl : validL has with
  | false =>
    obtain rfl : r = (s, []) := by rw [← HR.out, grants, hvl]; rfl
    go_wp2
    go_ret
    exact ⟨_, rfl, Own.nil _ _ _ _ _, hH.out.kp k1, k1.fx _⟩
  | true =>
    have HVL := hid ((validL_iff has).1 hvl)
    have HRR : Hid (r = (sH s (giveA s.own (amt has) s.heard (reqL s)).1, (giveA s.own (amt has) s.heard (reqL s)).2)) := hid (by rw [← HR.out, grants, hvl]; rfl)
    clear HR
    replace hvl := hid hvl
    have hM0 := MapF.new w1 (.int .i64 0)
    have kM := k1.alloc (.map #[] 0)
    have hlb := k1.size
    go_wp2_with fail
    generalize w1.alloc (.map #[] 0) = w2 at *
    generalize w1.heap.size = lb at *
    go_loopw [21] (fun i wr => ∃ k : Nat, k ≤ has.length ∧ i = .int .i64 k ∧ MapF wr lb (.int .i64 0) (fV (amt (has.take k).reverse)) ∧ Kp w wr) (fun i _ => has.length - (intOf i).toNat)
    case atStart => exact ⟨0, Nat.zero_le _, rfl, hM0, kM⟩
    case round =>
      clear hM0 kM
      obtain ⟨k, hk, rfl, hM, kr⟩ := hrel
      by_cases hlt : k < has.length
      · have hkl : (k : Int) < (has.length : Int) := by omega
        obtain ⟨g, o, rfl, hg, i0, i1, i2, i3⟩ := (HV.out.here.keep (pl_stable _) kr).nd hlt
        have hsn := hid (amt_snoc has k hlt)
        generalize has[k] = x at *
        obtain ⟨⟨x1, x2, x3⟩, x4⟩ := x
        dsimp only at i0 i1 i2 i3
        have hB := Bx.new wr #[.int .i64 x1, .int .i64 x2, .int .i64 x3, .int .i64 x4] 41
        have kb := (Kp.refl wr).alloc (.cells #[.int .i64 x1, .int .i64 x2, .int .i64 x3, .int .i64 x4] 41)
        have hMb := hM.kp kb
        go_upto_region 7 with (fail)
        generalize wr.alloc (.cells #[.int .i64 x1, .int .i64 x2, .int .i64 x3, .int .i64 x4] 41) = wb at *
        generalize wr.heap.size = bb at *
        have d0 := hB.cell (j := 0) rfl
        have d1 := hB.cell (j := 1) rfl
        have d2 := hB.cell (j := 2) rfl
        have d3 := hB.cell (j := 3) rfl
        obtain ⟨w3, hrun, hM3, hg3, hz3⟩ := hMb.put Try.underlying96 (x1, x2, x3) (.int .i64 x4)
        have k3 := (kr.trans kb).grown hg3 fun j hj => by cases hj; exact hlb
        have HZ3 := hid hz3
        clear hz3
        go_wp2_with (refine wpl_mapset rfl 96 (.tmp 25) (.tmp 27) (.tmp 29) rfl rfl rfl rfl hrun ?_)
        go_roundw
        case rel =>
          refine ⟨k + 1, by omega, by go_num, ?_, k3⟩
          refine cast ?_ hM3
          congr 1
          funext y
          dsimp only [fV]
          rw [hsn.out]
          by_cases hy : y = (x1, x2, x3)
          · rw [if_pos hy, if_pos hy]
          · rw [if_neg hy, if_neg hy]
        case measure => simp [intOf]; omega
      · have hkl : ¬ (k : Int) < (has.length : Int) := by omega
        obtain rfl : k = has.length := by omega
        have hM2 : MapF wr lb (.int .i64 0) (fV (amt has)) := by
          refine cast ?_ hM
          congr 1
          funext y
          dsimp only [fV]
          rw [List.take_length, amt_rev has HVL.out.2.1]
        have hbr := hH.out.kp kr
        have hlbM := hM.lt
        obtain ⟨w5, hw5⟩ : ∃ w5, w5 = wr := ⟨_, rfl⟩
        subst hw5
        clear hM hmm
        go_wp2_with fail
        refine (bRequests_any hbr).mono ?_
        rintro e w6 ⟨vl, l, rfl, har, hla, k6⟩
        obtain ⟨Al, cl, rfl, hlc, hlm⟩ := har.own.form
        have hll : l.length ≤ 5 := by have h1 := reqL_len hH.out.ok; rw [← hla, List.length_map] at h1; exact h1
        have hlt5 : ∀ x ∈ l, ∀ g, x.v.ownBlock = some g → w5.heap.size ≤ g ∧ g < w6.heap.size := fun x hx g hg => ⟨(har.nds x hx).ge g hg, (har.nds x hx).blk_lt g hg⟩
        have hrl5 : ∀ g, (Value.slice Al l.length cl).ownBlock = some g → w5.heap.size ≤ g ∧ g < w6.heap.size := fun g hg => ⟨har.own.ge g hg, har.own.blk_lt g hg⟩
        have h56 := k6.size
        have k06 := kr.trans k6
        have hwz := kr.size
        have hGO : GO S w b mb s (amt has) w5.heap.size w6.heap.size lb l (.slice Al l.length cl) 0 w6 (.slice none 0 0) (amt has) s.heard [] :=
          ⟨Nat.zero_le _, by simp, hM2.kp k6, amt_bound HVL.out.1, Nat.zero_le _, Own.nil _ _ _ _ _, (hH.out.to (T := Sj S w.heap.size []) (fun q hq hs => .inl ⟨hs, hq⟩) (fun e => by rcases e with ⟨e, -⟩ | ⟨x, hx, -⟩; exact hH.out.sb e; cases hx) (fun e => by rcases e with ⟨e, -⟩ | ⟨x, hx, -⟩; exact hH.out.sm e; cases hx)).kp k06, fun x hx => har.nds x (by simpa using hx), har.own, k06.fx _, Nat.le_refl _⟩
        have HLA := hid hla
        have HAP := hid har.apart
        have HRW := hid har.row
        have hz6 : lb < w6.heap.size := by omega
        clear har hM2 hbr hla
        go_wp2_with fail
        go_loopw [8, 34] (fun s8 i wr => ∃ (j : Nat) (f : Rt → Int) (H : Int → Option Ak) (gs : List Gr), i = .int .i64 (j : Int) ∧ GO S w b mb s (amt has) w5.heap.size w6.heap.size lb l (.slice Al l.length cl) j wr s8 f H gs) (fun _ i _ => l.length - (intOf i).toNat)
        case atStart => exact ⟨0, _, _, _, rfl, hGO⟩
        case round =>
          clear hGO
          obtain ⟨j, f, H, gs, rfl, hG⟩ := hrel
          obtain ⟨wo, hwo⟩ : ∃ wo, wo = wr := ⟨_, rfl⟩
          subst hwo
          have hj1 := hG.j1
          have HG := hid hG
          obtain ⟨A8, c8, rfl, h8c, h8m⟩ := hG.out.form
          have hrow := hG.row
          clear hG
          by_cases hlt : j < l.length
          · have hjl : (j : Int) < (l.length : Int) := by omega
            obtain ⟨gl, rfl, hgl1, hgl2⟩ := hrow.at_ (by omega)
            obtain ⟨e0, e1, e2, e3, e4, e5⟩ := own_av hrow rfl hlt
            have hmem : l[j] ∈ l := List.getElem_mem hlt
            have hnd := HG.out.nds l[j] (by rw [List.drop_eq_getElem_cons hlt]; exact List.mem_cons_self)
            have hreq : l[j].a ∈ reqL s := by rw [← HLA.out]; exact List.mem_map.2 ⟨_, hmem, rfl⟩
            have hxb := hlt5 l[j] hmem
            have HDR := hid (List.drop_eq_getElem_cons hlt)
            have HTK := hid (List.take_succ_eq_append_getElem hlt)
            have hap : ∀ y ∈ l.take j, y.v.ownBlock ≠ l[j].v.ownBlock := by
              have h1 := HAP.out
              rw [← List.take_append_drop j l, List.pairwise_append] at h1
              exact fun y hy => h1.2.2 y hy l[j] (by rw [List.drop_eq_getElem_cons hlt]; exact List.mem_cons_self)
            have hapd : ∀ y ∈ l.drop (j + 1), y.v.ownBlock ≠ l[j].v.ownBlock := by
              have h1 := HAP.out
              rw [← List.take_append_drop (j + 1) l, List.pairwise_append] at h1
              exact fun y hy => Ne.symm (h1.2.2 l[j] (by rw [List.take_succ_eq_append_getElem hlt]; exact List.mem_append_right _ (List.mem_singleton.2 rfl)) y hy)
            have hxrow := (HRW.out l[j] hmem).1
            generalize l[j] = x at *
            obtain ⟨⟨num, ⟨p1, p2, p3, p4⟩, ns⟩, xA, xn, xc⟩ := x
            dsimp only [AV.v] at *
            obtain ⟨hn0, hheard⟩ := (mem_reqL hH.out.ok _).1 hreq
            have hkey := hH.out.ok.key _ _ hheard
            have hvns : validL ns = true := by
              have h1 := hkey.2.2.2
              unfold validA at h1
              simp only [Bool.and_eq_true] at h1
              exact h1.1.2
            have HNS := hid ((validL_iff ns).1 hvns)
            have hnpos : 0 < ns.length := by
              unfold hasN at hn0
              simp only [ne_eq, decide_eq_true_eq] at hn0
              omega
            have hnl : ns.length ≤ 1024 := HNS.out.2.2
            obtain ⟨gx, cx, hxe, hxc, hxm, hgx1, hgx2⟩ := hnd.row hnpos
            injection hxe with hx1 hx2 hx3
            subst hx1 hx2 hx3
            have hgxM := hxb gx rfl
            have HREQ := hid hreq
            have HAPX := hid hap
            have HAPD := hid hapd
            have hxrow2 : gl ≠ gx := fun e => hxrow (by simp [Value.ownBlock, e])
            clear hxb hap hapd hxrow hreq hn0 hheard hkey hvns hmem
            have hB := Bx.new wo #[.int .i64 num, .int .i64 p1, .int .i64 p2, .int .i64 p3, .int .i64 p4, .slice (some ⟨gx, 0, none⟩) ns.length xc] 29
            have kA := (Kp.refl wo).alloc (.cells #[.int .i64 num, .int .i64 p1, .int .i64 p2, .int .i64 p3, .int .i64 p4, .slice (some ⟨gx, 0, none⟩) ns.length xc] 29)
            have hszo := HG.out.sz
            have hob8 := HG.out.out.blk_lt
            have hob8b := HG.out.out.ge
            go_upto_region 13 with (fail)
            have hzA : wo.heap.size < (wo.alloc (.cells #[.int .i64 num, .int .i64 p1, .int .i64 p2, .int .i64 p3, .int .i64 p4, .slice (some ⟨gx, 0, none⟩) ns.length xc] 29)).heap.size := by simp
            generalize wo.alloc (.cells #[.int .i64 num, .int .i64 p1, .int .i64 p2, .int .i64 p3, .int .i64 p4, .slice (some ⟨gx, 0, none⟩) ns.length xc] 29) = wA at *
            generalize hbx : wo.heap.size = bx at *
            have HBX := hid hbx
            have hGI : GI (fun y => keeps s.own y (p1, p2, p3, p4)) p3 f ns w5.heap.size w6.heap.size lb gx xc (.slice A8 gs.length c8) gs wA 0 wA (.slice A8 gs.length c8) f [] [] :=
              ⟨Nat.zero_le _, rfl, by simp, HG.out.mp.kp kA, HG.out.fb, Nat.zero_le _, by simpa using HG.out.out.kp kA, by simpa using hnd.kp kA, Fx.refl _ _, .inl rfl⟩
            have c5 := hB.cell (j := 5) rfl
            have c3 := hB.cell (j := 3) rfl
            clear hbx e0 e1 e2 e3 e4 e5 hrow hnd
            go_wp2_with fail
            go_loopw [8, 44] (fun s8 i wr => ∃ (k : Nat) (f' : Rt → Int) (done : List Nd) (gs1 : List Gr), i = .int .i64 (k : Int) ∧ GI (fun y => keeps s.own y (p1, p2, p3, p4)) p3 f ns w5.heap.size w6.heap.size lb gx xc (.slice A8 gs.length c8) gs wA k wr s8 f' done gs1) (fun _ i _ => ns.length - (intOf i).toNat)
            case atStart => exact ⟨0, _, _, _, rfl, hGI⟩
            case round =>
              clear hGI c5 c3
              obtain ⟨k, f', done, gs1, rfl, hI⟩ := hrel
              obtain ⟨wi, hwi⟩ : ∃ wi, wi = wr := ⟨_, rfl⟩
              subst hwi
              have hfx := hI.fx
              have hBi := hB.keep (hfx.block bx (by omega) (not_YG (by omega) (by omega) fun g hg => by have := hob8 g hg; omega))
              have hlbi := hI.mp.lt
              have hgxi := hI.row.blk_lt gx rfl
              have hzi := hfx.size
              have hbr : BrW (Sj S w.heap.size (l.take j)) wi b mb (sH s H) := by
                refine (HG.out.br.kp kA).fx hfx (fun q hq hy => ?_) (not_YG (by omega) (by omega) fun g hg => by have := hob8b g hg; omega) (not_YG (by omega) (by omega) fun g hg => by have := hob8b g hg; omega)
                rcases hq with ⟨-, hq⟩ | ⟨y, hy1, hy2⟩
                · rcases hy with e | e | e
                  · omega
                  · omega
                  · have := hob8b q e; omega
                · have h1 := hlt5 y (List.mem_of_mem_take hy1) q hy2
                  rcases hy with e | e | e
                  · omega
                  · exact HAPX.out y hy1 (by rw [hy2, e]; rfl)
                  · have := hob8b q e; omega
              have c5 := hBi.cell (j := 5) rfl
              have c1 := hBi.cell (j := 1) rfl
              have c2 := hBi.cell (j := 2) rfl
              have c3 := hBi.cell (j := 3) rfl
              have c4 := hBi.cell (j := 4) rfl
              have HI := hid hI
              obtain ⟨A9, c9, he9, h9c, h9m⟩ := hI.out.form
              obtain ⟨n9, hn9⟩ : ∃ n9, n9 = (gs ++ gs1).length := ⟨_, rfl⟩
              rw [← hn9] at he9 h9c
              subst he9
              have HN9 := hid hn9
              clear hn9
              clear hI hfx
              by_cases hlt2 : k < ns.length
              · have hkl2 : (k : Int) < (ns.length : Int) := by omega
                obtain ⟨hkk, hek⟩ := at_k HI.out.dl hlt2
                have HDK := hid (List.drop_eq_getElem_cons hlt2)
                have hokx := HNS.out.1 ns[k] (List.getElem_mem hlt2)
                generalize ns[k] = x at *
                obtain ⟨⟨x1, x2, x3⟩, x4⟩ := x
                obtain ⟨i0, i1, i2, i3⟩ := own_nd HI.out.row (by rw [List.length_append, HI.out.dl, List.length_drop]; omega) hkk hek
                have hx4 := okNd_amt hokx
                dsimp only at hx4
                clear hkk hek hokx
                have hD := Bx.new wi #[.int .i64 x1, .int .i64 x2, .int .i64 x3, .int .i64 x4] 41
                have kb := (Kp.refl wi).alloc (.cells #[.int .i64 x1, .int .i64 x2, .int .i64 x3, .int .i64 x4] 41)
                have hzb : wi.heap.size < (wi.alloc (.cells #[.int .i64 x1, .int .i64 x2, .int .i64 x3, .int .i64 x4] 41)).heap.size := by simp
                go_upto_region 17 with (fail)
                generalize wi.alloc (.cells #[.int .i64 x1, .int .i64 x2, .int .i64 x3, .int .i64 x4] 41) = wb at *
                generalize hby : wi.heap.size = byb at *
                have HBY := hid hby
                clear hby
                have hBb := hBi.keep (kb.block (by have := HBY.out; omega))
                have hbrb := hbr.kp kb
                have hMb := HI.out.mp.kp kb
                have hlbb : lb < wb.heap.size := hMb.lt
                have hkpb := keeps_bound hH.out.ok (x1, x2, x3) (p1, p2, p3, p4)
                obtain ⟨kx, hkx⟩ : ∃ kx, keeps s.own (x1, x2, x3) (p1, p2, p3, p4) = kx := ⟨_, rfl⟩
                rw [hkx] at hkpb
                have HKX : Hid (keeps (sH s H).own (x1, x2, x3) (p1, p2, p3, p4) = kx) := hid hkx
                have hfb := HI.out.fb (x1, x2, x3)
                obtain ⟨fx, hfx⟩ : ∃ fx, f' (x1, x2, x3) = fx := ⟨_, rfl⟩
                rw [hfx] at hfb
                have HFX := hid hfx
                have hlook : ∀ W, Kp wb W → Sem.run Try.prog (Instr.lookup 96 (.map (some lb)) (.agg #[.int .i64 x1, .int .i64 x2, .int .i64 x3]) false) W = .ok (.int .i64 fx) W := fun W kW => by
                  rw [← HFX.out]
                  exact (hMb.kp kW).look Try.underlying96 (zeroI W) (x1, x2, x3)
                have z1 : IntKind.i64.wrap (fx - kx) = fx - kx := IntWalk.i64_in _ (by omega)
                have z2 : wrap64 (fx - kx) = fx - kx := IntWalk.wrap64_in _ (by omega)
                have HZ1 := hid (And.intro z1 z2)
                have d0 := hD.cell (j := 0) rfl
                have d1 := hD.cell (j := 1) rfl
                have d2 := hD.cell (j := 2) rfl
                have d3 := hD.cell (j := 3) rfl
                have b1 := hBb.cell (j := 1) rfl
                have b2 := hBb.cell (j := 2) rfl
                have b3 := hBb.cell (j := 3) rfl
                have b4 := hBb.cell (j := 4) rfl
                clear hkx hfx z1 z2 c1 c2 c3 c4 c5 i0 i1 i2 i3
                refine G2.wp_region_growT Kp [] 14 105 (G2.pvL [G2.eqv (.map (some lb)), G2.eqv (.pointer (some ⟨byb, 0, none⟩)), G2.eqv (.agg #[.int .i64 x1, .int .i64 x2, .int .i64 x3]), G2.eqv (.int .i64 fx), G2.eqv (.pointer (some ⟨b, 0, none⟩)), G2.eqv (.pointer (some ⟨byb, 0, none⟩)), G2.eqv (.agg #[.int .i64 x1, .int .i64 x2, .int .i64 x3]), G2.eqv (.pointer (some ⟨bx, 1, none⟩)), G2.eqv (.agg #[.int .i64 p1, .int .i64 p2, .int .i64 p3, .int .i64 p4]), G2.eqv (.int .i64 kx), G2.eqv (.int .i64 (fx - kx)), G2.eqv (.pointer (some ⟨byb, 3, none⟩)), G2.eqv (.int .i64 x4), G2.eqv (.int .i64 (min (fx - kx) x4))]) (by kernel_rfl) (by kernel_rfl) rfl (fun x => Kp.refl x) (fun _ _ _ h k => h.trans k) (Kp.refl _).drew (fun _ _ _ _ _ h => h) (G2.pvL_keep (G2.stabL_cons (G2.stab_eq _) (G2.stabL_cons (G2.stab_eq _) (G2.stabL_cons (G2.stab_eq _) (G2.stabL_cons (G2.stab_eq _) (G2.stabL_cons (G2.stab_eq _) (G2.stabL_cons (G2.stab_eq _) (G2.stabL_cons (G2.stab_eq _) (G2.stabL_cons (G2.stab_eq _) (G2.stabL_cons (G2.stab_eq _) (G2.stabL_cons (G2.stab_eq _) (G2.stabL_cons (G2.stab_eq _) (G2.stabL_cons (G2.stab_eq _) (G2.stabL_cons (G2.stab_eq _) (G2.stabL_cons (G2.stab_eq _) (G2.stabL_nil)))))))))))))))) (G2.stepsT_cons 0 ?_ (G2.stepsT_cons 1 ?_ (G2.stepsT_cons 2 ?_ (G2.stepsT_cons 3 ?_ (G2.stepsT_cons 4 ?_ (G2.stepsT_cons 5 ?_ (G2.stepsT_cons 6 ?_ (G2.stepsT_cons 7 ?_ (G2.stepsT_cons 8 ?_ (G2.stepsT_cons 9 ?_ (G2.stepsT_cons 10 ?_ (G2.stepsT_cons 11 ?_ (G2.stepsT_cons 12 ?_ (G2.stepsT_cons 13 ?_ (G2.stepsT_nil _ _ _))))))))))))))) ?_ ?_
                · intro a w' hk hF hD K hK
                  have h5 : a.tmps[5]?.getD undef = .map (some lb) := hF 5 (by kernel_rfl)
                  clear hF hD
                  go_simp
                  exact hK.out _ _ (Kp.refl _) rfl
                · intro a w' hk hF hD K hK
                  have h13 : a.tmps[13]?.getD undef = .pointer (some ⟨byb, 0, none⟩) := hF 13 (by kernel_rfl)
                  clear hF hD
                  go_simp
                  exact hK.out _ _ (Kp.refl _) rfl
                · intro a w' hk hF hD K hK
                  have h50 : a.tmps[50]?.getD undef = .pointer (some ⟨byb, 0, none⟩) := hD 1 (by kernel_rfl)
                  clear hF hD
                  have z0 := hk.cellS d0
                  have z1 := hk.cellS d1
                  have z2 := hk.cellS d2
                  go_simp
                  exact hK.out _ _ (Kp.refl _) rfl
                · intro a w' hk hF hD K hK
                  have h49 : a.tmps[49]?.getD undef = .map (some lb) := hD 0 (by kernel_rfl)
                  have h51 : a.tmps[51]?.getD undef = .agg #[.int .i64 x1, .int .i64 x2, .int .i64 x3] := hD 2 (by kernel_rfl)
                  clear hF hD
                  have z0 := hlook _ hk
                  go_simp
                  exact hK.out _ _ (Kp.refl _) rfl
                · intro a w' hk hF hD K hK
                  have h0 : a.tmps[0]?.getD undef = .pointer (some ⟨b, 0, none⟩) := hF 0 (by kernel_rfl)
                  clear hF hD
                  go_simp
                  exact hK.out _ _ (Kp.refl _) rfl
                · intro a w' hk hF hD K hK
                  have h13 : a.tmps[13]?.getD undef = .pointer (some ⟨byb, 0, none⟩) := hF 13 (by kernel_rfl)
                  clear hF hD
                  go_simp
                  exact hK.out _ _ (Kp.refl _) rfl
                · intro a w' hk hF hD K hK
                  have h54 : a.tmps[54]?.getD undef = .pointer (some ⟨byb, 0, none⟩) := hD 5 (by kernel_rfl)
                  clear hF hD
                  have z0 := hk.cellS d0
                  have z1 := hk.cellS d1
                  have z2 := hk.cellS d2
                  go_simp
                  exact hK.out _ _ (Kp.refl _) rfl
                · intro a w' hk hF hD K hK
                  have h10 : a.tmps[10]?.getD undef = .pointer (some ⟨bx, 0, none⟩) := hF 10 (by kernel_rfl)
                  clear hF hD
                  go_simp
                  exact hK.out _ _ (Kp.refl _) rfl
                · intro a w' hk hF hD K hK
                  have h56 : a.tmps[56]?.getD undef = .pointer (some ⟨bx, 1, none⟩) := hD 7 (by kernel_rfl)
                  clear hF hD
                  have z0 := hk.cellS b1
                  have z1 := hk.cellS b2
                  have z2 := hk.cellS b3
                  have z3 := hk.cellS b4
                  go_simp
                  exact hK.out _ _ (Kp.refl _) rfl
                · intro a w' hk hF hD K hK
                  have h53 : a.tmps[53]?.getD undef = .pointer (some ⟨b, 0, none⟩) := hD 4 (by kernel_rfl)
                  have h55 : a.tmps[55]?.getD undef = .agg #[.int .i64 x1, .int .i64 x2, .int .i64 x3] := hD 6 (by kernel_rfl)
                  have h57 : a.tmps[57]?.getD undef = .agg #[.int .i64 p1, .int .i64 p2, .int .i64 p3, .int .i64 p4] := hD 8 (by kernel_rfl)
                  clear hF hD
                  go_simp
                  refine (bKeeps_any (x1, x2, x3) (p1, p2, p3, p4) (hbrb.kp hk)).mono ?_
                  rintro e w9 ⟨rfl, hk9⟩
                  rw [HKX.out]
                  exact hK.out _ _ hk9 rfl
                · intro a w' hk hF hD K hK
                  have h52 : a.tmps[52]?.getD undef = .int .i64 fx := hD 3 (by kernel_rfl)
                  have h58 : a.tmps[58]?.getD undef = .int .i64 kx := hD 9 (by kernel_rfl)
                  clear hF hD
                  have z1 := HZ1.out.1
                  have z2 := HZ1.out.2
                  go_simp
                  exact hK.out _ _ (Kp.refl _) rfl
                · intro a w' hk hF hD K hK
                  have h13 : a.tmps[13]?.getD undef = .pointer (some ⟨byb, 0, none⟩) := hF 13 (by kernel_rfl)
                  clear hF hD
                  go_simp
                  exact hK.out _ _ (Kp.refl _) rfl
                · intro a w' hk hF hD K hK
                  have h60 : a.tmps[60]?.getD undef = .pointer (some ⟨byb, 3, none⟩) := hD 11 (by kernel_rfl)
                  clear hF hD
                  have z0 := hk.cellS d3
                  go_simp
                  exact hK.out _ _ (Kp.refl _) rfl
                · intro a w' hk hF hD K hK
                  have h59 : a.tmps[59]?.getD undef = .int .i64 (fx - kx) := hD 10 (by kernel_rfl)
                  have h61 : a.tmps[61]?.getD undef = .int .i64 x4 := hD 12 (by kernel_rfl)
                  clear hF hD
                  go_simp
                  exact hK.out _ _ (Kp.refl _) rfl
                · exact fun i0 hi0 => by simp at hi0
                intro v w9 k9 hv
                have v13 : v 13 = .int .i64 (min (fx - kx) x4) := hv 13 (by omega)
                clear hv
                simp only [G2.growPut, G2.gSlot, List.getElem?_toArray, List.getElem?_cons_zero, List.getElem?_cons_succ, Option.bind_some, List.setIfInBounds_toArray, List.set_cons_zero, List.set_cons_succ, List.drop_succ_cons, List.drop_zero, v13]
                clear d0 d1 d2 d3 b1 b2 b3 b4 hlook
                generalize hm : min (fx - kx) x4 = m at *
                obtain ⟨wq, hwq⟩ : ∃ wq, wq = w9 := ⟨_, rfl⟩
                subst hwq
                have kbq := kb.trans k9
                have hmle : m ≤ fx - kx ∧ m ≤ x4 := by omega
                have HMM := hid hm
                have hDq := hD.keep (k9.block (by omega))
                have hBq := hBb.keep (k9.block (by omega))
                have hzq := k9.size
                clear hm hD hBb hbrb hMb hbr hBi
                by_cases hm0 : m ≤ 0
                · have em : decide (m ≤ 0) = true := decide_eq_true hm0
                  have hstep : GI (fun y => keeps s.own y (p1, p2, p3, p4)) p3 f ns w5.heap.size w6.heap.size lb gx xc (.slice A8 gs.length c8) gs wA (k + 1) wq (.slice A9 n9 c9) f' (done ++ [((x1, x2, x3), x4)]) gs1 := by
                    have hI := HI.out
                    refine ⟨by omega, by simp [hI.dl], ?_, hI.mp.kp kbq, hI.fb, by have := hI.gl; omega, hI.out.kp kbq, ?_, hI.fx.trans (kbq.fx _), hI.ob⟩
                    · rw [hI.eq, HDK.out, give1_le (by dsimp only; rw [HFX.out]; have h1 := HKX.out; dsimp only at h1; rw [h1, HMM.out]; exact hm0)]
                      simp
                    · have h1 := hI.row.kp kbq
                      rw [HDK.out] at h1
                      simpa using h1
                  clear HI
                  go_wp2
                  go_roundw
                  case rel => exact ⟨k + 1, _, _, _, by go_num, hstep⟩
                  case measure => simp [intOf]; omega
                · have em : decide (m ≤ 0) = false := decide_eq_false hm0
                  have hMq := HI.out.mp.kp kbq
                  obtain ⟨nst, hent⟩ := hMq.entry Try.underlying96 (x1, x2, x3) (by
                    dsimp only [fV]
                    rw [HFX.out]
                    intro e
                    injection e with e1 e2
                    omega)
                  have hlbq : lb < wq.heap.size := by omega
                  have hent2 : ∀ W, Kp wq W → Sem.run Try.prog (Instr.mapEntry 96 (.map (some lb)) (.agg #[.int .i64 x1, .int .i64 x2, .int .i64 x3])) W = .ok (.tuple #[.int .i64 fx, .int .i64 (nst : Int)]) W := fun W kW => by
                    rw [← HFX.out]
                    exact (hent W (kW.block hlbq)).1
                  have hlook : ∀ W, Kp wq W → Sem.run Try.prog (Instr.lookup 96 (.map (some lb)) (.agg #[.int .i64 x1, .int .i64 x2, .int .i64 x3]) false) W = .ok (.int .i64 fx) W := fun W kW => by
                    rw [← HFX.out]
                    exact (hMq.kp kW).look Try.underlying96 (zeroI W) (x1, x2, x3)
                  have HZ2 := hid (And.intro (IntWalk.i64_in (fx - m) (by omega)) (IntWalk.wrap64_in (fx - m) (by omega)))
                  have d0 := hDq.cell (j := 0) rfl
                  have d1 := hDq.cell (j := 1) rfl
                  have d2 := hDq.cell (j := 2) rfl
                  have HENT := hid hent
                  clear hent
                  go_upto_region 19 with (fail)
                  refine G2.wp_region_growT Kp [] 8 105 (G2.pvL [G2.eqv (.map (some lb)), G2.eqv (.pointer (some ⟨byb, 0, none⟩)), G2.eqv (.agg #[.int .i64 x1, .int .i64 x2, .int .i64 x3]), G2.eqv (.int .i64 fx), G2.eqv (.int .i64 m), G2.eqv (.int .i64 (fx - m)), G2.eqv (.tuple #[.int .i64 fx, .int .i64 (nst : Int)]), G2.eqv (.int .i64 (nst : Int))]) (by kernel_rfl) (by kernel_rfl) rfl (fun x => Kp.refl x) (fun _ _ _ h k => h.trans k) (Kp.refl _).drew (fun _ _ _ _ _ h => h) (G2.pvL_keep (G2.stabL_cons (G2.stab_eq _) (G2.stabL_cons (G2.stab_eq _) (G2.stabL_cons (G2.stab_eq _) (G2.stabL_cons (G2.stab_eq _) (G2.stabL_cons (G2.stab_eq _) (G2.stabL_cons (G2.stab_eq _) (G2.stabL_cons (G2.stab_eq _) (G2.stabL_cons (G2.stab_eq _) (G2.stabL_nil)))))))))) (G2.stepsT_cons 0 ?_ (G2.stepsT_cons 1 ?_ (G2.stepsT_cons 2 ?_ (G2.stepsT_cons 3 ?_ (G2.stepsT_cons 4 ?_ (G2.stepsT_cons 5 ?_ (G2.stepsT_cons 6 ?_ (G2.stepsT_cons 7 ?_ (G2.stepsT_nil _ _ _))))))))) ?_ ?_
                  · intro a w' hk hF hD K hK
                    have h5 : a.tmps[5]?.getD undef = .map (some lb) := hF 5 (by kernel_rfl)
                    clear hF hD
                    go_simp
                    exact hK.out _ _ (Kp.refl _) rfl
                  · intro a w' hk hF hD K hK
                    have h13 : a.tmps[13]?.getD undef = .pointer (some ⟨byb, 0, none⟩) := hF 13 (by kernel_rfl)
                    clear hF hD
                    go_simp
                    exact hK.out _ _ (Kp.refl _) rfl
                  · intro a w' hk hF hD K hK
                    have h66 : a.tmps[66]?.getD undef = .pointer (some ⟨byb, 0, none⟩) := hD 1 (by kernel_rfl)
                    clear hF hD
                    have z0 := hk.cellS d0
                    have z1 := hk.cellS d1
                    have z2 := hk.cellS d2
                    go_simp
                    exact hK.out _ _ (Kp.refl _) rfl
                  · intro a w' hk hF hD K hK
                    have h65 : a.tmps[65]?.getD undef = .map (some lb) := hD 0 (by kernel_rfl)
                    have h67 : a.tmps[67]?.getD undef = .agg #[.int .i64 x1, .int .i64 x2, .int .i64 x3] := hD 2 (by kernel_rfl)
                    clear hF hD
                    have z0 := hlook _ hk
                    go_simp
                    exact hK.out _ _ (Kp.refl _) rfl
                  · intro a w' hk hF hD K hK
                    have h14 : a.tmps[14]?.getD undef = .int .i64 m := hF 14 (by kernel_rfl)
                    clear hF hD
                    go_simp
                    exact hK.out _ _ (Kp.refl _) rfl
                  · intro a w' hk hF hD K hK
                    have h68 : a.tmps[68]?.getD undef = .int .i64 fx := hD 3 (by kernel_rfl)
                    have h69 : a.tmps[69]?.getD undef = .int .i64 m := hD 4 (by kernel_rfl)
                    clear hF hD
                    have z1 := HZ2.out.1
                    have z2 := HZ2.out.2
                    go_simp
                    exact hK.out _ _ (Kp.refl _) rfl
                  · intro a w' hk hF hD K hK
                    have h65 : a.tmps[65]?.getD undef = .map (some lb) := hD 0 (by kernel_rfl)
                    have h67 : a.tmps[67]?.getD undef = .agg #[.int .i64 x1, .int .i64 x2, .int .i64 x3] := hD 2 (by kernel_rfl)
                    clear hF hD
                    have z0 := hent2 _ hk
                    go_simp
                    exact hK.out _ _ (Kp.refl _) rfl
                  · intro a w' hk hF hD K hK
                    have h71 : a.tmps[71]?.getD undef = .tuple #[.int .i64 fx, .int .i64 (nst : Int)] := hD 6 (by kernel_rfl)
                    clear hF hD
                    go_simp
                    exact hK.out _ _ (Kp.refl _) rfl
                  · exact fun i0 hi0 => by simp at hi0
                  intro v w9 k9 hv
                  have v0 : v 0 = .map (some lb) := hv 0 (by omega)
                  have v7 : v 7 = .int .i64 (nst : Int) := hv 7 (by omega)
                  have v5 : v 5 = .int .i64 (fx - m) := hv 5 (by omega)
                  clear hv
                  simp only [G2.growPut, G2.gSlot, List.getElem?_toArray, List.getElem?_cons_zero, List.getElem?_cons_succ, Option.bind_some, List.setIfInBounds_toArray, List.set_cons_zero, List.set_cons_succ, List.drop_succ_cons, List.drop_zero, v0, v7, v5]
                  clear d0 d1 d2 hlook hent2
                  obtain ⟨w19, hrun, hM19, kg19, hz19⟩ := (HENT.out w9 (k9.block hlbq)).2 (.int .i64 (fx - m))
                  have kb9 := kbq.trans k9
                  have hz9 := k9.size
                  have hbyz := HBY.out
                  have hbxy : bx < byb := by omega
                  have hB19 := (hBq.keep (k9.block (by omega))).keep (kg19.block bx (by omega) (by simp; omega))
                  have hD19 := (hDq.keep (k9.block (by omega))).keep (kg19.block byb (by omega) (by simp; omega))
                  have row19 := (HI.out.row.kp kb9).kg kg19 hlbM
                  have out19 := (HI.out.out.kp kb9).kg kg19 (by omega)
                  have hlen19 : ns.length = (done ++ ns.drop k).length := by rw [List.length_append, HI.out.dl, List.length_drop]; omega
                  have HLEN := hid hlen19
                  have hkk : k < (done ++ ns.drop k).length := by omega
                  have hek : (done ++ ns.drop k)[k] = ((x1, x2, x3), x4) := by
                    rw [List.getElem_append_right (by rw [HI.out.dl]; exact Nat.le_refl _)]
                    simp [HI.out.dl, HDK.out]
                  obtain ⟨i0, i1, i2, i3⟩ := own_nd row19 hlen19 hkk hek
                  have f3 := row19.frozen hlen19 (k * 4 + 3)
                  have row20 : Own encNd 41 4 w5.heap.size (w19.setCell ⟨gx, k * 4 + 3, none⟩ (.int .i64 (x4 - m))) (.slice (some ⟨gx, 0, none⟩) ns.length xc) ((done ++ [((x1, x2, x3), x4 - m)]) ++ ns.drop (k + 1)) := by
                    have h1 := row19
                    rw [hlen19] at h1
                    have h2 := Own.set (k := k) (j := 3) (u := .int .i64 (x4 - m)) (x := ((x1, x2, x3), x4 - m)) encNd_len h1 hkk (by omega) (fun h => by rw [hek]; rfl)
                    have h3 : (done ++ ns.drop k).set k ((x1, x2, x3), x4 - m) = (done ++ [((x1, x2, x3), x4 - m)]) ++ ns.drop (k + 1) := by
                      rw [List.set_append_right _ _ (by rw [HI.out.dl]; exact Nat.le_refl _), HI.out.dl, Nat.sub_self, HDK.out]
                      simp
                    rw [h3, ← hlen19] at h2
                    exact h2
                  have kg20 := (Kg.refl w19 gx).set (p := ⟨gx, k * 4 + 3, none⟩) (.inl rfl) (.int .i64 (x4 - m))
                  have HZ3 := hid (And.intro (IntWalk.i64_in (x4 - m) (by omega)) (IntWalk.wrap64_in (x4 - m) (by omega)))
                  have z1 := HZ3.out.1
                  have z2 := HZ3.out.2
                  have c5 := hB19.cell (j := 5) rfl
                  have HZ19 := hid hz19
                  clear hz19 hbyz hek hlen19 hkk
                  go_upto_region 20 with (refine wpl_entrystore rfl 96 (.tmp 65) (.tmp 72) (.tmp 70) rfl rfl rfl rfl hrun ?_)
                  go_upto_region 21 with (fail)
                  have hz20 := set_size w19 ⟨gx, k * 4 + 3, none⟩ (.int .i64 (x4 - m))
                  have hszA : w6.heap.size ≤ w19.heap.size := by have := HZ19.out; have := HBY.out; omega
                  have hszB : byb < w19.heap.size := by have := HZ19.out; omega
                  have hsb20 : w6.heap.size ≤ (w19.setCell ⟨gx, k * 4 + 3, none⟩ (.int .i64 (x4 - m))).heap.size := by omega
                  have hD20 := hD19.keep (set_block w19 ⟨gx, k * 4 + 3, none⟩ (.int .i64 (x4 - m)) byb (by show byb ≠ gx; omega))
                  have hM20 := hM19.keep (set_block w19 ⟨gx, k * 4 + 3, none⟩ (.int .i64 (x4 - m)) lb (by show lb ≠ gx; omega))
                  have out20 := out19.kg kg20 (by omega)
                  have hmono20 : wA.heap.size ≤ (w19.setCell ⟨gx, k * 4 + 3, none⟩ (.int .i64 (x4 - m))).heap.size := by have := HZ19.out; have := HBY.out; omega
                  clear hz20 z1 z2
                  generalize w19.setCell ⟨gx, k * 4 + 3, none⟩ (.int .i64 (x4 - m)) = w20 at *
                  have d0 := hD20.cell (j := 0) rfl
                  have d1 := hD20.cell (j := 1) rfl
                  have d2 := hD20.cell (j := 2) rfl
                  have k21 := (Kp.refl w20).alloc (.cells #[.int .i64 p3, .int .i64 x1, .int .i64 x2, .int .i64 x3, .int .i64 m] 46)
                  have hglA := HG.out.gl
                  have hglB := HI.out.gl
                  have out21 := out20.kp k21
                  have hsrc : Sl (Pl encGr) 5 (w20.alloc (.cells #[.int .i64 p3, .int .i64 x1, .int .i64 x2, .int .i64 x3, .int .i64 m] 46)) (.slice (some ⟨w20.heap.size, 0, none⟩) 1 1) [(p3, (x1, x2, x3), m)] :=
                    Sl.one (R := Pl encGr) w20 [.int .i64 p3, .int .i64 x1, .int .i64 x2, .int .i64 x3, .int .i64 m] 46 5 _ rfl rfl
                  have hszC : w6.heap.size ≤ (w20.alloc (.cells #[.int .i64 p3, .int .i64 x1, .int .i64 x2, .int .i64 x3, .int .i64 m] 46)).heap.size := by simp; omega
                  have hszD : wA.heap.size ≤ (w20.alloc (.cells #[.int .i64 p3, .int .i64 x1, .int .i64 x2, .int .i64 x3, .int .i64 m] 46)).heap.size := by simp; omega
                  have hlA : (gs ++ gs1).length + [((p3, (x1, x2, x3), m) : Gr)].length ≤ 4611686018427387904 := by simp; omega
                  have hlB : ((gs ++ gs1).length + [((p3, (x1, x2, x3), m) : Gr)].length) * 40 ≤ 140737488355328 := by simp; omega
                  go_wp2_with (at_builtin; go_loud (refine wpl_append_flat rfl (.tmp 83) (.tmp 90) rfl stgr encGr_len encGr_one rfl out21 rfl hsrc hlA hlB hszC ?_); intro v22 w22 hown22 hgrow22 hat22 hnil22)
                  have hfxA : Fx (YG lb gx (.slice A8 gs.length c8)) wA (w20.alloc (.cells #[.int .i64 p3, .int .i64 x1, .int .i64 x2, .int .i64 x3, .int .i64 m] 46)) :=
                    ((((HI.out.fx.trans (kb9.fx _)).trans (kg19.fx (.inl (.inl rfl)))).trans (kg20.fx (.inl (.inr (.inl rfl))))).trans (k21.fx _))
                  have hgo : ∀ g, (Value.slice A9 n9 c9).ownBlock = some g → YG lb gx (.slice A8 gs.length c8) g ∨ wA.heap.size ≤ g := fun g hg => by
                    rcases HI.out.ob with h1 | h1
                    · exact .inl (.inr (.inr (by rw [← h1, hg])))
                    · exact .inr (h1 g hg)
                  have hge21 := out21.ge
                  have hstep : GI (fun y => keeps s.own y (p1, p2, p3, p4)) p3 f ns w5.heap.size w6.heap.size lb gx xc (.slice A8 gs.length c8) gs wA (k + 1) w22 v22 (setF f' (x1, x2, x3) (fx - m)) (done ++ [((x1, x2, x3), x4 - m)]) (gs1 ++ [(p3, (x1, x2, x3), m)]) := by
                    have hI := HI.out
                    refine ⟨by omega, by simp [hI.dl], ?_, ?_, fun y => ?_, by simp; omega, by simpa using hown22, World.ownsRow.kept (row20.kp k21) hgrow22 (.inr fun e => by have := hge21 gx e.symm; omega), hfxA.grown hgrow22 hgo, ?_⟩
                    · rw [hI.eq, HDK.out, give1_gt (m := m) (by dsimp only; rw [HFX.out]; have h1 := HKX.out; dsimp only at h1; rw [h1, HMM.out]) hm0]
                      dsimp only
                      rw [HFX.out]
                      simp
                    · have h1 := (hM20.kp k21).keep (hgrow22.block lb ((hM20.kp k21).lt) (fun e => by have := hge21 lb e.symm; omega))
                      refine cast ?_ h1
                      congr 1
                      funext y
                      dsimp only [fV, setF]
                      by_cases hy : y = (x1, x2, x3)
                      · rw [if_pos hy, if_pos hy]
                      · rw [if_neg hy, if_neg hy]
                    · have := hI.fb y
                      unfold setF
                      split <;> omega
                    · rcases hat22 with h1 | h1
                      · rw [h1]; exact hI.ob
                      · right
                        intro g hg
                        rw [h1] at hg
                        injection hg with hg
                        omega
                  clear hgrow22 hat22 hnil22 hsrc out21 out20 HI
                  go_roundw
                  case rel => exact ⟨k + 1, _, _, _, by go_num, hstep⟩
                  case measure => simp [intOf]; omega
              · have hkl2 : ¬ (k : Int) < (ns.length : Int) := by omega
                have hke : k = ns.length := by have := HI.out.k1; omega
                have HE : Hid (give1 (fun y => keeps s.own y (p1, p2, p3, p4)) p3 f ns = (f', done, gs1)) := hid (by
                  rw [HI.out.eq, hke, List.drop_of_length_le (Nat.le_refl _)]
                  simp [give1])
                have hdl : done.length = ns.length := by rw [HI.out.dl, hke]
                have rowi : Own encNd 41 4 w5.heap.size wi (.slice (some ⟨gx, 0, none⟩) ns.length xc) done := by
                  have h1 := HI.out.row
                  rw [hke, List.drop_of_length_le (Nat.le_refl _), List.append_nil] at h1
                  exact h1
                have hdel := DeleteNd_any (fun r => r.2 == 0) 47 (some ⟨gx, 0, none⟩) xc w5.heap.size done wi (by rw [hdl]; exact rowi) ⟨_, Try.func47, by kernel_rfl, by kernel_rfl⟩ (fun w' x1 x2 x3 x4 => bGrants1_any x1 x2 x3 x4 w')
                rw [hdl] at hdel
                have HDEL := hid hdel
                have HDL := hid hdl
                have hszi : w6.heap.size ≤ wi.heap.size := by omega
                have hmpi := HI.out.mp
                have houti := HI.out.out
                have hobi := HI.out.ob
                have hfxi := HI.out.fx
                have hfbi := HI.out.fb
                have hgli := HI.out.gl
                have HKE := hid hke
                clear hdel hdl hke rowi HI c1 c2 c3 c4
                go_wp2_with fail
                refine HDEL.out.mono ?_
                rintro e w7 ⟨v7, rfl, ⟨A7, n7, c7, rfl⟩, hsx7, hg7⟩
                have hz7 := hg7.size
                have hB7 := hBi.keep (hg7.block bx (by omega) (by simp [Value.ownBlock]; omega))
                clear c5
                have c5 := hB7.cell (j := 5) rfl
                have f5 := hB7.free (j := 5) (by simp)
                have hB8 := hB7.set (j := 5) (by simp) (.slice A7 n7 c7)
                simp only [List.set_cons_zero, List.set_cons_succ] at hB8
                have kg8 := (Kg.refl w7 bx).set (p := ⟨bx, 5, none⟩) (.inl rfl) (.slice A7 n7 c7)
                have hz8 := set_size w7 ⟨bx, 5, none⟩ (.slice A7 n7 c7)
                have hszi8 : w6.heap.size ≤ (w7.setCell ⟨bx, 5, none⟩ (.slice A7 n7 c7)).heap.size := by omega
                have hbx8 : bx < (w7.setCell ⟨bx, 5, none⟩ (.slice A7 n7 c7)).heap.size := by omega
                have HZ8 := hid hz8
                clear hz8
                go_upto_region 24 with (fail)
                generalize w7.setCell ⟨bx, 5, none⟩ (.slice A7 n7 c7) = w8 at *
                have nSj : ∀ q, Sj S w.heap.size (l.take j) q → q ≠ gx ∧ q ≠ bx := fun q hq => by
                  rcases hq with ⟨-, hq⟩ | ⟨y, hy1, hy2⟩
                  · omega
                  · have h1 := hlt5 y (List.mem_of_mem_take hy1) q hy2
                    refine ⟨fun e => HAPX.out y hy1 (by rw [hy2, e]; rfl), by have := HBX.out; omega⟩
                have hbr8 : BrW (Sj S w.heap.size (l.take j)) w8 b mb (sH s H) := by
                  have h1 := hbr.fx (hg7.fxg gx rfl) (fun q hq => (nSj q hq).1) (by omega) (by omega)
                  exact h1.fx (X := fun q => q = bx) (kg8.fx (.inl rfl)) (fun q hq => (nSj q hq).2) (by omega) (by omega)
                obtain ⟨ov8, hbx8', -⟩ := hbr8.box
                have e4 := hbx8'.cell (j := 4) rfl
                have d0 := hB8.cell (j := 0) rfl
                have d1 := hB8.cell (j := 1) rfl
                have d2 := hB8.cell (j := 2) rfl
                have d3 := hB8.cell (j := 3) rfl
                have d4 := hB8.cell (j := 4) rfl
                have d5 := hB8.cell (j := 5) rfl
                refine G2.wp_region_growT Kp [] 6 105 (G2.pvL [G2.eqv (.pointer (some ⟨b, 0, none⟩)), G2.eqv (.pointer (some ⟨b, 0, none⟩)), G2.eqv (.pointer (some ⟨b, 4, none⟩)), G2.eqv (.map (some mb)), G2.eqv (.int .i64 p3), G2.eqv (.agg #[.int .i64 num, .int .i64 p1, .int .i64 p2, .int .i64 p3, .int .i64 p4, .slice A7 n7 c7])]) (by kernel_rfl) (by kernel_rfl) rfl (fun x => Kp.refl x) (fun _ _ _ h k => h.trans k) (Kp.refl _).drew (fun _ _ _ _ _ h => h) (G2.pvL_keep (G2.stabL_cons (G2.stab_eq _) (G2.stabL_cons (G2.stab_eq _) (G2.stabL_cons (G2.stab_eq _) (G2.stabL_cons (G2.stab_eq _) (G2.stabL_cons (G2.stab_eq _) (G2.stabL_cons (G2.stab_eq _) (G2.stabL_nil)))))))) (G2.stepsT_cons 0 ?_ (G2.stepsT_cons 1 ?_ (G2.stepsT_cons 2 ?_ (G2.stepsT_cons 3 ?_ (G2.stepsT_cons 4 ?_ (G2.stepsT_cons 5 ?_ (G2.stepsT_nil _ _ _))))))) ?_ ?_
                · intro a w' hk hF hD K hK
                  have h0 : a.tmps[0]?.getD undef = .pointer (some ⟨b, 0, none⟩) := hF 0 (by kernel_rfl)
                  clear hF hD
                  go_simp
                  exact hK.out _ _ (Kp.refl _) rfl
                · intro a w' hk hF hD K hK
                  have h97 : a.tmps[97]?.getD undef = .pointer (some ⟨b, 0, none⟩) := hD 0 (by kernel_rfl)
                  clear hF hD
                  go_simp
                  exact hK.out _ _ (Kp.refl _) rfl
                · intro a w' hk hF hD K hK
                  have h98 : a.tmps[98]?.getD undef = .pointer (some ⟨b, 0, none⟩) := hD 1 (by kernel_rfl)
                  clear hF hD
                  go_simp
                  exact hK.out _ _ (Kp.refl _) rfl
                · intro a w' hk hF hD K hK
                  have h99 : a.tmps[99]?.getD undef = .pointer (some ⟨b, 4, none⟩) := hD 2 (by kernel_rfl)
                  clear hF hD
                  have z0 := hk.cellS e4
                  go_simp
                  exact hK.out _ _ (Kp.refl _) rfl
                · intro a w' hk hF hD K hK
                  have h11 : a.tmps[11]?.getD undef = .int .i64 p3 := hF 11 (by kernel_rfl)
                  clear hF hD
                  go_simp
                  exact hK.out _ _ (Kp.refl _) rfl
                · intro a w' hk hF hD K hK
                  have h10 : a.tmps[10]?.getD undef = .pointer (some ⟨bx, 0, none⟩) := hF 10 (by kernel_rfl)
                  clear hF hD
                  have z0 := hk.cellS d0
                  have z1 := hk.cellS d1
                  have z2 := hk.cellS d2
                  have z3 := hk.cellS d3
                  have z4 := hk.cellS d4
                  have z5 := hk.cellS d5
                  go_simp
                  exact hK.out _ _ (Kp.refl _) rfl
                · exact fun i0 hi0 => by simp at hi0
                intro v w9 k9 hv
                have v3 : v 3 = .map (some mb) := hv 3 (by omega)
                have v4 : v 4 = .int .i64 p3 := hv 4 (by omega)
                have v5 : v 5 = .agg #[.int .i64 num, .int .i64 p1, .int .i64 p2, .int .i64 p3, .int .i64 p4, .slice A7 n7 c7] := hv 5 (by omega)
                clear hv
                simp only [G2.growPut, G2.gSlot, List.getElem?_toArray, List.getElem?_cons_zero, List.getElem?_cons_succ, Option.bind_some, List.setIfInBounds_toArray, List.set_cons_zero, List.set_cons_succ, List.drop_succ_cons, List.drop_zero, v3, v4, v5]
                have hbr9 := hbr8.kp k9
                obtain ⟨L9, hm9, hh9⟩ := hbr9.mp
                obtain ⟨w10, hrun, hM10, kg10, hz10⟩ := hm9.put keyI Try.underlying91 p3 (.agg #[.int .i64 num, .int .i64 p1, .int .i64 p2, .int .i64 p3, .int .i64 p4, .slice A7 n7 c7])
                have hz9 := k9.size
                have HZ10 := hid hz10
                clear d0 d1 d2 d3 d4 d5 e4 hz10
                go_wp2_with (refine wpl_mapset rfl 91 (.tmp 100) (.tmp 101) (.tmp 102) rfl rfl rfl rfl hrun ?_)
                have hTin : ∀ q, q = gx → Sj S w.heap.size (l.take (j + 1)) q := fun q hq => .inr ⟨_, by rw [HTK.out]; exact List.mem_append_right _ (List.mem_singleton.2 rfl), by rw [hq]; rfl⟩
                have hTto : ∀ q, Sj S w.heap.size (l.take j) q → Sj S w.heap.size (l.take (j + 1)) q := fun q hq => by
                  rcases hq with hq | ⟨y, hy1, hy2⟩
                  · exact .inl hq
                  · exact .inr ⟨y, by rw [HTK.out]; exact List.mem_append_left _ hy1, hy2⟩
                have hTn : ∀ q, q < w.heap.size → ¬ S q → ¬ Sj S w.heap.size (l.take (j + 1)) q := fun q h1 h2 h3 => by
                  rcases h3 with ⟨h3, -⟩ | ⟨y, hy1, hy2⟩
                  · exact h2 h3
                  · have := hlt5 y (List.mem_of_mem_take hy1) q hy2
                    omega
                have hbxm : bx ≠ mb := by omega
                have hgxm : gx ≠ mb := by omega
                have hsx8 : Sx (fun q => q = gx) w8 (.slice A7 n7 c7) (noZ done) := (hsx7 (fun q => q = gx) (fun q hq => by injection hq with hq; exact hq.symm)).step kg8.size fun q hq hlt => kg8.block q hlt (by simp; omega)
                have hsx10 : Sx (Sj S w.heap.size (l.take (j + 1))) w10 (.slice A7 n7 c7) (noZ done) := OwS.mono ((OwS.kp hsx8 k9).step kg10.size fun q hq hlt => kg10.block q hlt (by simp; omega)) hTin
                have hbr9' := hbr9.to (T := Sj S w.heap.size (l.take (j + 1))) (fun q _ hq => hTto q hq) (hTn b hblt hH.out.sb) (hTn mb hmlt hH.out.sm)
                have hh10 : HeardR (Sj S w.heap.size (l.take (j + 1))) w10 L9 H := (hh9.to (T := Sj S w.heap.size (l.take (j + 1))) fun q _ hq => hTto q hq).step kg10.size fun q hq hlt => kg10.block q hlt (by simp; rintro rfl; exact hTn _ hmlt hH.out.sm hq)
                have hge : (give1 (fun y => keeps s.own y (p1, p2, p3, p4)) p3 f ns).2.1 = done := by rw [HE.out]
                have hokG := okB_give (kp := fun y => keeps s.own y (p1, p2, p3, p4)) (tg := p3) (f := f) HG.out.br.ok hH.out.ok HREQ.out
                dsimp only at hokG
                rw [hge] at hokG
                have hbr10 := hbr9'.map' (s' := sH s (setH H p3 ⟨num, (p1, p2, p3, p4), noZ done⟩)) kg10 hM10 (hh10.put (a := ⟨num, (p1, p2, p3, p4), noZ done⟩) hsx10) rfl rfl rfl rfl hokG
                have F7 : Fx (fun q => q = lb ∨ q = gx ∨ q = mb ∨ (Value.slice A8 gs.length c8).ownBlock = some q) wo w7 :=
                  ((kA.fx _).trans (hfxi.mono fun q _ hq => by
                    rcases hq with h1 | h1 | h1
                    · exact .inl h1
                    · exact .inr (.inl h1)
                    · exact .inr (.inr (.inr h1)))).grown hg7 fun g hg => .inl (.inr (.inl (by injection hg with hg; exact hg.symm)))
                have F10 := ((F7.grown kg8 fun g hg => .inr (by injection hg with hg; have := HBX.out; omega)).trans (k9.fx _)).grown kg10 fun g hg => .inl (.inr (.inr (.inl (by injection hg with hg; exact hg.symm))))
                have hkeep : ∀ q, q < w6.heap.size → q ≠ lb → q ≠ gx → q ≠ mb → w10.heap[q]? = wo.heap[q]? := fun q h1 h2 h3 h4 => F10.block q (by have := HBX.out; omega) (by
                  rintro (e | e | e | e)
                  · exact h2 e
                  · exact h3 e
                  · exact h4 e
                  · have := hob8b q e; omega)
                have hrow6 : ∀ g, (Value.slice (some ⟨gl, 0, none⟩) l.length cl).ownBlock = some g → g < w6.heap.size := fun g hg => (hrl5 g hg).2
                have hGO2 : GO S w b mb s (amt has) w5.heap.size w6.heap.size lb l (.slice (some ⟨gl, 0, none⟩) l.length cl) (j + 1) w10 (.slice A9 n9 c9) f' (setH H p3 ⟨num, (p1, p2, p3, p4), noZ done⟩) (gs ++ gs1) := by
                  have hG := HG.out
                  refine ⟨by omega, ?_, ?_, hfbi, ?_, ?_, hbr10, fun y hy => ?_, ?_, ⟨F10.os.trans hG.fx.os, F10.tape.trans hG.fx.tape, F10.output.trans hG.fx.output, Nat.le_trans hG.fx.size F10.size, fun q hq hx => ?_⟩, ?_⟩
                  · rw [hG.eq, HDR.out, List.map_cons]
                    conv => lhs; unfold giveA
                    dsimp only
                    rw [HE.out]
                    dsimp only
                    rw [List.append_assoc]
                  · exact (((hmpi.keep (hg7.block lb hmpi.lt (by simp [Value.ownBlock]; omega))).keep (kg8.block lb (by omega) (by simp; omega))).kp k9).keep (kg10.block lb (by omega) (by simp; omega))
                  · have := hG.gl
                    have := HKE.out
                    simp only [List.length_append]
                    omega
                  · have hne : ∀ q, (Value.slice A9 n9 c9).ownBlock = some q → q ≠ gx ∧ q ≠ bx ∧ q ≠ mb := fun q hq => by
                      have h1 := houti.ge q hq
                      refine ⟨by omega, ?_, by omega⟩
                      rcases hobi with h2 | h2
                      · rw [h2] at hq
                        have := hob8 q hq
                        omega
                      · have := h2 q hq
                        omega
                    have o7 := World.ownsRow.kept houti hg7 (.inr fun e => (hne gx (by rw [e]; rfl)).1 rfl)
                    have o8 := World.ownsRow.kept o7 kg8 (.inr fun e => (hne bx e).2.1 rfl)
                    exact World.ownsRow.kept (Own.kp o8 k9) kg10 (.inr fun e => (hne mb e).2.2 rfl)
                  · have hy' : y ∈ l.drop j := by rw [HDR.out]; exact List.mem_cons_of_mem _ hy
                    have hyl : y ∈ l := List.mem_of_mem_drop hy
                    refine (hG.nds y hy').owS w10 F10.size fun q hq hlt => ?_
                    have h1 := hlt5 y hyl q hq
                    exact hkeep q h1.2 (by omega) (fun e => HAPD.out y hy (by rw [hq, e]; rfl)) (by omega)
                  · refine hG.row.owS w10 F10.size fun q hq hlt => ?_
                    have h1 := hrl5 q hq
                    have hq : gl = q := by simpa [Value.ownBlock] using hq
                    exact hkeep q h1.2 (by omega) (by omega) (by omega)
                  · rw [hkeep q (by omega) (by omega) (by omega) (fun e => hx (.inr e))]
                    exact hG.fx.block q hq hx
                  · have := HZ10.out
                    omega
                clear hg7 hrun
                go_wp2
                go_roundw
                case rel => exact ⟨j + 1, _, _, _, by go_num, hGO2⟩
                case measure => simp [intOf]; omega
          · have hjl : ¬ (j : Int) < (l.length : Int) := by omega
            obtain rfl : j = l.length := by omega
            go_wp2
            go_ret
            have hG := HG.out
            have heq := hG.eq
            rw [List.drop_of_length_le (Nat.le_refl _)] at heq
            simp only [List.map_nil, giveA, List.append_nil] at heq
            rw [HLA.out] at heq
            refine ⟨_, rfl, ?_, ?_, ?_⟩
            · rw [HRR.out, heq]
              exact hG.out.less (by omega)
            · rw [HRR.out, heq]
              refine hG.br.to (fun q hq hs => ?_) hH.out.sb hH.out.sm
              rcases hs with ⟨hs, -⟩ | ⟨x, hx, hxb⟩
              · exact hs
              · have := hlt5 x (List.mem_of_mem_take hx) q hxb
                exact hnew q (by omega)
            · exact hG.fx
end Go.Proofs.Ytbcekihjcgnhkaa
