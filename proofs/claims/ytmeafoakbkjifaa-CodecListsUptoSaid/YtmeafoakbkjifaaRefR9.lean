
/-
The reference: decoding a list of records.
-/
import Derived.Test.YtmeafoakbkjifaaQB
import Derived.Test.YtmeafoakbkjifaaRdr16
namespace Go.Proofs.Ytmeafoakbkjifaa
set_option linter.unusedSimpArgs false
set_option linter.unusedVariables false
open Go.RowKit

set_option maxRecDepth 8000 in
set_option maxHeartbeats 8000000 in
theorem rDecodeRecords_any (bs : List UInt8) (w : World) : Calls Try.prog 32 #[strV bs] w (DecEnd Recs [] (readE (listP recordP) bs) w) := by
  go_enter Try.func32, Try.ntmps32
  go_wp2_with fail
  refine (rDecode_any bs w).mono ?_
  rintro e w1 ⟨v, rfl, own, k1⟩
  have hlen := decE_len bs
  generalize hd : decE bs = d at *
  have HD := hid hd
  clear hd
  obtain ⟨l, er⟩ := d
  dsimp only at own hlen ⊢
  obtain ⟨A, c, rfl, hcc, hmm⟩ := own.form
  have hint := own.sl encInt_len
  have k2 := (Kp.refl w1).alloc (.cells #[.slice A l.length c, .bool false] 125)
  have hrd : Rdr w1 (w1.alloc (.cells #[.slice A l.length c, .bool false] 125)) w1.heap.size l false :=
    ⟨k2, Nat.le_refl _, by omega, _, hint, alloc_cell w1 _ _ 0 rfl, alloc_frozen w1 _ _ 0, alloc_cell w1 _ _ 1 rfl, alloc_frozen w1 _ _ 1⟩
  clear own hint k2
  go_wp2_with fail
  refine (rLength_any w1 w1.heap.size l false _ hrd).mono ?_
  rintro e w3 ⟨v3, n, l1, b1, rfl, hv, hs, hr1, hk3⟩
  obtain ⟨rfl, hn⟩ := hv.here
  have hsz1 := k1.size
  have hlo := Nat.le_refl w1.heap.size
  generalize hgb : w1.heap.size = g at *
  have HGB := hid hgb
  have hlo' : w1.heap.size ≤ g := Nat.le_of_eq hgb
  clear hgb hlo hrd hk3 hv
  have hkp := hr1.kp
  have hg := hr1.lt
  go_wp2
  go_loopw [8, 9] (fun v i wr => ∃ (css : List (Elm 30)) (xs : List Record) (l' : List Int) (b' : Bool), xs.length ≤ n ∧ i = .int .i64 (xs.length : Int) ∧ Own encC 46 30 w3.heap.size wr v css ∧ Els rdRecord w3.heap.size wr v.ownBlock css xs ∧ SpecP (loopP recordP xs.length) l1 b1 xs l' b' ∧ Rdr w1 wr g l' b' ∧ Kg w3 wr g) (fun _ i _ => n - (intOf i).toNat)
  case atStart => exact ⟨[], [], l1, b1, Nat.zero_le _, rfl, Own.nil _ _ _ _ _, Els.nil _ _ _ _ _, SpecP.ret _ _ _, hr1, Kg.refl _ _⟩
  case round =>
    clear hr1
    obtain ⟨css, xs, l2, b2, hxs, rfl, own, hels, hs2, hr2, hk2⟩ := hrel
    obtain ⟨v2, -, h2, h3, h4, h5⟩ := hr2.cells
    have hg2 := hr2.lt
    obtain ⟨A2, c2, rfl, hc2, hm2⟩ := own.form
    have hcl := hels.1
    rw [hcl] at own hels hc2 ⊢
    have kwf : Kp w wr := k1.trans hr2.kp
    cases hb2 : b2 with
    | true =>
      subst hb2
      have hspec : SpecP (listP recordP) l false xs l2 true := SpecP.bind hs (hs2.early hxs)
      have hfin := (hels.fin own).wide (base' := w.heap.size) (by have := hkp.size; omega) (Nat.le_refl _)
      clear hs2 hels own
      by_cases hpos : xs.length < n
      · have e3 : decide ((xs.length : Int) < n) = true := decide_eq_true (by omega)
        by_cases he : er = 0
        · subst he
          go_wp2_with fail
          refine (rDone_any w1 g l2 true wr hr2).mono ?_
          rintro e w5 ⟨rfl, rfl⟩
          by_cases hok : true = false ∧ l2 = []
          · obtain ⟨hb2, rfl⟩ := hok
            first
            | exact absurd hb2 (by decide)
            | skip
            all_goals
              have HN : Hid (readE (listP recordP) bs = (some xs, 0)) := hid (readE_ok HD.out (by rw [← hb2]; exact hspec))
              clear hspec hb2
              simp only [Bool.not_false, List.isEmpty_nil, Bool.and_self]
              go_wp2
              go_ret2
              exact ⟨_, by rw [HN.out]; rfl, by rw [HN.out]; exact hfin, kwf⟩
          · have HN : Hid (readE (listP recordP) bs = (none, 13)) := hid (readE_bad HD.out hspec (by
              cases l2 with
              | nil => first | exact .inl rfl | exact absurd ⟨rfl, rfl⟩ hok
              | cons _ _ => right; simp))
            have hok2 : (!true && l2.isEmpty) = false := by
              cases l2 with
              | nil => first | rfl | exact absurd ⟨rfl, rfl⟩ hok
              | cons _ _ => simp
            rw [hok2]
            clear hok hok2 hspec
            go_wp2
            go_ret2
            exact ⟨_, by rw [HN.out]; rfl, by rw [HN.out]; exact fun _ _ _ => Sl.nil _ _ _, kwf⟩
        · have HN : Hid (readE (listP recordP) bs = (none, er)) := hid (readE_err (listP recordP) HD.out he)
          have f1 : (er == 0) = false := by simpa using he
          have f2 : (er != 0) = true := by simpa using he
          clear hspec
          go_wp2
          go_ret2
          exact ⟨_, by rw [HN.out]; rfl, by rw [HN.out]; exact fun _ _ _ => Sl.nil _ _ _, kwf⟩
      · have e3 : decide ((xs.length : Int) < n) = false := decide_eq_false (by omega)
        by_cases he : er = 0
        · subst he
          go_wp2_with fail
          refine (rDone_any w1 g l2 true wr hr2).mono ?_
          rintro e w5 ⟨rfl, rfl⟩
          by_cases hok : true = false ∧ l2 = []
          · obtain ⟨hb2, rfl⟩ := hok
            first
            | exact absurd hb2 (by decide)
            | skip
            all_goals
              have HN : Hid (readE (listP recordP) bs = (some xs, 0)) := hid (readE_ok HD.out (by rw [← hb2]; exact hspec))
              clear hspec hb2
              simp only [Bool.not_false, List.isEmpty_nil, Bool.and_self]
              go_wp2
              go_ret2
              exact ⟨_, by rw [HN.out]; rfl, by rw [HN.out]; exact hfin, kwf⟩
          · have HN : Hid (readE (listP recordP) bs = (none, 13)) := hid (readE_bad HD.out hspec (by
              cases l2 with
              | nil => first | exact .inl rfl | exact absurd ⟨rfl, rfl⟩ hok
              | cons _ _ => right; simp))
            have hok2 : (!true && l2.isEmpty) = false := by
              cases l2 with
              | nil => first | rfl | exact absurd ⟨rfl, rfl⟩ hok
              | cons _ _ => simp
            rw [hok2]
            clear hok hok2 hspec
            go_wp2
            go_ret2
            exact ⟨_, by rw [HN.out]; rfl, by rw [HN.out]; exact fun _ _ _ => Sl.nil _ _ _, kwf⟩
        · have HN : Hid (readE (listP recordP) bs = (none, er)) := hid (readE_err (listP recordP) HD.out he)
          have f1 : (er == 0) = false := by simpa using he
          have f2 : (er != 0) = true := by simpa using he
          clear hspec
          go_wp2
          go_ret2
          exact ⟨_, by rw [HN.out]; rfl, by rw [HN.out]; exact fun _ _ _ => Sl.nil _ _ _, kwf⟩
    | false =>
      subst hb2
      by_cases hpos : xs.length < n
      · have e3 : decide ((xs.length : Int) < n) = true := decide_eq_true (by omega)
        have hxn : ((xs.length : Int) < n) := by omega
        go_wp2_with fail
        refine (rRecord_any w1 g l2 false _ hr2).mono ?_
        rintro e w4 ⟨v4, x, l3, b3, rfl, ho, hs3, hr3, hk3⟩
        obtain ⟨cs3, rfl, hrd3⟩ := ho.here
        obtain ⟨hlen3, hone3⟩ := rdRecord_one hrd3
        have hEl := ho.imp (fun w' h => VA.inj h)
        have hfl3 : cs3.length = ((#[.int .i64 0, .int .i64 0, .int .i64 0, .int .i64 0, .slice none 0 0, .int .i64 0, .int .i64 0, .int .i64 0, .int .i64 0, .int .i64 0, .int .i64 0, .int .i64 0, .int .i64 0, .int .i64 0, .slice none 0 0, .int .i64 0, .slice none 0 0, .slice none 0 0, .slice none 0 0, .slice none 0 0, .slice none 0 0, .int .i64 0, .int .i64 0, .int .i64 0, .int .i64 0, .int .i64 0, .int .i64 0, .int .i64 0, .int .i64 0, .slice none 0 0] : Array Value)).size := hlen3
        have own3 := own.kg hk3 hg
        have hels3 := hels.kg hk3 hg
        have hge := own.ge
        have hlt3 := World.ownsRow.lt own
        have hkk := hk2.trans hk3
        have hz3 := hk2.size
        have hz4 := hk3.size
        clear own hels h2 h3 h4 h5 hr2 kwf
        have hcap : (css ++ [(⟨_, hlen3, hone3⟩ : Elm 30)]).length = css.length + 1 := by simp
        go_wp2_with (at_builtin; rw [fold_fill #[.int .i64 0, .int .i64 0, .int .i64 0, .int .i64 0, .slice none 0 0, .int .i64 0, .int .i64 0, .int .i64 0, .int .i64 0, .int .i64 0, .int .i64 0, .int .i64 0, .int .i64 0, .int .i64 0, .slice none 0 0, .int .i64 0, .slice none 0 0, .slice none 0 0, .slice none 0 0, .slice none 0 0, .slice none 0 0, .int .i64 0, .int .i64 0, .int .i64 0, .int .i64 0, .int .i64 0, .int .i64 0, .int .i64 0, .int .i64 0, .slice none 0 0] cs3 hfl3]; refine wpl_append_flat rfl (.tmp 28) (.tmp 30) rfl stRecord encC_len encC_one rfl (own3.alloc _) rfl (Sl.one (R := Pl encC) w4 _ 46 30 (⟨_, hlen3, hone3⟩ : Elm 30) hlen3 rfl) (by simp; omega) (by simp; omega) (by simp; omega) ?_; intro v5 w5 hown4 hgrow4 hat4 hnil4)
        have hk4 : Kg w3 w5 g := ⟨hgrow4.os.trans hkk.os, hgrow4.tape.trans hkk.tape, hgrow4.output.trans hkk.output, by have := hgrow4.size; simp at this; omega, fun k hk hne => by rw [hgrow4.block k (by simp; omega) (fun e => by have := hge k e.symm; omega), heap_alloc_old _ _ (by omega)]; exact hkk.block k hk hne⟩
        have hg4 : w5.heap[g]? = w4.heap[g]? := by rw [hgrow4.block g (by simp; omega) (fun e => by have := hge g e.symm; omega), heap_alloc_old _ _ (by omega)]
        have hr4 := hr3.keepG (Kg.to_kp hkp hk4 hlo') hg4
        have hels4 := ((hels3.snoc (⟨_, hlen3, hone3⟩ : Elm 30) x hz3 (Nat.le_refl _) (fun q hq => .inl (hlt3 q hq).2) hEl).kg (((Kp.refl w4).alloc _).kg g) hg).grow hgrow4 hat4
        have hs4 := SpecP.bind (Q := fun ys => bindP recordP fun y => retP (ys ++ [y])) hs2 (SpecP.bind (Q := fun y => retP (xs ++ [y])) hs3 (SpecP.ret (xs ++ [x]) l3 b3))
        rw [← loopP_snoc] at hs4
        clear hgrow4 hat4 hnil4 own3 hels3 ho hEl hr3 hk3 hs3 hs2 hkk
        go_roundw
        case rel => exact ⟨_, xs ++ [x], l3, b3, by simp; omega, by simp, hown4, hels4, by simpa using hs4, hr4, hk4⟩
        case measure => simp [intOf]; omega
      · have e3 : decide ((xs.length : Int) < n) = false := decide_eq_false (by omega)
        have hxe := hid (show xs.length = n by omega)
        rw [hxe.out] at hs2
        have hspec : SpecP (listP recordP) l false xs l2 false := SpecP.bind hs hs2
        have hfin := (hels.fin own).wide (base' := w.heap.size) (by have := hkp.size; omega) (Nat.le_refl _)
        clear hs2 hels own
        by_cases he : er = 0
        · subst he
          go_wp2_with fail
          refine (rDone_any w1 g l2 false wr hr2).mono ?_
          rintro e w5 ⟨rfl, rfl⟩
          by_cases hok : false = false ∧ l2 = []
          · obtain ⟨hb2, rfl⟩ := hok
            first
            | exact absurd hb2 (by decide)
            | skip
            all_goals
              have HN : Hid (readE (listP recordP) bs = (some xs, 0)) := hid (readE_ok HD.out (by rw [← hb2]; exact hspec))
              clear hspec hb2
              simp only [Bool.not_false, List.isEmpty_nil, Bool.and_self]
              go_wp2
              go_ret2
              exact ⟨_, by rw [HN.out]; rfl, by rw [HN.out]; exact hfin, kwf⟩
          · have HN : Hid (readE (listP recordP) bs = (none, 13)) := hid (readE_bad HD.out hspec (by
              cases l2 with
              | nil => first | exact .inl rfl | exact absurd ⟨rfl, rfl⟩ hok
              | cons _ _ => right; simp))
            have hok2 : (!false && l2.isEmpty) = false := by
              cases l2 with
              | nil => first | rfl | exact absurd ⟨rfl, rfl⟩ hok
              | cons _ _ => simp
            rw [hok2]
            clear hok hok2 hspec
            go_wp2
            go_ret2
            exact ⟨_, by rw [HN.out]; rfl, by rw [HN.out]; exact fun _ _ _ => Sl.nil _ _ _, kwf⟩
        · have HN : Hid (readE (listP recordP) bs = (none, er)) := hid (readE_err (listP recordP) HD.out he)
          have f1 : (er == 0) = false := by simpa using he
          have f2 : (er != 0) = true := by simpa using he
          clear hspec
          go_wp2
          go_ret2
          exact ⟨_, by rw [HN.out]; rfl, by rw [HN.out]; exact fun _ _ _ => Sl.nil _ _ _, kwf⟩
end Go.Proofs.Ytmeafoakbkjifaa
