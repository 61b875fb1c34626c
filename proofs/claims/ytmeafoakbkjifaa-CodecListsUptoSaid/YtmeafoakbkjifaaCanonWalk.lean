
/-
Encoding what was decoded gives the same bytes: the walk.
-/
import Derived.Test.YtmeafoakbkjifaaCodS1
import Derived.Deep.CutRange
namespace Go.Proofs.Ytmeafoakbkjifaa
set_option linter.unusedSimpArgs false
set_option linter.unusedVariables false
open Go.RowKit

theorem readE_zero {α : Type} {P : Ps α} {bs : List UInt8} {o : Option α} (h : readE P bs = (o, 0)) : ∃ x l, o = some x ∧ P l = some (x, []) ∧ encB l = bs ∧ (∀ n ∈ l, OkI n) ∧ bs.length ≤ 65536 := by
  unfold readE at h
  cases hd : decE bs with
  | mk l er =>
    rw [hd] at h
    dsimp only at h
    by_cases he : er = 0
    · subst he
      rw [if_pos rfl] at h
      unfold decE at hd
      split at hd
      · simp at hd
      · rename_i hbig
        cases hdd : dec 0 0 bs with
        | none => rw [hdd] at hd; simp [decO] at hd
        | some l' =>
          rw [hdd] at hd
          simp only [decO, Prod.mk.injEq, and_true] at hd
          subst hd
          obtain ⟨h1, h2⟩ := (dec_iff bs l').1 hdd
          cases hP : P l' with
          | none => rw [hP] at h; simp at h
          | some q =>
            obtain ⟨x, l2⟩ := q
            rw [hP] at h
            cases l2 with
            | nil =>
              simp only [Prod.mk.injEq, and_true] at h
              exact ⟨x, l', h.symm, hP, h1, h2, by omega⟩
            | cons a b => simp at h
    · rw [if_neg he] at h
      simp only [Prod.mk.injEq] at h
      exact absurd h.2 he
theorem encE_of {l : List Int} {bs : List UInt8} (h1 : encB l = bs) (h2 : ∀ n ∈ l, OkI n) (h3 : bs.length ≤ 65536) : encE l = (bs, 0) := by
  unfold encE
  have : ¬ l.any outI = true := by
    intro h
    obtain ⟨n, hn, ho⟩ := List.any_eq_true.1 h
    have := h2 n hn
    unfold outI OkI at *
    simp only [Bool.or_eq_true, decide_eq_true_eq] at ho
    omega
  rw [if_neg this, h1, if_neg (by omega)]
theorem enc_len (l : List Int) {bs : List UInt8} (h1 : encB l = bs) : l.length ≤ bs.length := by rw [← h1]; exact encB_le l
theorem EventV.va {w : World} {v : Value} {x : Event} (h : VA rdEvent w v x) : EventV w v x := by
  obtain ⟨cs, rfl, v', rfl, h⟩ := h
  exact ⟨v', rfl, h⟩
theorem BaseV.va {w : World} {v : Value} {x : Base} (h : VA rdBaseC w v x) : BaseV w v x := by
  obtain ⟨cs, rfl, v0, v2, v3, v4, v5, v6, rfl, h⟩ := h
  exact ⟨v0, v2, v3, v4, v5, v6, rfl, h⟩
theorem RecordV.va {w : World} {v : Value} {x : Record} (h : VA rdRecord w v x) : RecordV w v x := by
  obtain ⟨cs, rfl, h⟩ := h
  exact RecordV.of h
theorem decE_zero {bs : List UInt8} {l : List Int} (h : decE bs = (l, 0)) : encB l = bs ∧ (∀ n ∈ l, OkI n) ∧ bs.length ≤ 65536 := by
  unfold decE at h
  split at h
  · simp at h
  · rename_i hbig
    cases hdd : dec 0 0 bs with
    | none => rw [hdd] at h; simp [decO] at h
    | some l' =>
      rw [hdd] at h
      simp only [decO, Prod.mk.injEq, and_true] at h
      subst h
      obtain ⟨h1, h2⟩ := (dec_iff bs l').1 hdd
      exact ⟨h1, h2, by omega⟩
theorem good_enc {α : Type} {P : Ps α} {f : α → List Int} (hg : Good P f) {bs : List UInt8} {x : α} {l : List Int} (hP : P l = some (x, [])) (hE : encB l = bs) (hO : ∀ n ∈ l, OkI n) (hb : bs.length ≤ 65536) : encE (f x) = (bs, 0) ∧ Room [] (f x).length := by
  have := (hg _ _ _).1 hP
  rw [List.append_nil] at this
  subst this
  have h2 := encB_le (f x)
  rw [hE] at h2
  exact ⟨encE_of hE hO hb, by unfold Room; simp; omega⟩
theorem formed_small {x : Record} (h : formedB x = true) : (numPart x false).length ≤ 100 := by
  obtain ⟨k, e, b, t, v, i, n⟩ := x
  rcases (formed_kinds _).1 h with ⟨hk, h⟩ | ⟨hk, h⟩ | ⟨hk, h⟩ | ⟨hk, h⟩ | ⟨hk, h⟩
  all_goals
    injection h with h1 h2 h3 h4 h5 h6 h7
    dsimp only at *
    subst hk
  · subst h3 h4 h5 h6 h7
    have : numPart ⟨0, e, zB, 0, 0, 0, zN⟩ false = numBase zB ++ [0, 0, 0] ++ numEntry zN := by simp [numPart]
    rw [this]; decide
  · subst h2 h4 h5 h6 h7
    have : numPart ⟨1, zE, b, 0, 0, 0, zN⟩ false = numEvent zE ++ [0, 0, 0] ++ numEntry zN := by simp [numPart]
    rw [this]; decide
  · subst h2 h3 h6 h7
    have : numPart ⟨2, zE, zB, t, v, 0, zN⟩ false = numEvent zE ++ numBase zB ++ [0] ++ numEntry zN := by simp [numPart]
    rw [this]; decide
  · subst h2 h3 h4 h5
    have : numPart ⟨3, zE, zB, 0, 0, i, n⟩ false = numEvent zE ++ numBase zB ++ [0, 0] := by simp [numPart]
    rw [this]; decide
  · subst h2 h3 h4 h5 h7
    have : numPart ⟨4, zE, zB, 0, 0, i, zN⟩ false = numEvent zE ++ numBase zB ++ [0, 0] ++ numEntry zN := by simp [numPart]
    rw [this]; decide
theorem good_rec {bs : List UInt8} {x : Record} {l : List Int} (hP : recordP l = some (x, [])) (hE : encB l = bs) (hO : ∀ n ∈ l, OkI n) (hb : bs.length ≤ 65536) : encR x = (bs, 0) ∧ Room [] (numPart x false).length ∧ Room [] (numRecord x).length := by
  obtain ⟨hf, this⟩ := (recordP_some _ _ _).1 hP
  rw [List.append_nil] at this
  subst this
  have h2 := encB_le (numRecord x)
  rw [hE] at h2
  have h3 := formed_small hf
  exact ⟨by unfold encR; rw [if_pos hf]; exact encE_of hE hO hb, by unfold Room; simp; omega, by unfold Room; simp; omega⟩
set_option maxRecDepth 100000 in
set_option maxHeartbeats 8000000 in
theorem canon_walk (bs : List UInt8) (w : World) : Calls Try.prog 10 #[strV bs] w fun e w' => e = .returned (.bool true) ∧ Kp w w' := by
  have hsz : (⟨bs.toArray⟩ : ByteArray).size = bs.length := by simp [ByteArray.size]
  by_cases hlen : 600 < bs.length
  · have e1 : decide ((600 : Int) < (bs.length : Int)) = true := decide_eq_true (by omega)
    go_enter Try.func10, Try.ntmps10
    go_wp2_with fail
    refine (awake_any _).mono ?_
    rintro e w1 ⟨rfl, k1⟩
    go_wp2
    go_ret
    exact ⟨rfl, k1⟩
  · have e1 : decide ((600 : Int) < (bs.length : Int)) = false := decide_eq_false (by omega)
    go_enter Try.func10, Try.ntmps10
    go_wp2_with fail
    refine (awake_any _).mono ?_
    rintro e w1 ⟨rfl, k1⟩
    go_wp2_with fail
    refine (Decode_any bs w1).mono ?_
    rintro e w2 ⟨v, rfl, own, k2⟩
    replace k2 := k1.trans k2
    have hi := own.sl encInt_len
    generalize hd : decE bs = d at *
    have HD := hid hd
    clear hd own
    obtain ⟨l, er⟩ := d
    dsimp only at hi ⊢
    obtain ⟨A, c, rfl, hc, hm⟩ := hi.form
    go_upto_if 34 with (fail)
    go_cut [] from 23 (fun wx => Kp w wx)
    case first =>
      by_cases he : er = 0
      · subst he
        have HE : Hid (encE l = (bs, 0)) := hid (by obtain ⟨h1, h2, h3⟩ := decE_zero HD.out; exact encE_of h1 h2 h3)
        go_wp2_with fail
        refine (Encode_any _ l _ hi).mono ?_
        rintro e w3 ⟨rfl, k3⟩
        rw [HE.out]
        go_wp2
        go_meet
        case rel => exact k2.trans k3
      · have e2 : (er == 0) = false := by simpa using he
        go_wp2
        go_meet
        case rel => exact k2
    case rest =>
      clear k1 k2 hi HD hc hm
      go_wp2_with fail
      refine (decodeEvent bs wc).mono ?_
      rintro e w2 ⟨v, rfl, ho, k2⟩
      replace k2 := hcut.trans k2
      generalize hr : readE eventP bs = r at *
      have HR := hid hr
      clear hr
      obtain ⟨ox, er⟩ := r
      dsimp only at ho ⊢
      obtain ⟨cs, rfl, hrd⟩ := ho.here; obtain ⟨hl, h1⟩ := event_one hrd; have hV := EventV.va ⟨cs, rfl, hrd⟩; clear hrd
      have hth := there_new w2 #[.int .i64 0, .int .i64 0, .int .i64 0, .slice none 0 0, .int .i64 0, .int .i64 0, .int .i64 0, .int .i64 0, .int .i64 0, .int .i64 0, .int .i64 0, .int .i64 0, .int .i64 0] 37 cs.length (by rw [hl]; rfl)
      have hin : (Try.prog.info? 37).map (·.size) = some cs.length := by rw [hl]; kernel_rfl
      have hB := (Bx.new w2 #[.int .i64 0, .int .i64 0, .int .i64 0, .slice none 0 0, .int .i64 0, .int .i64 0, .int .i64 0, .int .i64 0, .int .i64 0, .int .i64 0, .int .i64 0, .int .i64 0, .int .i64 0] 37).all (cs := cs) (by rw [hl]; rfl)
      have k3 : Kp w2 ((w2.alloc (.cells #[.int .i64 0, .int .i64 0, .int .i64 0, .slice none 0 0, .int .i64 0, .int .i64 0, .int .i64 0, .int .i64 0, .int .i64 0, .int .i64 0, .int .i64 0, .int .i64 0, .int .i64 0] 37)).setCells w2.heap.size 0 cs) := Kp.setCells (Nat.le_refl _) cs 0 _ ((Kp.refl w2).alloc _)
      replace hV := hV.kp k3
      clear ho hcut
      go_upto_if 53 with (refine wpList_store_mid rfl 37 (.tmp 7) (.tmp 50) rfl w2.heap.size 0 cs.toArray rfl rfl hth hin (all_oneCell_toArray h1) ?_; generalize (w2.alloc (.cells #[.int .i64 0, .int .i64 0, .int .i64 0, .slice none 0 0, .int .i64 0, .int .i64 0, .int .i64 0, .int .i64 0, .int .i64 0, .int .i64 0, .int .i64 0, .int .i64 0, .int .i64 0] 37)).setCells w2.heap.size 0 cs = w3 at *)
      go_cut [] from 23 (fun wx => Kp w wx)
      case first =>
        by_cases he : er = 0
        · subst he
          obtain ⟨x, l, rfl, hP, hE, hO, hb⟩ := readE_zero HR.out
          have hG := good_enc eventP_good hP hE hO hb
          have HE := hid hG.1
          have hR := hG.2
          dsimp only [Option.getD_some] at hV
          clear hG hP hE hO hb HR
          go_wp2_with (refine wpList_load_mid rfl 37 (.tmp 7) rfl w2.heap.size 0 rfl cs _ hB.range Try.underlying37 rfl hin ?_)
          refine (EncodeEvent_any _ x _ hV hR).mono ?_
          rintro e w4 ⟨rfl, k4⟩
          rw [HE.out]
          go_wp2
          go_meet
          case rel => exact (k2.trans k3).trans k4
        · have e2 : (er == 0) = false := by simpa using he
          go_wp2
          go_meet
          case rel => exact k2.trans k3
      case rest =>
        clear k2 k3 hV hB hin hth h1 hl HR
        go_wp2_with fail
        refine (decodeBase bs wc).mono ?_
        rintro e w2 ⟨v, rfl, ho, k2⟩
        replace k2 := hcut.trans k2
        generalize hr : readE baseP bs = r at *
        have HR := hid hr
        clear hr
        obtain ⟨ox, er⟩ := r
        dsimp only at ho ⊢
        obtain ⟨cs, rfl, hrd⟩ := ho.here; obtain ⟨hl, h1⟩ := base_one hrd; have hV := BaseV.va ⟨cs, rfl, hrd⟩; clear hrd
        have hth := there_new w2 #[.slice none 0 0, .int .i64 0, .slice none 0 0, .slice none 0 0, .slice none 0 0, .slice none 0 0, .slice none 0 0] 42 cs.length (by rw [hl]; rfl)
        have hin : (Try.prog.info? 42).map (·.size) = some cs.length := by rw [hl]; kernel_rfl
        have hB := (Bx.new w2 #[.slice none 0 0, .int .i64 0, .slice none 0 0, .slice none 0 0, .slice none 0 0, .slice none 0 0, .slice none 0 0] 42).all (cs := cs) (by rw [hl]; rfl)
        have k3 : Kp w2 ((w2.alloc (.cells #[.slice none 0 0, .int .i64 0, .slice none 0 0, .slice none 0 0, .slice none 0 0, .slice none 0 0, .slice none 0 0] 42)).setCells w2.heap.size 0 cs) := Kp.setCells (Nat.le_refl _) cs 0 _ ((Kp.refl w2).alloc _)
        replace hV := hV.kp k3
        clear ho hcut
        go_upto_if 72 with (refine wpList_store_mid rfl 42 (.tmp 11) (.tmp 69) rfl w2.heap.size 0 cs.toArray rfl rfl hth hin (all_oneCell_toArray h1) ?_; generalize (w2.alloc (.cells #[.slice none 0 0, .int .i64 0, .slice none 0 0, .slice none 0 0, .slice none 0 0, .slice none 0 0, .slice none 0 0] 42)).setCells w2.heap.size 0 cs = w3 at *)
        go_cut [] from 23 (fun wx => Kp w wx)
        case first =>
          by_cases he : er = 0
          · subst he
            obtain ⟨x, l, rfl, hP, hE, hO, hb⟩ := readE_zero HR.out
            have hG := good_enc baseP_good hP hE hO hb
            have HE := hid hG.1
            have hR := hG.2
            dsimp only [Option.getD_some] at hV
            clear hG hP hE hO hb HR
            go_wp2_with (refine wpList_load_mid rfl 42 (.tmp 11) rfl w2.heap.size 0 rfl cs _ hB.range Try.underlying42 rfl hin ?_)
            refine (EncodeBase_any _ x _ hV hR).mono ?_
            rintro e w4 ⟨rfl, k4⟩
            rw [HE.out]
            go_wp2
            go_meet
            case rel => exact (k2.trans k3).trans k4
          · have e2 : (er == 0) = false := by simpa using he
            go_wp2
            go_meet
            case rel => exact k2.trans k3
        case rest =>
          clear k2 k3 hV hB hin hth h1 hl HR
          go_wp2_with fail
          refine (decodeRecord bs wc).mono ?_
          rintro e w2 ⟨v, rfl, ho, k2⟩
          replace k2 := hcut.trans k2
          generalize hr : readE recordP bs = r at *
          have HR := hid hr
          clear hr
          obtain ⟨ox, er⟩ := r
          dsimp only at ho ⊢
          obtain ⟨cs, rfl, hrd⟩ := ho.here; obtain ⟨hl, h1⟩ := rdRecord_one hrd; have hV := RecordV.va ⟨cs, rfl, hrd⟩; clear hrd
          have hth := there_new w2 #[.int .i64 0, .int .i64 0, .int .i64 0, .int .i64 0, .slice none 0 0, .int .i64 0, .int .i64 0, .int .i64 0, .int .i64 0, .int .i64 0, .int .i64 0, .int .i64 0, .int .i64 0, .int .i64 0, .slice none 0 0, .int .i64 0, .slice none 0 0, .slice none 0 0, .slice none 0 0, .slice none 0 0, .slice none 0 0, .int .i64 0, .int .i64 0, .int .i64 0, .int .i64 0, .int .i64 0, .int .i64 0, .int .i64 0, .int .i64 0, .slice none 0 0] 46 cs.length (by rw [hl]; rfl)
          have hin : (Try.prog.info? 46).map (·.size) = some cs.length := by rw [hl]; kernel_rfl
          have hB := (Bx.new w2 #[.int .i64 0, .int .i64 0, .int .i64 0, .int .i64 0, .slice none 0 0, .int .i64 0, .int .i64 0, .int .i64 0, .int .i64 0, .int .i64 0, .int .i64 0, .int .i64 0, .int .i64 0, .int .i64 0, .slice none 0 0, .int .i64 0, .slice none 0 0, .slice none 0 0, .slice none 0 0, .slice none 0 0, .slice none 0 0, .int .i64 0, .int .i64 0, .int .i64 0, .int .i64 0, .int .i64 0, .int .i64 0, .int .i64 0, .int .i64 0, .slice none 0 0] 46).all (cs := cs) (by rw [hl]; rfl)
          have k3 : Kp w2 ((w2.alloc (.cells #[.int .i64 0, .int .i64 0, .int .i64 0, .int .i64 0, .slice none 0 0, .int .i64 0, .int .i64 0, .int .i64 0, .int .i64 0, .int .i64 0, .int .i64 0, .int .i64 0, .int .i64 0, .int .i64 0, .slice none 0 0, .int .i64 0, .slice none 0 0, .slice none 0 0, .slice none 0 0, .slice none 0 0, .slice none 0 0, .int .i64 0, .int .i64 0, .int .i64 0, .int .i64 0, .int .i64 0, .int .i64 0, .int .i64 0, .int .i64 0, .slice none 0 0] 46)).setCells w2.heap.size 0 cs) := Kp.setCells (Nat.le_refl _) cs 0 _ ((Kp.refl w2).alloc _)
          replace hV := hV.kp k3
          clear ho hcut
          go_upto_if 91 with (refine wpList_store_mid rfl 46 (.tmp 15) (.tmp 88) rfl w2.heap.size 0 cs.toArray rfl rfl hth hin (all_oneCell_toArray h1) ?_; generalize (w2.alloc (.cells #[.int .i64 0, .int .i64 0, .int .i64 0, .int .i64 0, .slice none 0 0, .int .i64 0, .int .i64 0, .int .i64 0, .int .i64 0, .int .i64 0, .int .i64 0, .int .i64 0, .int .i64 0, .int .i64 0, .slice none 0 0, .int .i64 0, .slice none 0 0, .slice none 0 0, .slice none 0 0, .slice none 0 0, .slice none 0 0, .int .i64 0, .int .i64 0, .int .i64 0, .int .i64 0, .int .i64 0, .int .i64 0, .int .i64 0, .int .i64 0, .slice none 0 0] 46)).setCells w2.heap.size 0 cs = w3 at *)
          go_cut [] from 23 (fun wx => Kp w wx)
          case first =>
            by_cases he : er = 0
            · subst he
              obtain ⟨x, l, rfl, hP, hE, hO, hb⟩ := readE_zero HR.out
              have hG := good_rec hP hE hO hb
              have HE := hid hG.1
              have hR := hG.2
              dsimp only [Option.getD_some] at hV
              clear hG hP hE hO hb HR
              go_wp2_with (refine wpList_load_mid rfl 46 (.tmp 15) rfl w2.heap.size 0 rfl cs _ hB.range Try.underlying46 rfl hin ?_)
              refine (EncodeRecord_any _ x _ hV hR.1 hR.2).mono ?_
              rintro e w4 ⟨rfl, k4⟩
              rw [HE.out]
              go_wp2
              go_meet
              case rel => exact (k2.trans k3).trans k4
            · have e2 : (er == 0) = false := by simpa using he
              go_wp2
              go_meet
              case rel => exact k2.trans k3
          case rest =>
            clear k2 k3 hV hB hin hth h1 hl HR
            go_wp2_with fail
            refine (decodeMessage bs wc).mono ?_
            rintro e w2 ⟨v, rfl, ho, k2⟩
            replace k2 := hcut.trans k2
            generalize hr : readE messageP bs = r at *
            have HR := hid hr
            clear hr
            obtain ⟨ox, er⟩ := r
            dsimp only at ho ⊢
            have hV := ho.here; obtain ⟨cs, rfl, hl, h1⟩ := message_cells _ _ _ hV
            have hth := there_new w2 #[.int .i64 0, .int .i64 0, .int .i64 0, .slice none 0 0, .slice none 0 0, .slice none 0 0, .int .i64 0, .int .i64 0, .int .i64 0, .int .i64 0, .int .i64 0, .slice none 0 0, .int .i64 0, .int .i64 0, .int .i64 0, .int .i64 0, .bool false, .slice none 0 0] 78 cs.length (by rw [hl]; rfl)
            have hin : (Try.prog.info? 78).map (·.size) = some cs.length := by rw [hl]; kernel_rfl
            have hB := (Bx.new w2 #[.int .i64 0, .int .i64 0, .int .i64 0, .slice none 0 0, .slice none 0 0, .slice none 0 0, .int .i64 0, .int .i64 0, .int .i64 0, .int .i64 0, .int .i64 0, .slice none 0 0, .int .i64 0, .int .i64 0, .int .i64 0, .int .i64 0, .bool false, .slice none 0 0] 78).all (cs := cs) (by rw [hl]; rfl)
            have k3 : Kp w2 ((w2.alloc (.cells #[.int .i64 0, .int .i64 0, .int .i64 0, .slice none 0 0, .slice none 0 0, .slice none 0 0, .int .i64 0, .int .i64 0, .int .i64 0, .int .i64 0, .int .i64 0, .slice none 0 0, .int .i64 0, .int .i64 0, .int .i64 0, .int .i64 0, .bool false, .slice none 0 0] 78)).setCells w2.heap.size 0 cs) := Kp.setCells (Nat.le_refl _) cs 0 _ ((Kp.refl w2).alloc _)
            replace hV := hV.kp k3
            clear ho hcut
            go_upto_if 110 with (refine wpList_store_mid rfl 78 (.tmp 19) (.tmp 107) rfl w2.heap.size 0 cs.toArray rfl rfl hth hin (all_oneCell_toArray h1) ?_; generalize (w2.alloc (.cells #[.int .i64 0, .int .i64 0, .int .i64 0, .slice none 0 0, .slice none 0 0, .slice none 0 0, .int .i64 0, .int .i64 0, .int .i64 0, .int .i64 0, .int .i64 0, .slice none 0 0, .int .i64 0, .int .i64 0, .int .i64 0, .int .i64 0, .bool false, .slice none 0 0] 78)).setCells w2.heap.size 0 cs = w3 at *)
            go_cut [] from 23 (fun wx => Kp w wx)
            case first =>
              by_cases he : er = 0
              · subst he
                obtain ⟨x, l, rfl, hP, hE, hO, hb⟩ := readE_zero HR.out
                have hG := good_enc messageP_good hP hE hO hb
                have HE := hid hG.1
                have hR := hG.2
                dsimp only [Option.getD_some] at hV
                clear hG hP hE hO hb HR
                go_wp2_with (refine wpList_load_mid rfl 78 (.tmp 19) rfl w2.heap.size 0 rfl cs _ hB.range Try.underlying78 rfl hin ?_)
                refine (EncodeMessage_any _ x _ hV hR).mono ?_
                rintro e w4 ⟨rfl, k4⟩
                rw [HE.out]
                go_wp2
                go_meet
                case rel => exact (k2.trans k3).trans k4
              · have e2 : (er == 0) = false := by simpa using he
                go_wp2
                go_meet
                case rel => exact k2.trans k3
            case rest =>
              clear k2 k3 hV hB hin hth h1 hl HR
              go_wp2
              go_ret
              exact ⟨rfl, hcut⟩
end Go.Proofs.Ytmeafoakbkjifaa
