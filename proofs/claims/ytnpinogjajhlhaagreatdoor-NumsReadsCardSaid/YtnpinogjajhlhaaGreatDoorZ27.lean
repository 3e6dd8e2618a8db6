/- A part of the proof that lexiconlaw03.NumsReads answers true at every kind and every text: DwNum. No condition. -/
import Derived.Test.YtnpinogjajhlhaaGreatDoorZ01
import Derived.Test.YtnpinogjajhlhaaGreatDoorZ26
import Derived.Deep.DeepCutAuto
import Derived.Deep.CutBlock
section
/- Digits and the NUMBER at the front of a text: the program's functions and the document's. -/
namespace Go.Proofs.YtnpinogjajhlhaaGreatDoor.Fl
open Go.RowKit

def BoolEndR (r : Bool) (w : World) (e : Ending) (w' : World) : Prop := e = .returned (.bool r) ∧ w' = w

theorem digit_walk (c : Nat) (w : World) : Calls Tryz.prog 71 #[.int .u8 c] w (BoolEndR (decide (48 ≤ c ∧ c ≤ 57)) w) := by
  by_cases h1 : 48 ≤ c
  · have g1 : 48 ≤ (c : Int) := by omega
    by_cases h2 : c ≤ 57
    · have g2 : (c : Int) ≤ 57 := by omega
      rw [decide_eq_true (show 48 ≤ c ∧ c ≤ 57 from ⟨h1, h2⟩)]
      go_enter Tryz.func71, Tryz.ntmps71
      go_wp2_with fail
      go_ret
      exact ⟨by simp, rfl⟩
    · have g2 : 57 < (c : Int) := by omega
      rw [decide_eq_false (show ¬ (48 ≤ c ∧ c ≤ 57) by omega)]
      go_enter Tryz.func71, Tryz.ntmps71
      go_wp2_with fail
      go_ret
      exact ⟨by simp; omega, rfl⟩
  · have g1 : (c : Int) < 48 := by omega
    rw [decide_eq_false (show ¬ (48 ≤ c ∧ c ≤ 57) by omega)]
    go_enter Tryz.func71, Tryz.ntmps71
    go_wp2_with fail
    go_ret
    exact ⟨rfl, rfl⟩

theorem rrun_walk (S : ByteArray) (i : Nat) (hb : S.size ≤ 1152921504606846976) (hi : i ≤ S.size) (w : World) : Calls Tryz.prog 31 #[.string S, .int .i64 i] w (IntEndU .i64 (run S i : Nat) w) := by
  have H : Hid (∀ k, i ≤ k → k < i → dgt S k) := Lib.hid (fun k h1 h2 => by omega)
  go_enter Tryz.func31, Tryz.ntmps31
  go_wp2_with fail
  go_loopg [1] (S.size - i) (fun mm v wr => ∃ j : Nat, v = .int .i64 j ∧ Aside (mm = S.size - j ∧ i ≤ j ∧ j ≤ S.size ∧ ∀ k, i ≤ k → k < j → dgt S k) ∧ wr = w)
  case atStart => exact ⟨i, rfl, ⟨rfl, by omega, hi, H.out⟩, rfl⟩
  case round =>
    obtain ⟨j, rfl, hA, rfl⟩ := hrel
    by_cases h : dgt S j
    · have hl := dgt_in h
      have hc := bt_int hl
      have hd : decide (48 ≤ bt S j ∧ bt S j ≤ 57) = true := decide_eq_true h
      have HH := Lib.hid h
      have HD := Lib.hid hd
      clear h hd
      go_wp2_with fail
      refine (digit_walk (bt S j) _).mono ?_
      rintro e w' ⟨rfl, rfl⟩
      rw [HD.out]
      go_wp2_with fail
      go_roundg (S.size - (j + 1))
      case measure => have := hA.out; omega
      case rel =>
        refine ⟨j + 1, by go_num, ⟨rfl, by have := hA.out; omega, by omega, fun k h1 h2 => ?_⟩, rfl⟩
        by_cases e : k = j
        · subst e; exact HH.out
        · exact hA.out.2.2.2 k h1 (by omega)
    · have hr : run S i = j := run_unique h i hA.out.2.1 hA.out.2.2.2
      have HR := Lib.hid hr
      have hd : decide (48 ≤ bt S j ∧ bt S j ≤ 57) = false := decide_eq_false h
      have HD := Lib.hid hd
      clear h hr hd
      by_cases hl : j < S.size
      · have hc := bt_int hl
        go_wp2_with fail
        refine (digit_walk (bt S j) _).mono ?_
        rintro e w' ⟨rfl, rfl⟩
        rw [HD.out]
        go_wp2_with fail
        go_ret
        exact ⟨by rw [HR.out]; rfl, rfl⟩
      · have hnl : ¬ ((j : Int) < S.size) := by omega
        go_wp2_with fail
        go_ret
        exact ⟨by rw [HR.out]; rfl, rfl⟩

theorem digits_walk (S : ByteArray) (hb : S.size ≤ 1152921504606846976) (w : World) : Calls Tryz.prog 20 #[.string S] w (IntEndU .i64 (run S 0 : Nat) w) := by
  go_enter Tryz.func20, Tryz.ntmps20
  go_wp2_with fail
  go_loopg [3] (S.size) (fun mm i wr => ∃ j : Nat, i = .int .i64 j ∧ Aside (mm = S.size - j ∧ j ≤ S.size ∧ ∀ k, k < j → dgt S k) ∧ wr = w)
  case atStart => exact ⟨0, rfl, ⟨rfl, by omega, fun k hk => by omega⟩, rfl⟩
  case round =>
    obtain ⟨j, rfl, hA, rfl⟩ := hrel
    by_cases h : dgt S j
    · have hl := dgt_in h
      have hc := bt_int hl
      have h1 : 48 ≤ (bt S j : Int) := by have := h.1; omega
      have h2 : (bt S j : Int) ≤ 57 := by have := h.2; omega
      have HH := Lib.hid h
      clear h
      go_wp2_with fail
      go_roundg (S.size - (j + 1))
      case measure => have := hA.out; omega
      case rel =>
        refine ⟨j + 1, by go_num, ⟨rfl, by omega, fun k hk => ?_⟩, rfl⟩
        by_cases e : k = j
        · subst e; exact HH.out
        · exact hA.out.2.2 k (by omega)
    · have hr : run S 0 = j := run_unique h 0 (by omega) fun k _ hk => hA.out.2.2 k hk
      have HR := Lib.hid hr
      have HN := Lib.hid h
      clear h hr
      by_cases hl : j < S.size
      · have hc := bt_int hl
        have hx : (bt S j : Int) < 48 ∨ 57 < (bt S j : Int) := by have := HN.out; unfold dgt at this; omega
        rcases hx with hx | hx
        · go_wp2_with fail
          go_ret
          exact ⟨by rw [HR.out]; rfl, rfl⟩
        · go_wp2_with fail
          all_goals
            go_ret
            exact ⟨by rw [HR.out]; rfl, rfl⟩
      · have hnl : ¬ ((j : Int) < S.size) := by omega
        go_wp2_with fail
        go_ret
        exact ⟨by rw [HR.out]; rfl, rfl⟩

theorem beq_nat (a k : Nat) : ((a : Int) == (k : Int)) = decide (a = k) := by
  by_cases h : a = k
  · rw [decide_eq_true h, h]; simp
  · rw [decide_eq_false h]; simp; exact_mod_cast h

theorem size_zero {S : ByteArray} (h : S.size = 0) : S = ByteArray.empty := ByteArray.ext (Array.eq_empty_of_size_eq_zero h)

theorem nSign_le (S : ByteArray) : nSign S ≤ 1 := by unfold nSign; split <;> omega
theorem nSign_in (S : ByteArray) : nSign S ≤ S.size := by
  unfold nSign; split
  · rename_i h; have := bt_in (S := S) (i := 0) (by omega); omega
  · omega
theorem nInt_in {S : ByteArray} (h : run S (nSign S) ≠ nSign S) : nInt S ≤ S.size ∧ nSign S < nInt S := by
  have h1 := run_le (nSign_in S)
  have h2 := run_ge S (nSign S)
  unfold nInt; split <;> omega
theorem nFrac_in {S : ByteArray} {e : Nat} (h : e ≤ S.size) : nFrac S e ≤ S.size ∧ e ≤ nFrac S e := by
  unfold nFrac; split
  · rename_i h1
    have h2 := bt_in (S := S) (i := e) (by omega)
    have h3 := run_le (S := S) (i := e + 1) (by omega)
    omega
  · omega
theorem nFrom_in {S : ByteArray} {e : Nat} (h : e < S.size) : nFrom S e ≤ S.size ∧ e < nFrom S e ∧ nFrom S e ≤ e + 2 := by
  unfold nFrom; split
  · rename_i h1
    have h2 := bt_in (S := S) (i := e + 1) (by omega)
    omega
  · omega
theorem nExp_in {S : ByteArray} {e : Nat} (h : e ≤ S.size) : nExp S e ≤ S.size ∧ e ≤ nExp S e := by
  unfold nExp; split
  · rename_i h1
    have h2 := bt_in (S := S) (i := e) (by omega)
    have h3 := nFrom_in h2
    have h4 := run_le h3.1
    omega
  · omega

set_option maxRecDepth 100000 in
theorem rnum_walk (S : ByteArray) (hb : S.size ≤ 1152921504606846976) (w : World) : Calls Tryz.prog 10 #[.string S] w (IntEndU .i64 (numLen S : Nat) w) := by
  have hrun : ∀ (i : Nat) w, i ≤ S.size → Calls Tryz.prog 31 #[.string S, .int .i64 i] w (IntEndU .i64 (run S i : Nat) w) := fun i w hi => rrun_walk S i hb hi w
  have HR := Lib.hid hrun
  clear hrun
  go_enter Tryz.func10, Tryz.ntmps10
  go_upto_region 2 with (fail)
  go_cut [17] (fun z wd => (∃ b : Bool, z = .bool b ∧ Aside (b = decide (bt S 0 = 45))) ∧ wd = w)
  case first =>
    by_cases hl : 0 < S.size
    · have hne : ¬ S = ByteArray.empty := fun hc => by rw [hc] at hl; exact absurd hl (by decide)
      have hc := bt_int hl
      go_wp2_with fail
      go_meet
      exact ⟨⟨_, rfl, beq_nat _ 45⟩, rfl⟩
    · have he : S = ByteArray.empty := size_zero (by omega)
      subst he
      go_wp2_with fail
      go_meet
      exact ⟨⟨_, rfl, rfl⟩, rfl⟩
  case rest =>
    obtain ⟨⟨b0, rfl, hb0⟩, rfl⟩ := hcut
    go_upto_if 17 with (fail)
    go_cut [3] (fun a wd => a = .int .i64 (nSign S : Nat) ∧ wd = wc)
    case first =>
      cases hbb : b0 with
      | true =>
        have HE : Hid (nSign S = 1) := Lib.hid (by unfold nSign; rw [if_pos (of_decide_eq_true (hb0.out.symm.trans hbb))])
        clear hbb
        go_wp2_with fail
        go_meet
        exact ⟨by rw [HE.out]; rfl, rfl⟩
      | false =>
        have HE : Hid (nSign S = 0) := Lib.hid (by unfold nSign; rw [if_neg (of_decide_eq_false (hb0.out.symm.trans hbb))])
        clear hbb
        go_wp2_with fail
        go_meet
        exact ⟨by rw [HE.out]; rfl, rfl⟩
    case rest =>
      obtain ⟨rfl, rfl⟩ := hcut
      have hs1 := nSign_in S
      obtain ⟨o, ho⟩ : ∃ o, nSign S = o := ⟨_, rfl⟩
      have HO := Lib.hid ho
      rw [ho] at hs1 ⊢
      clear ho
      go_wp2_with fail
      refine (HR.out o _ hs1).mono ?_
      rintro e w' ⟨rfl, rfl⟩
      by_cases h0 : run S o = o
      · have hz : ((run S o : Nat) : Int) = (o : Int) := by omega
        have HZ : Hid (numLen S = 0) := Lib.hid (by unfold numLen; rw [HO.out, if_pos h0])
        rw [hz]
        clear h0 hz
        go_wp2_with fail
        go_ret
        exact ⟨by rw [HZ.out]; rfl, rfl⟩
      · have hge := run_ge S o
        have hle := run_le hs1
        have hN : numLen S = nExp S (nFrac S (nInt S)) := by unfold numLen; rw [HO.out, if_neg h0]
        have hI : nInt S = if bt S o = 48 then o + 1 else run S o := by unfold nInt; rw [HO.out]
        have hII := nInt_in (S := S) (by rw [HO.out]; exact h0)
        obtain ⟨e0, he0⟩ : ∃ e0, run S o = e0 := ⟨_, rfl⟩
        rw [he0] at h0 hge hle hI ⊢
        have HI : Hid (numLen S = nExp S (nFrac S (nInt S)) ∧ (nInt S = if bt S o = 48 then o + 1 else e0) ∧ nInt S ≤ S.size) := ⟨hN, hI, hII.1⟩
        have hne : ((e0 : Int) == (o : Int)) = false := by rw [beq_eq_false_iff_ne]; omega
        have hol : o < S.size := by omega
        have hc := bt_int hol
        clear hN hI hII he0 h0
        go_upto_if 29 with (fail)
        go_cut [4] (fun a wd => a = .int .i64 (nInt S : Nat) ∧ wd = w')
        case first =>
          by_cases h48 : bt S o = 48
          · have hq : ((bt S o : Int) == 48) = true := by rw [beq_iff_eq]; omega
            have HE : Hid (nInt S = o + 1) := Lib.hid (by rw [HI.out.2.1, if_pos h48])
            clear h48
            go_wp2_with fail
            go_meet
            exact ⟨by rw [HE.out]; go_num, rfl⟩
          · have hq : ((bt S o : Int) == 48) = false := by rw [beq_eq_false_iff_ne]; omega
            have HE : Hid (nInt S = e0) := Lib.hid (by rw [HI.out.2.1, if_neg h48])
            clear h48
            go_wp2_with fail
            go_meet
            exact ⟨by rw [HE.out], rfl⟩
        case rest =>
          obtain ⟨rfl, rfl⟩ := hcut
          have hNi := HI.out.2.2
          obtain ⟨e1, he1⟩ : ∃ e1, nInt S = e1 := ⟨_, rfl⟩
          rw [he1] at hNi ⊢
          have HN : Hid (numLen S = nExp S (nFrac S e1)) := Lib.hid (by rw [HI.out.1, he1])
          clear HI he1 hc hne hge hle hol hs1 HO
          go_upto_region 9 with (fail)
          go_cut [41] (fun z wd => (∃ b : Bool, z = .bool b ∧ Aside (b = decide (bt S e1 = 46))) ∧ wd = wc)
          case first =>
            by_cases hl : e1 < S.size
            · have hc := bt_int hl
              go_wp2_with fail
              go_meet
              exact ⟨⟨_, rfl, beq_nat _ 46⟩, rfl⟩
            · have hl' : ¬ ((e1 : Int) < S.size) := by omega
              have HB : Hid (bt S e1 = 256) := Lib.hid (bt_out (by omega))
              go_wp2_with fail
              go_meet
              exact ⟨⟨_, rfl, by rw [HB.out]; rfl⟩, rfl⟩
          case rest =>
            obtain ⟨⟨b1, rfl, hb1⟩, rfl⟩ := hcut
            go_upto_if 41 with (fail)
            go_cut [4] (fun a wd => a = .int .i64 (nFrac S e1 : Nat) ∧ wd = wc)
            case first =>
              cases hbb : b1 with
              | false =>
                have hne := of_decide_eq_false (hb1.out.symm.trans hbb)
                have HE : Hid (nFrac S e1 = e1) := Lib.hid (by unfold nFrac; rw [if_neg (fun h => hne h.1)])
                clear hbb hne
                go_wp2_with fail
                go_meet
                exact ⟨by rw [HE.out], rfl⟩
              | true =>
                have h46 := of_decide_eq_true (hb1.out.symm.trans hbb)
                have hl := bt_in (S := S) (i := e1) (by omega)
                have H46 := Lib.hid h46
                clear hbb h46
                go_wp2_with fail
                refine (HR.out (e1 + 1) _ (by omega)).mono ?_
                rintro e w' ⟨rfl, rfl⟩
                by_cases ht : e1 + 1 < run S (e1 + 1)
                · have hti : (e1 : Int) + 1 < (run S (e1 + 1) : Nat) := by omega
                  have HE : Hid (nFrac S e1 = run S (e1 + 1)) := Lib.hid (by unfold nFrac; rw [if_pos ⟨H46.out, ht⟩])
                  clear ht
                  go_wp2_with fail
                  go_meet
                  exact ⟨by rw [HE.out], rfl⟩
                · have hti : ((run S (e1 + 1) : Nat) : Int) ≤ (e1 : Int) + 1 := by omega
                  have HE : Hid (nFrac S e1 = e1) := Lib.hid (by unfold nFrac; rw [if_neg (fun h => ht h.2)])
                  clear ht
                  go_wp2_with fail
                  go_meet
                  exact ⟨by rw [HE.out], rfl⟩
            case rest =>
              obtain ⟨rfl, rfl⟩ := hcut
              have hfi := nFrac_in hNi
              obtain ⟨e2, he2⟩ : ∃ e2, nFrac S e1 = e2 := ⟨_, rfl⟩
              rw [he2] at hfi ⊢
              have hNf := hfi.1
              have HN2 : Hid (numLen S = nExp S e2) := Lib.hid (by rw [HN.out, he2])
              clear HN he2 hfi hNi hb1
              go_upto_region 13 with (fail)
              go_cut [66] (fun z wd => (∃ b : Bool, z = .bool b ∧ Aside (b = decide (bt S e2 = 101 ∨ bt S e2 = 69))) ∧ wd = wc)
              case first =>
                by_cases hl : e2 < S.size
                · have hc := bt_int hl
                  by_cases h101 : bt S e2 = 101
                  · have hq : ((bt S e2 : Int) == 101) = true := by rw [beq_iff_eq]; omega
                    have HE : Hid (decide (bt S e2 = 101 ∨ bt S e2 = 69) = true) := Lib.hid (decide_eq_true (Or.inl h101))
                    clear h101
                    go_wp2_with fail
                    go_meet
                    exact ⟨⟨_, rfl, HE.out.symm⟩, rfl⟩
                  · have hq : ((bt S e2 : Int) == 101) = false := by rw [beq_eq_false_iff_ne]; omega
                    have HE : Hid (decide (bt S e2 = 101 ∨ bt S e2 = 69) = decide (bt S e2 = 69)) := Lib.hid (by simp [h101])
                    clear h101
                    go_wp2_with fail
                    go_meet
                    exact ⟨⟨_, rfl, (beq_nat _ 69).trans HE.out.symm⟩, rfl⟩
                · have hl' : ¬ ((e2 : Int) < S.size) := by omega
                  have HB : Hid (bt S e2 = 256) := Lib.hid (bt_out (by omega))
                  go_wp2_with fail
                  go_meet
                  exact ⟨⟨_, rfl, by rw [HB.out]; rfl⟩, rfl⟩
              case rest =>
                obtain ⟨⟨b2, rfl, hb2⟩, rfl⟩ := hcut
                cases hbb : b2 with
                | false =>
                  have hne := of_decide_eq_false (hb2.out.symm.trans hbb)
                  have HE : Hid (numLen S = e2) := Lib.hid (by rw [HN2.out]; unfold nExp; rw [if_neg (fun h => hne h.1)])
                  clear hbb hne
                  go_wp2_with fail
                  go_ret
                  exact ⟨by rw [HE.out]; rfl, rfl⟩
                | true =>
                  have hee := of_decide_eq_true (hb2.out.symm.trans hbb)
                  have hl := bt_in (S := S) (i := e2) (by omega)
                  have HEE := Lib.hid hee
                  have hfr := nFrom_in hl
                  have HFR := Lib.hid hfr
                  clear hbb hee hfr
                  go_upto_region 15 with (fail)
                  go_cut [84] (fun z wd => (∃ b : Bool, z = .bool b ∧ Aside (b = decide (bt S (e2 + 1) = 43 ∨ bt S (e2 + 1) = 45))) ∧ wd = wc)
                  case first =>
                    by_cases hl2 : e2 + 1 < S.size
                    · have hc := bt_int hl2
                      have hl3 : (e2 : Int) + 1 < S.size := by omega
                      by_cases h43 : bt S (e2 + 1) = 43
                      · have hq : ((bt S (e2 + 1) : Int) == 43) = true := by rw [beq_iff_eq]; omega
                        have HE : Hid (decide (bt S (e2 + 1) = 43 ∨ bt S (e2 + 1) = 45) = true) := Lib.hid (decide_eq_true (Or.inl h43))
                        clear h43
                        go_wp2_with fail
                        go_meet
                        exact ⟨⟨_, rfl, HE.out.symm⟩, rfl⟩
                      · have hq : ((bt S (e2 + 1) : Int) == 43) = false := by rw [beq_eq_false_iff_ne]; omega
                        have HE : Hid (decide (bt S (e2 + 1) = 43 ∨ bt S (e2 + 1) = 45) = decide (bt S (e2 + 1) = 45)) := Lib.hid (by simp [h43])
                        clear h43
                        go_wp2_with fail
                        go_meet
                        exact ⟨⟨_, rfl, (beq_nat _ 45).trans HE.out.symm⟩, rfl⟩
                    · have hl' : (S.size : Int) ≤ (e2 : Int) + 1 := by omega
                      have HB : Hid (bt S (e2 + 1) = 256) := Lib.hid (bt_out (by omega))
                      go_wp2_with fail
                      go_meet
                      exact ⟨⟨_, rfl, by rw [HB.out]; rfl⟩, rfl⟩
                  case rest =>
                    obtain ⟨⟨b3, rfl, hb3⟩, rfl⟩ := hcut
                    go_upto_if 84 with (fail)
                    go_cut [6] (fun a wd => a = .int .i64 (nFrom S e2 : Nat) ∧ wd = wc)
                    case first =>
                      cases hbb : b3 with
                      | true =>
                        have HE : Hid (nFrom S e2 = e2 + 2) := Lib.hid (by unfold nFrom; rw [if_pos (of_decide_eq_true (hb3.out.symm.trans hbb))])
                        clear hbb
                        go_wp2_with fail
                        go_meet
                        exact ⟨by rw [HE.out]; go_num, rfl⟩
                      | false =>
                        have HE : Hid (nFrom S e2 = e2 + 1) := Lib.hid (by unfold nFrom; rw [if_neg (of_decide_eq_false (hb3.out.symm.trans hbb))])
                        clear hbb
                        go_wp2_with fail
                        go_meet
                        exact ⟨by rw [HE.out]; go_num, rfl⟩
                    case rest =>
                      obtain ⟨rfl, rfl⟩ := hcut
                      go_wp2_with fail
                      refine (HR.out (nFrom S e2) _ HFR.out.1).mono ?_
                      rintro e w' ⟨rfl, rfl⟩
                      by_cases ht : nFrom S e2 < run S (nFrom S e2)
                      · have hti : ((nFrom S e2 : Nat) : Int) < (run S (nFrom S e2) : Nat) := by omega
                        have HE : Hid (numLen S = run S (nFrom S e2)) := Lib.hid (by rw [HN2.out]; unfold nExp; rw [if_pos ⟨HEE.out, ht⟩])
                        clear ht
                        go_wp2_with fail
                        go_ret
                        exact ⟨by rw [HE.out]; rfl, rfl⟩
                      · have hti : ((run S (nFrom S e2) : Nat) : Int) ≤ (nFrom S e2 : Nat) := by omega
                        have HE : Hid (numLen S = e2) := Lib.hid (by rw [HN2.out]; unfold nExp; rw [if_neg (fun h => ht h.2)])
                        clear ht
                        go_wp2_with fail
                        go_ret
                        exact ⟨by rw [HE.out]; rfl, rfl⟩
end Go.Proofs.YtnpinogjajhlhaaGreatDoor.Fl
end
