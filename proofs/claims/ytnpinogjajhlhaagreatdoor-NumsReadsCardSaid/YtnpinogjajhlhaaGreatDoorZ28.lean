/- A part of the proof that lexiconlaw03.NumsReads answers true at every kind and every text: DwNum2, DwExpo, Shape. No condition. -/
import Derived.Test.YtnpinogjajhlhaaGreatDoorZ27
import Derived.Test.YtnpinogjajhlhaaGreatDoorZ25
import Derived.Test.YtnpinogjajhlhaaGreatDoorZ26
import Derived.Lib.SmallJoins
import Derived.WalkSmall
section
/- The program's Number, walked. -/
namespace Go.Proofs.YtnpinogjajhlhaaGreatDoor.Fl
open Go.RowKit

theorem bt_list (S : ByteArray) (i : Nat) : bt S i = match S.data.toList[i]? with | some c => c.toNat | none => 256 := by
  unfold bt
  by_cases h : i < S.size
  · rw [dif_pos h]
    have h2 : i < S.data.toList.length := by rw [Array.length_toList]; exact h
    rw [List.getElem?_eq_getElem h2]
    rfl
  · rw [dif_neg h]
    have h2 : S.data.toList.length ≤ i := by rw [Array.length_toList]; exact Nat.le_of_not_lt h
    rw [List.getElem?_eq_none h2]

theorem hasPrefix_minus (S : ByteArray) : Lib.hasPrefix S.data.toList [45] = decide (bt S 0 = 45) := by
  rw [bt_list]
  unfold Lib.hasPrefix
  cases hL : S.data.toList with
  | nil => rfl
  | cons c r =>
    simp only [List.isPrefixOf, List.getElem?_cons_zero, Bool.and_true]
    by_cases h : c = 45
    · subst h; rfl
    · have h2 : ¬ c.toNat = 45 := fun hc => h (UInt8.toNat_inj.1 hc)
      rw [decide_eq_false h2]
      exact beq_eq_false_iff_ne.2 (fun e => h e.symm)

set_option maxRecDepth 100000 in
theorem pnum_walk (S : ByteArray) (hb : S.size ≤ 1152921504606846976) (w : World) : Calls Tryz.prog 7 #[.string S] w (IntEndU .i64 (numLen S : Nat) w) := by
  have hdg : ∀ (i : Nat) w, i ≤ S.size → Calls Tryz.prog 20 #[.string (S.extract i S.size)] w (fun e w' => ∃ d : Nat, e = .returned (.int .i64 d) ∧ i + d = run S i ∧ w' = w) := fun i w hi => by
    refine (digits_walk (S.extract i S.size) (by rw [extract_size]; omega) w).mono ?_
    rintro e w' ⟨rfl, rfl⟩
    exact ⟨_, rfl, run_extract 0, rfl⟩
  have HD := Lib.hid hdg
  have HP := Lib.hid (fun w => Tryz.strings_HasPrefix S ⟨#[45]⟩ w)
  clear hdg
  go_enter Tryz.func7, Tryz.ntmps7
  go_wp2_with fail
  refine (HP.out _).mono ?_
  rintro e w' ⟨rfl, rfl⟩
  rw [hasPrefix_minus]
  obtain ⟨b0, hb0⟩ : ∃ b, decide (bt S 0 = 45) = b := ⟨_, rfl⟩
  have HB0 := Lib.hid hb0
  rw [hb0]
  clear hb0
  go_upto_if 9 with (fail)
  go_cut [3] (fun a wd => a = .int .i64 (nSign S : Nat) ∧ wd = w')
  case first =>
    cases hbb : b0 with
    | true =>
      have HE : Hid (nSign S = 1) := Lib.hid (by unfold nSign; rw [if_pos (of_decide_eq_true (HB0.out.trans hbb))])
      clear hbb
      go_wp2_with fail
      go_meet
      exact ⟨by rw [HE.out]; rfl, rfl⟩
    | false =>
      have HE : Hid (nSign S = 0) := Lib.hid (by unfold nSign; rw [if_neg (of_decide_eq_false (HB0.out.trans hbb))])
      clear hbb
      go_wp2_with fail
      go_meet
      exact ⟨by rw [HE.out]; rfl, rfl⟩
  case rest =>
    obtain ⟨rfl, rfl⟩ := hcut
    have hs1 := nSign_in S
    obtain ⟨o, ho⟩ : ∃ o, nSign S = o := ⟨_, rfl⟩
    have HO := Lib.hid ho
    rw [ho] at hs1 ⊢
    clear ho
    go_wp2_with fail
    refine (HD.out o _ hs1).mono ?_
    rintro e w' ⟨d, rfl, hd, rfl⟩
    have HDD := Lib.hid hd
    clear hd
    by_cases h0 : d = 0
    · subst h0
      have HZ : Hid (numLen S = 0) := Lib.hid (by unfold numLen; rw [HO.out, if_pos (by have := HDD.out; omega)])
      go_wp2_with fail
      go_ret
      exact ⟨by rw [HZ.out]; rfl, rfl⟩
    · have hne : ((d : Int) == 0) = false := by rw [beq_eq_false_iff_ne]; omega
      have h0' : run S o ≠ o := by have := HDD.out; omega
      have hle := run_le hs1
      have hN : numLen S = nExp S (nFrac S (nInt S)) := by unfold numLen; rw [HO.out, if_neg h0']
      have hI : nInt S = if bt S o = 48 then o + 1 else o + d := by unfold nInt; rw [HO.out, HDD.out]
      have hII := nInt_in (S := S) (by rw [HO.out]; exact h0')
      have HI : Hid (numLen S = nExp S (nFrac S (nInt S)) ∧ (nInt S = if bt S o = 48 then o + 1 else o + d) ∧ nInt S ≤ S.size) := ⟨hN, hI, hII.1⟩
      have hol : o < S.size := by have := HDD.out; omega
      have hod : (o : Int) + d ≤ S.size := by have := HDD.out; omega
      have hc := bt_int hol
      clear hN hI hII h0 h0' hle
      go_upto_if 19 with (fail)
      go_cut [4] (fun a wd => (∃ z : Nat, a = .int .i64 z ∧ Aside (o + z = nInt S)) ∧ wd = w')
      case first =>
        by_cases h48 : bt S o = 48
        · have hq : ((bt S o : Int) == 48) = true := by rw [beq_iff_eq]; omega
          have HE : Hid (o + 1 = nInt S) := Lib.hid (by rw [HI.out.2.1, if_pos h48])
          clear h48
          go_wp2_with fail
          go_meet
          exact ⟨⟨1, rfl, HE.out⟩, rfl⟩
        · have hq : ((bt S o : Int) == 48) = false := by rw [beq_eq_false_iff_ne]; omega
          have HE : Hid (o + d = nInt S) := Lib.hid (by rw [HI.out.2.1, if_neg h48])
          clear h48
          go_wp2_with fail
          go_meet
          exact ⟨⟨d, rfl, HE.out⟩, rfl⟩
      case rest =>
        obtain ⟨⟨z, rfl, hz⟩, rfl⟩ := hcut
        have hNi := HI.out.2.2
        obtain ⟨e1, he1⟩ : ∃ e1, nInt S = e1 := ⟨_, rfl⟩
        have hze : (o : Int) + z = (e1 : Int) := by have := hz.out; omega
        rw [he1] at hNi
        have HN : Hid (numLen S = nExp S (nFrac S e1)) := Lib.hid (by rw [HI.out.1, he1])
        clear HI he1 hc hne hod hol HO hz HDD
        go_upto_region 10 with (fail)
        go_cut [32] (fun z wd => (∃ b : Bool, z = .bool b ∧ Aside (b = decide (bt S e1 = 46))) ∧ wd = wc)
        case first =>
          by_cases hl : e1 < S.size
          · have hc := bt_int hl
            go_wp2_with fail
            go_meet
            exact ⟨⟨_, rfl, beq_nat _ 46⟩, rfl⟩
          · have hl' : ¬ ((e1 : Int) < S.size) := by omega
            have HB : Hid (bt S e1 = 256) := Lib.hid (bt_out (by omega))
            go_wp2_with fail
            go_meet
            exact ⟨⟨_, rfl, by rw [HB.out]; rfl⟩, rfl⟩
        case rest =>
          obtain ⟨⟨b1, rfl, hb1⟩, rfl⟩ := hcut
          go_upto_if 32 with (fail)
          go_cut [3] (fun a wd => a = .int .i64 (nFrac S e1 : Nat) ∧ wd = wc)
          case first =>
            cases hbb : b1 with
            | false =>
              have hne := of_decide_eq_false (hb1.out.symm.trans hbb)
              have HE : Hid (nFrac S e1 = e1) := Lib.hid (by unfold nFrac; rw [if_neg (fun h => hne h.1)])
              clear hbb hne
              go_wp2_with fail
              go_meet
              exact ⟨by rw [HE.out], rfl⟩
            | true =>
              have h46 := of_decide_eq_true (hb1.out.symm.trans hbb)
              have hl := bt_in (S := S) (i := e1) (by omega)
              have H46 := Lib.hid h46
              clear hbb h46
              go_wp2_with fail
              refine (HD.out (e1 + 1) _ (by omega)).mono ?_
              rintro e w' ⟨d2, rfl, hd2, rfl⟩
              have HD2 := Lib.hid hd2
              have hd2s : (e1 : Int) + 1 + d2 ≤ S.size := by have := run_le (S := S) (i := e1 + 1) (by omega); omega
              clear hd2
              by_cases ht : e1 + 1 < run S (e1 + 1)
              · have hti : 0 < (d2 : Int) := by have := HD2.out; omega
                have HE : Hid (nFrac S e1 = run S (e1 + 1)) := Lib.hid (by unfold nFrac; rw [if_pos ⟨H46.out, ht⟩])
                clear ht
                go_wp2_with fail
                go_meet
                exact ⟨by rw [HE.out, ← HD2.out]; exact congrArg (Value.int .i64) (by push_cast; omega), rfl⟩
              · have hti : ¬ 0 < (d2 : Int) := by have := HD2.out; omega
                have HE : Hid (nFrac S e1 = e1) := Lib.hid (by unfold nFrac; rw [if_neg (fun h => ht h.2)])
                clear ht
                go_wp2_with fail
                go_meet
                exact ⟨by rw [HE.out], rfl⟩
          case rest =>
            obtain ⟨rfl, rfl⟩ := hcut
            have hfi := nFrac_in hNi
            obtain ⟨e2, he2⟩ : ∃ e2, nFrac S e1 = e2 := ⟨_, rfl⟩
            rw [he2] at hfi ⊢
            have hNf := hfi.1
            have HN2 : Hid (numLen S = nExp S e2) := Lib.hid (by rw [HN.out, he2])
            clear HN he2 hfi hNi hb1
            go_upto_region 14 with (fail)
            go_cut [59] (fun z wd => (∃ b : Bool, z = .bool b ∧ Aside (b = decide (bt S e2 = 101 ∨ bt S e2 = 69))) ∧ wd = wc)
            case first =>
              by_cases hl : e2 < S.size
              · have hc := bt_int hl
                by_cases h101 : bt S e2 = 101
                · have hq : ((bt S e2 : Int) == 101) = true := by rw [beq_iff_eq]; omega
                  have HE : Hid (decide (bt S e2 = 101 ∨ bt S e2 = 69) = true) := Lib.hid (decide_eq_true (Or.inl h101))
                  clear h101
                  go_wp2_with fail
                  go_meet
                  exact ⟨⟨_, rfl, HE.out.symm⟩, rfl⟩
                · have hq : ((bt S e2 : Int) == 101) = false := by rw [beq_eq_false_iff_ne]; omega
                  have HE : Hid (decide (bt S e2 = 101 ∨ bt S e2 = 69) = decide (bt S e2 = 69)) := Lib.hid (by simp [h101])
                  clear h101
                  go_wp2_with fail
                  go_meet
                  exact ⟨⟨_, rfl, (beq_nat _ 69).trans HE.out.symm⟩, rfl⟩
              · have hl' : ¬ ((e2 : Int) < S.size) := by omega
                have HB : Hid (bt S e2 = 256) := Lib.hid (bt_out (by omega))
                go_wp2_with fail
                go_meet
                exact ⟨⟨_, rfl, by rw [HB.out]; rfl⟩, rfl⟩
            case rest =>
              obtain ⟨⟨b2, rfl, hb2⟩, rfl⟩ := hcut
              cases hbb : b2 with
              | false =>
                have hne := of_decide_eq_false (hb2.out.symm.trans hbb)
                have HE : Hid (numLen S = e2) := Lib.hid (by rw [HN2.out]; unfold nExp; rw [if_neg (fun h => hne h.1)])
                clear hbb hne
                go_wp2_with fail
                go_ret
                exact ⟨by rw [HE.out]; rfl, rfl⟩
              | true =>
                have hee := of_decide_eq_true (hb2.out.symm.trans hbb)
                have hl := bt_in (S := S) (i := e2) (by omega)
                have HEE := Lib.hid hee
                have hfr := nFrom_in hl
                have HFR := Lib.hid hfr
                clear hbb hee hfr
                go_upto_region 16 with (fail)
                go_cut [77] (fun z wd => (∃ b : Bool, z = .bool b ∧ Aside (b = decide (bt S (e2 + 1) = 43 ∨ bt S (e2 + 1) = 45))) ∧ wd = wc)
                case first =>
                  by_cases hl2 : e2 + 1 < S.size
                  · have hc := bt_int hl2
                    have hl3 : (e2 : Int) + 1 < S.size := by omega
                    by_cases h43 : bt S (e2 + 1) = 43
                    · have hq : ((bt S (e2 + 1) : Int) == 43) = true := by rw [beq_iff_eq]; omega
                      have HE : Hid (decide (bt S (e2 + 1) = 43 ∨ bt S (e2 + 1) = 45) = true) := Lib.hid (decide_eq_true (Or.inl h43))
                      clear h43
                      go_wp2_with fail
                      go_meet
                      exact ⟨⟨_, rfl, HE.out.symm⟩, rfl⟩
                    · have hq : ((bt S (e2 + 1) : Int) == 43) = false := by rw [beq_eq_false_iff_ne]; omega
                      have HE : Hid (decide (bt S (e2 + 1) = 43 ∨ bt S (e2 + 1) = 45) = decide (bt S (e2 + 1) = 45)) := Lib.hid (by simp [h43])
                      clear h43
                      go_wp2_with fail
                      go_meet
                      exact ⟨⟨_, rfl, (beq_nat _ 45).trans HE.out.symm⟩, rfl⟩
                  · have hl' : (S.size : Int) ≤ (e2 : Int) + 1 := by omega
                    have HB : Hid (bt S (e2 + 1) = 256) := Lib.hid (bt_out (by omega))
                    go_wp2_with fail
                    go_meet
                    exact ⟨⟨_, rfl, by rw [HB.out]; rfl⟩, rfl⟩
                case rest =>
                  obtain ⟨⟨b3, rfl, hb3⟩, rfl⟩ := hcut
                  go_upto_if 77 with (fail)
                  go_cut [6] (fun a wd => a = .int .i64 (nFrom S e2 : Nat) ∧ wd = wc)
                  case first =>
                    cases hbb : b3 with
                    | true =>
                      have HE : Hid (nFrom S e2 = e2 + 2) := Lib.hid (by unfold nFrom; rw [if_pos (of_decide_eq_true (hb3.out.symm.trans hbb))])
                      clear hbb
                      go_wp2_with fail
                      go_meet
                      exact ⟨by rw [HE.out]; go_num, rfl⟩
                    | false =>
                      have HE : Hid (nFrom S e2 = e2 + 1) := Lib.hid (by unfold nFrom; rw [if_neg (of_decide_eq_false (hb3.out.symm.trans hbb))])
                      clear hbb
                      go_wp2_with fail
                      go_meet
                      exact ⟨by rw [HE.out]; go_num, rfl⟩
                  case rest =>
                    obtain ⟨rfl, rfl⟩ := hcut
                    have hfr2 : ((nFrom S e2 : Nat) : Int) ≤ S.size := by have := HFR.out.1; omega
                    go_wp2_with fail
                    refine (HD.out (nFrom S e2) _ HFR.out.1).mono ?_
                    rintro e w' ⟨d3, rfl, hd3, rfl⟩
                    have HD3 := Lib.hid hd3
                    have hd3s : ((nFrom S e2 : Nat) : Int) + d3 ≤ S.size := by have := run_le HFR.out.1; omega
                    clear hd3
                    by_cases ht : nFrom S e2 < run S (nFrom S e2)
                    · have hti : 0 < (d3 : Int) := by have := HD3.out; omega
                      have HE : Hid (numLen S = run S (nFrom S e2)) := Lib.hid (by rw [HN2.out]; unfold nExp; rw [if_pos ⟨HEE.out, ht⟩])
                      clear ht
                      go_wp2_with fail
                      go_ret
                      exact ⟨by rw [HE.out, ← HD3.out]; exact congrArg (fun z => Ending.returned (.int .i64 z)) (by push_cast; rfl), rfl⟩
                    · have hti : ¬ 0 < (d3 : Int) := by have := HD3.out; omega
                      have HE : Hid (numLen S = e2) := Lib.hid (by rw [HN2.out]; unfold nExp; rw [if_neg (fun h => ht h.2)])
                      clear ht
                      go_wp2_with fail
                      go_ret
                      exact ⟨by rw [HE.out]; rfl, rfl⟩
end Go.Proofs.YtnpinogjajhlhaaGreatDoor.Fl
end
section
/- exponent, walked. -/
namespace Go.Proofs.YtnpinogjajhlhaaGreatDoor.Fl
open Go.RowKit

/-- The library's error of the range, below B. -/
def ErrsAt (w : World) (B : Nat) : Prop := 4 < B ∧ ∃ tp p, w.var? Tryz.prog "strconv.ErrRange" = some #[.iface tp p]

theorem ErrsAt.below {w w' : World} {B : Nat} (h : ErrsAt w B) (hb : Below B w w') : ErrsAt w' B := by
  obtain ⟨h0, tp, p, h1⟩ := h
  exact ⟨h0, tp, p, var?_below hb (by kernel_rfl) h0 h1⟩

theorem ErrsAt.range {w : World} {B : Nat} (h : ErrsAt w B) : RangeAt w B := by
  obtain ⟨h0, tp, p, h1⟩ := h
  exact ⟨h0, tp, p, World.var?_cell (by kernel_rfl) h1 0⟩

def IntEndB (r : Int) (B : Nat) (w : World) (e : Ending) (w' : World) : Prop := e = .returned (.int .i64 r) ∧ Below B w w'

theorem expo_walk (S : ByteArray) (sg es : List UInt8) (hS : S.data.toList = sg ++ es) (hs : SignL sg) (hd : allD es) (hne : es ≠ []) (hlim : S.size ≤ 281474976710656) (w : World) (B : Nat) (hB : B ≤ w.heap.size) (hE : ErrsAt w B) :
    Calls Tryz.prog 23 #[.string S] w (IntEndB (cx sg es) B w) := by
  rcases atoi_ev hs hd hne with ⟨h1, h2, h3⟩ | ⟨h1, h2⟩
  · have HA := Lib.hid (Tryz.strconv_Atoi_ok S (by omega) (ev sg es) (by rw [hS]; exact h1) w)
    have HC : Hid (cx sg es = min (max (ev sg es) (-1099511627776)) 1099511627776) := Lib.hid rfl
    obtain ⟨v, hv⟩ : ∃ v, ev sg es = v := ⟨_, rfl⟩
    rw [hv] at HA HC h2 h3
    clear hS hs hd hne h1 hv hE
    go_enter Tryz.func23, Tryz.ntmps23
    go_wp2_with fail
    refine HA.out.mono ?_
    rintro e w' ⟨rfl, hw⟩
    have hb : Below B w w' := by
      rcases hw with rfl | ⟨t, rfl⟩
      · exact Below.refl _ _
      · exact Go.Joins.below_bytesWorld B w 5 t hB
    clear hw
    go_wp2_with fail
    go_ret
    exact ⟨by rw [HC.out]; rfl, hb⟩
  · obtain ⟨-, tp, p, hv⟩ := hE
    have HA := Lib.hid (Tryz.strconv_Atoi_range_var S hlim (by rw [hS]; exact h1) tp p w hv)
    have hpos : 0 < S.size := by
      have : S.data.toList.length = (sg ++ es).length := by rw [hS]
      rw [Array.length_toList, List.length_append] at this
      have h3 : 0 < es.length := List.length_pos_iff.2 hne
      have h4 : S.data.size = S.size := rfl
      omega
    have hc := bt_int hpos
    rcases h2 with ⟨h45, hl⟩ | ⟨h45, hl⟩
    · have hb0 : bt S 0 = 45 := by rw [bt_list, hS, h45]; rfl
      have hq : ((bt S 0 : Int) == 45) = true := by rw [hb0]; rfl
      have HC : Hid (cx sg es = -1099511627776) := Lib.hid (by unfold cx; omega)
      clear hS hs hd hne h1 hv hb0 h45 hl
      go_enter Tryz.func23, Tryz.ntmps23
      go_wp2_with fail
      refine HA.out.mono ?_
      rintro e w' ⟨N, rfl, -, -, hb⟩
      have hbb := hb.mono hB
      clear hb
      go_wp2_with fail
      go_ret
      exact ⟨by rw [HC.out]; rfl, hbb⟩
    · have hb0 : bt S 0 ≠ 45 := by
        rw [bt_list, hS]
        rcases hs with rfl | rfl | rfl
        · cases es with
          | nil => exact absurd rfl hne
          | cons c r =>
            have := hd c (List.mem_cons_self ..)
            simp; omega
        · simp
        · exact absurd rfl h45
      have hq : ((bt S 0 : Int) == 45) = false := by rw [beq_eq_false_iff_ne]; omega
      have HC : Hid (cx sg es = 1099511627776) := Lib.hid (by unfold cx; omega)
      clear hS hs hd hne h1 hv hb0 h45 hl
      go_enter Tryz.func23, Tryz.ntmps23
      go_wp2_with fail
      refine HA.out.mono ?_
      rintro e w' ⟨N, rfl, -, -, hb⟩
      have hbb := hb.mono hB
      clear hb
      go_wp2_with fail
      go_ret
      exact ⟨by rw [HC.out]; rfl, hbb⟩
end Go.Proofs.YtnpinogjajhlhaaGreatDoor.Fl
end
section
/- A text that is a NUMBER from end to end: its parts. No program here. -/
namespace Go.Proofs.YtnpinogjajhlhaaGreatDoor.Fl

structure NumL (L : List UInt8) (neg : Bool) (ds : List UInt8) (pt : Bool) (fs : List UInt8) (hx : Bool) (c : UInt8) (sg es : List UInt8) : Prop where
  eq : L = (if neg = true then [45] else []) ++ (ds ++ ((if pt = true then 46 :: fs else []) ++ (if hx = true then c :: (sg ++ es) else [])))
  ds0 : ds ≠ []
  dsd : allD ds
  fsd : allD fs
  fs0 : pt = false → fs = []
  fs1 : pt = true → fs ≠ []
  cc : c = 101 ∨ c = 69
  sgn : SignL sg
  esd : allD es
  es1 : hx = true → es ≠ []
  es0 : hx = false → sg = [] ∧ es = []

/-- A piece of a list. -/
def sl (L : List UInt8) (i j : Nat) : List UInt8 := (L.drop i).take (j - i)

theorem sl_append (L : List UInt8) {i j k : Nat} (h1 : i ≤ j) (h2 : j ≤ k) : sl L i k = sl L i j ++ sl L j k := by
  unfold sl
  have e : L.drop j = (L.drop i).drop (j - i) := by rw [List.drop_drop]; congr 1; omega
  rw [e, show k - i = (j - i) + (k - j) by omega, List.take_add]

theorem sl_mem {L : List UInt8} {i j : Nat} {x : UInt8} (h : x ∈ sl L i j) : ∃ k, i ≤ k ∧ k < j ∧ L[k]? = some x := by
  unfold sl at h
  obtain ⟨m, hm⟩ := List.mem_iff_getElem?.1 h
  rw [List.getElem?_take] at hm
  split at hm
  · rename_i hlt
    rw [List.getElem?_drop] at hm
    exact ⟨i + m, by omega, by omega, hm⟩
  · cases hm

theorem sl_len {L : List UInt8} {i j : Nat} (h : j ≤ L.length) (hij : i ≤ j) : (sl L i j).length = j - i := by
  unfold sl; rw [List.length_take, List.length_drop]; omega

theorem sl_one {L : List UInt8} {i : Nat} {x : UInt8} (h : L[i]? = some x) : sl L i (i + 1) = [x] := by
  unfold sl
  obtain ⟨hl, he⟩ := List.getElem?_eq_some_iff.1 h
  rw [List.drop_eq_getElem_cons hl, show i + 1 - i = 1 by omega, he]; rfl

theorem sl_all (L : List UInt8) : sl L 0 L.length = L := by unfold sl; simp

variable {S : ByteArray}

theorem at_list {k : Nat} {x : UInt8} (h : S.data.toList[k]? = some x) : bt S k = x.toNat := by
  obtain ⟨hl, he⟩ := List.getElem?_eq_some_iff.1 h
  rw [Array.length_toList] at hl
  have hl2 : k < S.size := hl
  rw [← bt_of hl2, ← he]; rfl

theorem list_at {k : Nat} (h : k < S.size) : ∃ x, S.data.toList[k]? = some x ∧ x.toNat = bt S k := by
  have hl : k < S.data.toList.length := by rw [Array.length_toList]; exact h
  exact ⟨_, List.getElem?_eq_getElem hl, by rw [← bt_of h]; rfl⟩

theorem byte_eq {k : Nat} {b : Nat} (hb : b < 256) (h : bt S k = b) : S.data.toList[k]? = some (UInt8.ofNat b) := by
  obtain ⟨x, h1, h2⟩ := list_at (S := S) (k := k) (bt_in (by omega))
  rw [h1]
  congr 1
  apply UInt8.toNat_inj.1
  rw [h2, h, UInt8.toNat_ofNat']
  omega

theorem sl_digits {i j : Nat} (h : ∀ k, i ≤ k → k < j → dgt S k) : allD (sl S.data.toList i j) := by
  intro x hx
  obtain ⟨k, h1, h2, h3⟩ := sl_mem hx
  have := h k h1 h2
  unfold dgt at this
  rw [at_list h3] at this
  exact this

theorem sl_ne {i j : Nat} (h : i < j) (hj : j ≤ S.size) : sl S.data.toList i j ≠ [] := by
  intro hc
  have hl : j ≤ S.data.toList.length := by rw [Array.length_toList]; exact hj
  have := sl_len hl (Nat.le_of_lt h)
  rw [hc] at this
  simp at this; omega

theorem shape_of (h : numLen S = S.size) (h0 : 0 < S.size) : ∃ neg ds pt fs hx c sg es, NumL S.data.toList neg ds pt fs hx c sg es := by
  have hlen : S.data.toList.length = S.size := Array.length_toList
  have hrun : run S (nSign S) ≠ nSign S := fun hc => by unfold numLen at h; rw [if_pos hc] at h; omega
  have hN : nExp S (nFrac S (nInt S)) = S.size := by unfold numLen at h; rw [if_neg hrun] at h; exact h
  obtain ⟨r1, r2, r3⟩ := run_props S (nSign S)
  have hs : nSign S ≤ S.size := by
    unfold nSign; split
    · rename_i h; have := bt_in (S := S) (i := 0) (by omega); omega
    · omega
  have hrl := run_le hs
  -- the digits ahead of the point
  have hI : nSign S < nInt S ∧ nInt S ≤ S.size ∧ ∀ k, nSign S ≤ k → k < nInt S → dgt S k := by
    unfold nInt; split
    · refine ⟨by omega, by omega, fun k h1 h2 => r2 k h1 (by omega)⟩
    · exact ⟨by omega, hrl, r2⟩
  obtain ⟨i1, i2, i3⟩ := hI
  obtain ⟨e1, he1⟩ : ∃ e1, nInt S = e1 := ⟨_, rfl⟩
  rw [he1] at i1 i2 i3 hN
  -- the fraction
  have hF : ∃ pt fs, sl S.data.toList e1 (nFrac S e1) = (if pt = true then 46 :: fs else []) ∧ allD fs ∧ (pt = false → fs = []) ∧ (pt = true → fs ≠ []) ∧ e1 ≤ nFrac S e1 ∧ nFrac S e1 ≤ S.size := by
    unfold nFrac
    by_cases hc : bt S e1 = 46 ∧ e1 + 1 < run S (e1 + 1)
    · rw [if_pos hc]
      have hin := bt_in (S := S) (i := e1) (by omega)
      have hle := run_le (S := S) (i := e1 + 1) (by omega)
      refine ⟨true, sl S.data.toList (e1 + 1) (run S (e1 + 1)), ?_, sl_digits (run_props S (e1 + 1)).2.1, fun h => Bool.noConfusion h, fun _ => sl_ne hc.2 hle, by omega, hle⟩
      rw [sl_append _ (show e1 ≤ e1 + 1 by omega) (Nat.le_of_lt hc.2), sl_one (byte_eq (by omega) hc.1)]
      rfl
    · rw [if_neg hc]
      exact ⟨false, [], by unfold sl; simp, fun x hx => absurd hx (List.not_mem_nil), fun _ => rfl, fun h => Bool.noConfusion h, Nat.le_refl _, i2⟩
  obtain ⟨pt, fs, f1, f2, f3, f4, f5, f6⟩ := hF
  obtain ⟨e2, he2⟩ : ∃ e2, nFrac S e1 = e2 := ⟨_, rfl⟩
  rw [he2] at f1 f5 f6 hN
  -- the exponent
  have hE : ∃ hx c sg es, sl S.data.toList e2 S.size = (if hx = true then c :: (sg ++ es) else []) ∧ (c = 101 ∨ c = 69) ∧ SignL sg ∧ allD es ∧ (hx = true → es ≠ []) ∧ (hx = false → sg = [] ∧ es = []) := by
    unfold nExp at hN
    by_cases hc : (bt S e2 = 101 ∨ bt S e2 = 69) ∧ nFrom S e2 < run S (nFrom S e2)
    · rw [if_pos hc] at hN
      have hin := bt_in (S := S) (i := e2) (by omega)
      have hfr : e2 + 1 ≤ nFrom S e2 ∧ SignL (sl S.data.toList (e2 + 1) (nFrom S e2)) := by
        unfold nFrom
        by_cases hsg : bt S (e2 + 1) = 43 ∨ bt S (e2 + 1) = 45
        · rw [if_pos hsg]
          refine ⟨by omega, ?_⟩
          rcases hsg with hsg | hsg
          · rw [sl_one (byte_eq (by omega) hsg)]; exact Or.inr (Or.inl rfl)
          · rw [sl_one (byte_eq (by omega) hsg)]; exact Or.inr (Or.inr rfl)
        · rw [if_neg hsg]
          exact ⟨by omega, Or.inl (by unfold sl; simp)⟩
      have hcc : ∃ c : UInt8, S.data.toList[e2]? = some c ∧ (c = 101 ∨ c = 69) := by
        rcases hc.1 with hc1 | hc1
        · exact ⟨_, byte_eq (by omega) hc1, Or.inl rfl⟩
        · exact ⟨_, byte_eq (by omega) hc1, Or.inr rfl⟩
      obtain ⟨c, hc1, hc2⟩ := hcc
      refine ⟨true, c, sl S.data.toList (e2 + 1) (nFrom S e2), sl S.data.toList (nFrom S e2) S.size, ?_, hc2, hfr.2, ?_, fun _ => ?_, fun h => Bool.noConfusion h⟩
      · rw [sl_append _ (show e2 ≤ e2 + 1 by omega) (show e2 + 1 ≤ S.size by omega), sl_one hc1, sl_append _ hfr.1 (show nFrom S e2 ≤ S.size by omega)]
        rfl
      · rw [← hN]; exact sl_digits (run_props S (nFrom S e2)).2.1
      · exact sl_ne (by omega) (Nat.le_refl _)
    · rw [if_neg hc] at hN
      refine ⟨false, 101, [], [], by rw [hN]; unfold sl; simp, Or.inl rfl, Or.inl rfl, fun x hx => absurd hx (List.not_mem_nil), fun h => Bool.noConfusion h, fun _ => ⟨rfl, rfl⟩⟩
  obtain ⟨hx, c, sg, es, x1, x2, x3, x4, x5, x6⟩ := hE
  refine ⟨decide (bt S 0 = 45), sl S.data.toList (nSign S) e1, pt, fs, hx, c, sg, es, ⟨?_, sl_ne i1 i2, sl_digits i3, f2, f3, f4, x2, x3, x4, x5, x6⟩⟩
  rw [← f1, ← x1, ← sl_append _ f5 f6, ← sl_append _ (Nat.le_of_lt i1) i2]
  have hsign : (if decide (bt S 0 = 45) = true then [(45 : UInt8)] else []) = sl S.data.toList 0 (nSign S) := by
    unfold nSign
    by_cases h45 : bt S 0 = 45
    · rw [if_pos (decide_eq_true h45), if_pos h45]
      exact (sl_one (byte_eq (by omega) h45)).symm
    · rw [if_neg (by simpa using h45), if_neg h45]
      unfold sl; simp
  rw [hsign, ← sl_append _ (Nat.zero_le _) hs, ← hlen, sl_all]

end Go.Proofs.YtnpinogjajhlhaaGreatDoor.Fl
end
