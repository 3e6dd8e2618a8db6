/- A part of the proof that lexiconlaw03.NumsReads answers true at every kind and every text: DwSet. No condition. -/
import Derived.Test.YtnpinogjajhlhaaGreatDoorZ01
import Derived.Test.YtnpinogjajhlhaaGreatDoorZ13
import Derived.Test.YtnpinogjajhlhaaGreatDoorZ10
import Derived.Deep.DeepCutAuto
import Derived.Deep.CutBlock
import Derived.StillTailTactics
section
/- decimal.set, walked at a number's text. -/
namespace Go.Proofs.YtnpinogjajhlhaaGreatDoor.Fl
open Go.RowKit

def SetPost (b n : Nat) (g : Nat → Nat) (x : Int) (neg : Bool) (B : Nat) (w : World) (e : Ending) (w' : World) : Prop :=
  e = .returned (.bool true) ∧ ∃ (a : Nat → Int) (tr : Bool), DecAt w' b a (min n 800 : Nat) (1 + x) neg tr ∧ (∀ i, i < min n 800 → a i = 48 + (g i : Int)) ∧ (tr = true ↔ ∃ i, 800 ≤ i ∧ i < n ∧ g i ≠ 0) ∧ Below B w w'

set_option maxHeartbeats 4000000 in
set_option maxRecDepth 100000 in
theorem set_walk (b : Nat) (a0 : Nat → Int) (neg0 tr0 : Bool) (S : ByteArray) (neg : Bool) (n : Nat) (g : Nat → Nat) (en : Bool) (m : Nat) (h : Nat → Nat) (w : World) (hS : Txt S neg n g en m h) (hg0 : g 0 ≠ 0)
    (hdec : DecAt w b a0 0 0 neg0 tr0) (B : Nat) (hB : B ≤ b) :
    Calls Tryz.prog 173 #[.pointer (some ⟨b, 0, none⟩), .string S] w (SetPost b n g (ex h m en) neg B w) := by
  have AT : Hid (Txt S neg n g en m h ∧ g 0 ≠ 0 ∧ DecAt w b a0 0 0 neg0 tr0) := ⟨hS, hg0, hdec⟩
  have hbig := hS.big
  have hpos : 0 < S.size := by have := hS.size; omega
  have hpos1 : ¬ S = ByteArray.empty := fun hc => by rw [hc] at hpos; exact absurd hpos (by decide)
  clear hS hg0
  have cn := hdec.neg
  have ct := hdec.tr
  have cf := hdec.fr
  clear hdec
  go_enter Tryz.func173, Tryz.ntmps173
  go_upto_block 0 with (fail)
  go_cut [5] (fun i wc => i = .int .i64 (neg.toNat : Nat) ∧ Aside (DecAt wc b a0 0 0 neg false) ∧ Below B w wc)
  case first =>
    have hd := AT.out.2.2.setNeg false
    have hd2 := hd.setTr false
    cases hneg : neg with
    | false =>
      have hc := AT.out.1.d0 0 hpos (by rw [hneg]; rfl)
      have h9 := AT.out.1.g9 0 AT.out.1.pos
      have hc1 : ((S[0].toNat : Int) == 43) = false := by rw [beq_eq_false_iff_ne]; omega
      have hc2 : ((S[0].toNat : Int) == 45) = false := by rw [beq_eq_false_iff_ne]; omega
      have HD := Lib.hid hd2
      have HE := Lib.hid hneg
      clear hd hd2 hc h9 hneg
      go_wp2_with fail
      go_meet
      exact ⟨by rw [HE.out]; rfl, by rw [HE.out]; exact HD.out, ((Below.refl B w).setCell (p := ⟨b, _, none⟩) hB _).setCell (p := ⟨b, _, none⟩) hB _⟩
    | true =>
      have hc := AT.out.1.sign 0 hpos rfl hneg
      have hc1 : ((S[0].toNat : Int) == 43) = false := by rw [beq_eq_false_iff_ne]; omega
      have hc2 : ((S[0].toNat : Int) == 45) = true := by rw [beq_iff_eq]; omega
      have HD := Lib.hid (hd2.setNeg true)
      have HE := Lib.hid hneg
      clear hd hd2 hc hneg
      go_wp2_with fail
      go_meet
      exact ⟨by rw [HE.out]; rfl, by rw [HE.out]; exact HD.out, (((Below.refl B w).setCell (p := ⟨b, _, none⟩) hB _).setCell (p := ⟨b, _, none⟩) hB _).setCell (p := ⟨b, _, none⟩) hB _⟩
  case rest =>
    obtain ⟨rfl, hA, hb⟩ := hcut
    clear cn ct cf
    obtain ⟨o, ho⟩ : ∃ o, neg.toNat = o := ⟨_, rfl⟩
    rw [ho]
    have HO := Lib.hid ho
    have ho1 : o ≤ 1 := by rw [← ho]; cases neg <;> decide
    clear ho
    go_upto_block 1 with (fail)
    go_cut [5, 6, 7] (fun i sd sg wd => i = .int .i64 ((o + n + 1 : Nat) : Int) ∧ sd = .bool true ∧ sg = .bool true ∧
      Aside (∃ (a : Nat → Int) (tr : Bool), DecAt wd b a (min n 800 : Nat) 1 neg tr ∧ (∀ i, i < min n 800 → a i = 48 + (g i : Int)) ∧ (tr = true ↔ ∃ i, 800 ≤ i ∧ i < n ∧ g i ≠ 0)) ∧ Below B w wd)
    case first =>
      go_wp2_with fail
      go_loopg [5, 6, 7] (n + 1) (fun mm i sd sg wr => ∃ (k c : Nat) (sd' sg' : Bool), i = .int .i64 ((o + k : Nat) : Int) ∧ sd = .bool sd' ∧ sg = .bool sg' ∧
        Aside (mm = n + 1 - k ∧ k ≤ n + 1 ∧ c = (if k ≤ 1 then k else k - 1) ∧ sd' = decide (2 ≤ k) ∧ sg' = decide (1 ≤ k) ∧ ∃ (a : Nat → Int) (tr : Bool), DecAt wr b a (min c 800 : Nat) (if k ≤ 1 then 0 else 1) neg tr ∧ (∀ i, i < min c 800 → a i = 48 + (g i : Int)) ∧ (tr = true ↔ ∃ i, 800 ≤ i ∧ i < c ∧ g i ≠ 0)) ∧ Below B w wr)
      case atStart => exact ⟨0, 0, false, false, rfl, rfl, rfl, ⟨rfl, by omega, rfl, rfl, rfl, a0, false, hA.out, fun i hi => by omega, by simp⟩, hb⟩
      case round =>
        obtain ⟨k, c, sd', sg', rfl, rfl, rfl, hA2, hb2⟩ := hrel
        obtain ⟨h1, h2, h3, h4, h5, a, tr, hdec, h6, h7⟩ := hA2.out
        have hsz := AT.out.1.size
        have hlt : o + k < S.size := by have := HO.out; omega
        have cn := hdec.nd
        have cp := hdec.dp
        have ct := hdec.tr
        have cf := hdec.fr
        have HX : Hid (gk = n + 1 - k ∧ k ≤ n + 1 ∧ c = (if k ≤ 1 then k else k - 1) ∧ DecAt wr b a (min c 800 : Nat) (if k ≤ 1 then 0 else 1) neg tr ∧ (∀ i, i < min c 800 → a i = 48 + (g i : Int)) ∧ (tr = true ↔ ∃ i, 800 ≤ i ∧ i < c ∧ g i ≠ 0)) := ⟨h1, h2, h3, hdec, h6, h7⟩
        clear hdec h6 h7 hA2 h1 hsz
        by_cases hk0 : k = 0
        · subst hk0
          obtain rfl : sd' = false := h4
          obtain rfl : sg' = false := h5
          obtain rfl : c = 0 := h3
          have hlt0 : o < S.size := hlt
          have hc := AT.out.1.d0 o hlt0 HO.out.symm
          have hg9 := AT.out.1.g9 0 AT.out.1.pos
          have hg9' : (g 0 : Int) ≤ 9 := by omega
          have hg0' : 1 ≤ (g 0 : Int) := by have := AT.out.2.1; omega
          clear hg9 h2
          go_wp2_with fail
          go_still_tail 11, (by kernel_rfl)
          obtain ⟨-, -, -, q1, q2, q3⟩ := HX.out
          have q4 := q1.drew
          have cn2 : wr.drew.cell? ⟨b, 800, none⟩ = some (.int .i64 0) := q4.nd
          have cn1 : wr.cell? ⟨b, 800, none⟩ = some (.int .i64 0) := cn
          have cd2 := q4.dig 0 (by omega)
          clear cn
          have cf2 := q4.fr
          have hb3 := hb2.drew
          have HQ : Hid (DecAt wr.drew b a (min 0 800 : Nat) (if 0 ≤ 1 then 0 else 1) neg tr ∧ Below B w wr.drew ∧ (tr = true ↔ ∃ i, 800 ≤ i ∧ i < 0 ∧ g i ≠ 0) ∧ gk = n + 1 - 0) := ⟨q4, hb3, q3, HX.out.1⟩
          clear q1 q2 q3 q4 hb3
          change wpList _ _ _ _ _ wr.drew
          clear cn1 cp ct cf HX
          generalize wr.drew = w2 at *
          go_wp2_with fail
          go_roundg (n + 1 - 1)
          case measure => have := HQ.out.2.2.2; omega
          case rel =>
            obtain ⟨q1, q2, q3, -⟩ := HQ.out
            have q5 := (q1.setDig (k := 0) (by omega) (48 + (g 0 : Int))).setNd 1
            refine ⟨1, 1, false, true, by go_num, rfl, rfl, ⟨rfl, by omega, rfl, rfl, rfl, _, tr, q5, fun i hi => ?_, ?_⟩, ((q2.setCell (p := ⟨b, 0, none⟩) hB _).setCell (p := ⟨b, 800, none⟩) hB _)⟩
            · have : i = 0 := by omega
              rw [if_pos this, this]
            · rw [q3]; exact ⟨fun ⟨i, h1, h2, _⟩ => by omega, fun ⟨i, h1, h2, _⟩ => by omega⟩
        · by_cases hk1 : k = 1
          · subst hk1
            obtain rfl : sd' = false := h4
            obtain rfl : sg' = true := h5
            obtain rfl : c = 1 := h3
            have hlt1 : o + 1 < S.size := hlt
            have hc := AT.out.1.dot (o + 1) hlt1 (by rw [HO.out])
            clear h2
            have HC := Lib.hid (hb2.setCell (p := ⟨b, 801, none⟩) hB (.int .i64 1))
            go_wp2_with fail
            go_roundg (n + 1 - 2)
            case measure => have := HX.out.1; have := AT.out.1.pos; omega
            case rel =>
              obtain ⟨_, _, _, q1, q2, q3⟩ := HX.out
              exact ⟨2, 1, true, true, by go_num, rfl, rfl, ⟨rfl, by have := AT.out.1.pos; omega, rfl, rfl, rfl, a, tr, q1.setDp 1, q2, q3⟩, HC.out⟩
          · obtain rfl : sd' = true := by rw [h4]; exact decide_eq_true (by omega)
            obtain rfl : sg' = true := by rw [h5]; exact decide_eq_true (by omega)
            obtain rfl : c = k - 1 := by rw [h3, if_neg (by omega)]
            rw [if_neg (by omega)] at cp
            by_cases hke : k = n + 1
            · have hc := AT.out.1.e (o + k) hlt (by rw [HO.out]; omega)
              have HK := Lib.hid hke
              subst hke
              clear h3 h4 h5 h2 hk0 hk1
              go_wp2_with fail
              go_meet
              obtain ⟨_, _, _, q1, q2, q3⟩ := HX.out
              have hp := AT.out.1.pos
              rw [if_neg (by omega), Nat.add_sub_cancel] at q1
              rw [Nat.add_sub_cancel] at q2 q3
              exact ⟨by go_num, rfl, rfl, ⟨a, tr, q1, q2, q3⟩, hb2⟩
            · obtain ⟨i, hi⟩ : ∃ i, k = i + 1 := ⟨k - 1, by omega⟩
              subst hi
              have hc := AT.out.1.dig (o + (i + 1)) hlt i (by omega) (by omega) (by rw [HO.out]; omega)
              have hg9 := AT.out.1.g9 i (by omega)
              have hg9' : (g i : Int) ≤ 9 := by omega
              have hi0 : ¬ (i : Int) = 0 := by omega
              have HI1 : Hid (¬ i + 1 ≤ 1) := Lib.hid (by omega)
              have hin : (i : Int) < n := by omega
              have hn8 : (n : Int) ≤ 1152921504606846976 := by have := AT.out.1.size; omega
              clear hg9 h2 h3 h4 h5 hk0 hk1 hke
              by_cases h8 : i < 800
              · have hm : min (i + 1 - 1) 800 = i := by omega
                rw [hm] at cn
                have hi1 : ((i : Int) == 0) = false := by rw [beq_eq_false_iff_ne]; exact hi0
                have hi8 : (i : Int) < 800 := by omega
                have HM := Lib.hid hm
                clear hm hi0
                go_wp2_with fail
                all_goals
                  go_still_tail 11, (by kernel_rfl)
                  obtain ⟨-, -, -, q1, q2, q3⟩ := HX.out
                  rw [HM.out, if_neg HI1.out] at q1
                  have q4 := q1.drew
                  have cn2 := q4.nd
                  have cn1 := cn
                  have cd2 := q4.dig i (by omega)
                  have cf2 := q4.fr
                  have hb3 := hb2.drew
                  have HQ : Hid (DecAt wr.drew b a (i : Nat) 1 neg tr ∧ Below B w wr.drew ∧ (∀ j, j < min (i + 1 - 1) 800 → a j = 48 + (g j : Int)) ∧ (tr = true ↔ ∃ j, 800 ≤ j ∧ j < i + 1 - 1 ∧ g j ≠ 0) ∧ gk = n + 1 - (i + 1)) := ⟨q4, hb3, q2, q3, HX.out.1⟩
                  clear q1 q2 q3 q4 hb3 cn cn1 cp ct cf HX
                  change wpList _ _ _ _ _ wr.drew
                  generalize wr.drew = w2 at *
                  go_wp2_with fail
                  go_roundg (n + 1 - (i + 1 + 1))
                  case measure => have := HQ.out.2.2.2.2; omega
                  case rel =>
                    obtain ⟨q1, q2, q3, q6, -⟩ := HQ.out
                    have q5 := (q1.setDig (k := i) (by omega) (48 + (g i : Int))).setNd ((i + 1 : Nat) : Int)
                    refine ⟨i + 2, i + 1, true, true, by go_num, rfl, rfl, ⟨rfl, by omega, ?_, ?_, ?_, fun j => if j = i then 48 + (g i : Int) else a j, tr, ?_, fun j hj => ?_, ?_⟩, ((q2.setCell (p := ⟨b, i, none⟩) hB _).setCell (p := ⟨b, 800, none⟩) hB _)⟩
                    · rw [if_neg (by omega)]; omega
                    · exact (decide_eq_true (by omega)).symm
                    · exact (decide_eq_true (by omega)).symm
                    · rw [if_neg (by omega), show min (i + 1) 800 = i + 1 by omega]; first | exact q5 | (have hh : (48 : Int) + (g i : Int) = 48 := (by assumption); rw [hh] at q5 ⊢; exact q5)
                    · by_cases e : j = i
                      · simp only [e, if_true]
                      · simp only [if_neg e]; exact q3 j (by omega)
                    · rw [q6]; exact ⟨fun ⟨j, h1, h2, _⟩ => by omega, fun ⟨j, h1, h2, _⟩ => by omega⟩
              · have hm : min (i + 1 - 1) 800 = 800 := by omega
                rw [hm] at cn
                have HM := Lib.hid hm
                clear hm
                by_cases hgi : g i = 0
                · have hc0 : (S[o + (i + 1)].toNat : Int) = 48 := by rw [hc, hgi]; rfl
                  have HG := Lib.hid hgi
                  clear hgi hc hi0
                  go_wp2_with fail
                  go_roundg (n + 1 - (i + 1 + 1))
                  case measure => have := HX.out.1; omega
                  case rel =>
                    obtain ⟨-, -, -, q1, q2, q3⟩ := HX.out
                    rw [HM.out, if_neg HI1.out] at q1
                    refine ⟨i + 2, i + 1, true, true, by go_num, rfl, rfl, ⟨rfl, by omega, ?_, ?_, ?_, a, tr, ?_, fun j hj => q2 j (by have := HM.out; omega), ?_⟩, hb2⟩
                    · rw [if_neg (by omega)]; omega
                    · exact (decide_eq_true (by omega)).symm
                    · exact (decide_eq_true (by omega)).symm
                    · rw [if_neg (by omega), show min (i + 1) 800 = 800 by have := HM.out; omega]; exact q1
                    · rw [q3]
                      exact ⟨fun ⟨j, h1, h2, h3⟩ => ⟨j, h1, by omega, h3⟩, fun ⟨j, h1, h2, h3⟩ => ⟨j, h1, by have : j ≠ i := (fun e => h3 (by rw [e]; exact HG.out)); omega, h3⟩⟩
                · have hc0 : ((48 : Int) + (g i : Int) == 48) = false := by rw [beq_eq_false_iff_ne]; omega
                  have hc1 : ((48 : Int) + (g i : Int) != 48) = true := by simp; omega
                  have HG := Lib.hid hgi
                  clear hgi hi0
                  go_wp2_with fail
                  go_roundg (n + 1 - (i + 1 + 1))
                  case measure => have := HX.out.1; omega
                  case rel =>
                    obtain ⟨-, -, -, q1, q2, q3⟩ := HX.out
                    rw [HM.out, if_neg HI1.out] at q1
                    have q5 := q1.setTr true
                    refine ⟨i + 2, i + 1, true, true, by go_num, rfl, rfl, ⟨rfl, by omega, ?_, ?_, ?_, a, true, ?_, fun j hj => q2 j (by have := HM.out; omega), ?_⟩, hb2.setCell (p := ⟨b, 803, none⟩) hB _⟩
                    · rw [if_neg (by omega)]; omega
                    · exact (decide_eq_true (by omega)).symm
                    · exact (decide_eq_true (by omega)).symm
                    · rw [if_neg (by omega), show min (i + 1) 800 = 800 by have := HM.out; omega]; exact q5
                    · exact ⟨fun _ => ⟨i, by omega, by omega, HG.out⟩, fun _ => rfl⟩
    case rest =>
      obtain ⟨rfl, rfl, rfl, hA3, hb3⟩ := hcut
      obtain ⟨a, tr, hdec, h6, h7⟩ := hA3.out
      have cp := hdec.dp
      have cf := hdec.fr
      have HX : Hid (DecAt wc b a (min n 800 : Nat) 1 neg tr ∧ (∀ i, i < min n 800 → a i = 48 + (g i : Int)) ∧ (tr = true ↔ ∃ i, 800 ≤ i ∧ i < n ∧ g i ≠ 0)) := ⟨hdec, h6, h7⟩
      clear hdec h6 h7 hA3
      have hsz := AT.out.1.size
      rw [HO.out] at hsz
      have hmp := AT.out.1.mpos
      have hlt : o + n + 1 < S.size := by omega
      have hc := AT.out.1.e (o + n + 1) hlt (by rw [HO.out])
      have hlt2 : o + n + 1 + 1 < S.size := by omega
      have hlow : bits .or .u8 101 32 = 101 := by decide +kernel
      have HSZ := Lib.hid hsz
      have HL := Lib.hid (lower_walk 101)
      clear hsz
      go_wp2_with fail
      refine (HL.out _).mono ?_
      rintro e w' ⟨rfl, rfl⟩
      rw [hlow]
      go_upto_block 4 with (fail)
      obtain ⟨q, hq⟩ : ∃ q, o + n + 2 = q := ⟨_, rfl⟩
      obtain ⟨l, hl⟩ : ∃ l, en.toNat = l := ⟨_, rfl⟩
      have hl1 : l ≤ 1 := by rw [← hl]; cases en <;> decide
      have HQ : Hid (o + n + 2 = q ∧ en.toNat = l ∧ S.size = q + l + m) := ⟨hq, hl, by rw [← hq, ← hl]; exact HSZ.out⟩
      have hq8 : (o : Int) + n + 2 = q := by omega
      have HQ8 := Lib.hid hq8
      clear hl
      go_cut [5, 8] (fun i es wd => i = .int .i64 ((q + l : Nat) : Int) ∧ (∃ r : Int, es = .int .i64 r ∧ Aside (r = if en = true then -1 else 1)) ∧ wd = w')
      case first =>
        cases hen : en with
        | true =>
          have hc2 := AT.out.1.es (o + n + 1 + 1) hlt2 (by rw [HO.out]) hen
          have HE := Lib.hid hen
          clear hen hq hq8
          go_wp2_with fail
          go_meet
          have h1 := HE.out
          have h2 := HQ.out
          rw [h1] at h2
          have h3 : (1 : Nat) = l := h2.2.1
          exact ⟨congrArg (Value.int .i64) (by omega), ⟨-1, rfl, by rw [h1]; rfl⟩, rfl⟩
        | false =>
          have h2 := HQ.out
          rw [hen] at h2
          have h3 : (0 : Nat) = l := h2.2.1
          have hc2 := AT.out.1.ed (o + n + 1 + 1) hlt2 0 (by omega) (by rw [HO.out, hen]; rfl)
          have h9 := AT.out.1.h9 0 (by omega)
          have h9' : (h 0 : Int) ≤ 9 := by omega
          have hx1 : ((48 : Int) + (h 0 : Int) == 43) = false := by rw [beq_eq_false_iff_ne]; omega
          have hx2 : ((48 : Int) + (h 0 : Int) == 45) = false := by rw [beq_eq_false_iff_ne]; omega
          have HE := Lib.hid hen
          have H3 := Lib.hid h3
          clear hen hq hq8 h2 h3 h9
          go_wp2_with fail
          go_meet
          exact ⟨congrArg (Value.int .i64) (by have := HQ.out; have := H3.out; omega), ⟨1, rfl, by rw [HE.out]; rfl⟩, rfl⟩
      case rest =>
        obtain ⟨rfl, ⟨r, rfl, hr⟩, rfl⟩ := hcut
        have hlt3 : q + l < S.size := by have := HQ.out; omega
        have hc2 := AT.out.1.ed (q + l) hlt3 0 (by omega) (by have h1 := HO.out; have h2 := HQ.out; omega)
        have h9 := AT.out.1.h9 0 (by omega)
        have h9' : (h 0 : Int) ≤ 9 := by omega
        have hr1 : -1 ≤ r ∧ r ≤ 1 := by rw [hr.out]; split <;> omega
        obtain ⟨hr1, hr2⟩ := hr1
        have hq8' : (q : Int) ≤ 1152921504606846976 := by have := HQ.out; omega
        clear hq hq8 h9
        go_upto_block 5 with (fail)
        go_cut [5, 9] (fun i ev wd => i = .int .i64 (S.size : Nat) ∧ ev = .int .i64 (cl h m : Nat) ∧ wd = wc)
        case first =>
          go_wp2_with fail
          go_loopg [5, 9] m (fun mm i ev wr => ∃ j : Nat, i = .int .i64 ((q + l + j : Nat) : Int) ∧ ev = .int .i64 (cl h j : Nat) ∧ Aside (mm = m - j ∧ j ≤ m) ∧ wr = wc)
          case atStart => exact ⟨0, rfl, rfl, ⟨rfl, by omega⟩, rfl⟩
          case round =>
            obtain ⟨j, rfl, rfl, hA4, rfl⟩ := hrel
            by_cases hj : j < m
            · have hlt4 : q + l + j < S.size := by have := HQ.out; omega
              have hc3 := AT.out.1.ed (q + l + j) hlt4 j hj (by have h1 := HO.out; have h2 := HQ.out; omega)
              have h9j := AT.out.1.h9 j hj
              have h9k : (h j : Int) ≤ 9 := by omega
              have hcl := cl_le (h := h) (m := j) (fun i hi => AT.out.1.h9 i (by omega))
              obtain ⟨z, hz⟩ : ∃ z, cl h j = z := ⟨_, rfl⟩
              rw [hz] at hcl ⊢
              have HZ := Lib.hid hz
              have hcl8 : (z : Int) ≤ 99999 := by omega
              clear hc2 h9' h9j hz hcl
              by_cases h1 : z < 10000
              · have h1i : (z : Int) < 10000 := by omega
                have H1 := Lib.hid h1
                clear h1
                go_wp2_with fail
                go_roundg (m - (j + 1))
                case measure => have := hA4.out; omega
                case rel => exact ⟨j + 1, by go_num, by rw [cl, HZ.out, if_pos H1.out]; exact congrArg (Value.int .i64) (by push_cast; omega), ⟨rfl, by omega⟩, rfl⟩
              · have h1i : ¬ (z : Int) < 10000 := by omega
                have H1 := Lib.hid h1
                clear h1
                go_wp2_with fail
                go_roundg (m - (j + 1))
                case measure => have := hA4.out; omega
                case rel => exact ⟨j + 1, by go_num, by rw [cl, HZ.out, if_neg H1.out], ⟨rfl, by omega⟩, rfl⟩
            · have hje : j = m := by have := hA4.out; omega
              subst hje
              have hnl : ¬ ((q : Int) + l + j < S.size) := by have := HQ.out; omega
              go_wp2_with fail
              go_meet
              exact ⟨congrArg (Value.int .i64) (by have := HQ.out; omega), rfl, rfl⟩
        case rest =>
          obtain ⟨rfl, rfl, rfl⟩ := hcut
          have hcl := cl_le (h := h) (m := m) AT.out.1.h9
          obtain ⟨z, hz⟩ : ∃ z, cl h m = z := ⟨_, rfl⟩
          rw [hz] at hcl ⊢
          have hcl8 : (z : Int) ≤ 99999 := by omega
          have hb1 : -99999 ≤ (z : Int) * r ∧ (z : Int) * r ≤ 99999 := by
            rw [hr.out]; split <;> omega
          obtain ⟨hb1, hb2⟩ := hb1
          have hex : (z : Int) * r = ex h m en := by
            rw [hr.out, ex, hz]; split <;> omega
          have HEX := Lib.hid hex
          clear hex hz hcl hc2 h9'
          go_wp2_with fail
          go_ret
          exact ⟨rfl, a, tr, by rw [← HEX.out]; exact HX.out.1.setDp _, HX.out.2.1, HX.out.2.2, hb3.setCell (p := ⟨b, 801, none⟩) hB _⟩
end Go.Proofs.YtnpinogjajhlhaaGreatDoor.Fl
end
