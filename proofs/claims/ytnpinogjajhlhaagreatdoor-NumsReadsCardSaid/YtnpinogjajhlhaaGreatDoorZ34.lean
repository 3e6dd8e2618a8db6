/- A part of the proof that lexiconlaw03.NumsReads answers true at every kind and every text: DwFit2. No condition. -/
import Derived.Test.YtnpinogjajhlhaaGreatDoorZ33
section
/- fit, walked: a whole number's bits. -/
namespace Go.Proofs.YtnpinogjajhlhaaGreatDoor.Fl
open Go.RowKit

/-- A whole number as a number of an integer sort. -/
def fitV (s : Int) (minus : Bool) (N : Nat) : Option Nat :=
  if minus = true then
    (if s = 2 then (if N ≤ 2147483648 then some ((18446744073709551616 - N) % 18446744073709551616) else none)
     else if s = 3 then (if N ≤ 9223372036854775808 then some ((18446744073709551616 - N) % 18446744073709551616) else none)
     else (if N = 0 then some 0 else none))
  else
    (if s = 2 then (if N < 2147483648 then some N else none)
     else if s = 3 then (if N < 9223372036854775808 then some N else none)
     else if s = 4 then (if N < 4294967296 then some N else none)
     else (if N < 18446744073709551616 then some N else none))

def FitPost (o : Option Nat) (B : Nat) (w : World) (e : Ending) (w' : World) : Prop :=
  ((∃ b, o = some b ∧ e = .returned (.tuple #[.int .u64 (b : Nat), .int .i64 0])) ∨ (o = none ∧ e = .returned (.tuple #[.int .u64 0, .int .i64 31]))) ∧ Below B w w'

theorem fits2 (n : Nat) : fitsS 2 n = decide (n < 2147483648 ∨ 18446744071562067968 ≤ n) := by unfold fitsS; rw [if_neg (by decide), if_neg (by decide), if_pos rfl]
theorem fits4 (n : Nat) : fitsS 4 n = decide (n < 4294967296) := by unfold fitsS; rw [if_neg (by decide), if_neg (by decide), if_neg (by decide), if_pos (Or.inl rfl)]
theorem fits3 (n : Nat) : fitsS 3 n = true := by unfold fitsS; rw [if_neg (by decide), if_neg (by decide), if_neg (by decide), if_neg (by decide)]
theorem fits5 (n : Nat) : fitsS 5 n = true := by unfold fitsS; rw [if_neg (by decide), if_neg (by decide), if_neg (by decide), if_neg (by decide)]

theorem fit_pure (N : Nat) (hN : N < 18446744073709551616) :
    (9223372036854775808 < N → fitV 2 true N = none ∧ fitV 3 true N = none) ∧ (N ≤ 9223372036854775808 → fitV 2 true N = (if fitsS 2 ((18446744073709551616 - N) % 18446744073709551616) = true then some ((18446744073709551616 - N) % 18446744073709551616) else none) ∧ fitV 3 true N = some ((18446744073709551616 - N) % 18446744073709551616)) ∧
    (0 < N → fitV 4 true N = none ∧ fitV 5 true N = none) ∧ (N = 0 → fitV 4 true N = some 0 ∧ fitV 5 true N = some 0) ∧
    (9223372036854775808 ≤ N → fitV 2 false N = none ∧ fitV 3 false N = none) ∧ (N < 9223372036854775808 → fitV 2 false N = (if fitsS 2 N = true then some N else none) ∧ fitV 3 false N = some N) ∧
    fitV 4 false N = (if fitsS 4 N = true then some N else none) ∧ fitV 5 false N = some N := by
  refine ⟨fun h => ⟨?_, ?_⟩, fun h => ⟨?_, ?_⟩, fun h => ⟨?_, ?_⟩, fun h => ⟨?_, ?_⟩, fun h => ⟨?_, ?_⟩, fun h => ⟨?_, ?_⟩, ?_, ?_⟩
  · simp [fitV]; omega
  · simp [fitV]; omega
  · rw [fits2]
    simp only [fitV, if_true]
    by_cases h2 : N ≤ 2147483648
    · rw [if_pos h2, decide_eq_true (by omega), if_pos rfl]
    · rw [if_neg h2, decide_eq_false (by omega), if_neg (by decide)]
  · simp [fitV]; omega
  · simp [fitV]; omega
  · simp [fitV]; omega
  · simp [fitV]; omega
  · simp [fitV]; omega
  · simp [fitV]; omega
  · simp [fitV]; omega
  · rw [fits2]
    simp only [fitV, Bool.false_eq_true, if_false, if_true]
    by_cases h2 : N < 2147483648
    · rw [if_pos h2, decide_eq_true (by omega), if_pos rfl]
    · rw [if_neg h2, decide_eq_false (by omega), if_neg (by decide)]
  · simp [fitV]; omega
  · rw [fits4]; simp [fitV]
  · simp [fitV]; omega

theorem fit_over (N : Nat) (hN : 18446744073709551616 ≤ N) (s : Int) (m : Bool) : fitV s m N = none := by
  unfold fitV
  cases m with
  | true => rw [if_pos rfl]; repeat (split; · rw [if_neg (by omega)])
            rw [if_neg (by omega)]
  | false => rw [if_neg Bool.false_ne_true]; repeat (split; · rw [if_neg (by omega)])
             rw [if_neg (by omega)]

set_option maxHeartbeats 4000000 in
set_option maxRecDepth 100000 in
theorem fit_walk (k : Int) (minus : Bool) (Dg : ByteArray) (hd : allD Dg.data.toList) (hne : Dg.data.toList ≠ []) (hlim : Dg.size ≤ 281474976710656) (w : World) (B : Nat) (hB : B ≤ w.heap.size) (hE : ErrsAt w B)
    (hs : sortK k = 2 ∨ sortK k = 3 ∨ sortK k = 4 ∨ sortK k = 5) : Calls Tryz.prog 21 #[.int .u8 k, .bool minus, .string Dg] w (FitPost (fitV (sortK k) minus (nv Dg.data.toList)) B w) := by
  obtain ⟨N, hNN⟩ : ∃ N, nv Dg.data.toList = N := ⟨_, rfl⟩
  have hpm := parseMag_digits hd hne
  rw [← Lib.parseUintB_64, hNN] at hpm
  rw [hNN]
  rcases hpm with ⟨hN, hpm⟩ | ⟨hN, hpm⟩
  · have HP := Lib.hid (Tryz.strconv_ParseUint_10_at64_ok Dg (by omega) _ hpm w)
    have HS := Lib.hid (sort_walk k)
    have HF := Lib.hid (fits_walk k)
    have HN : Hid _ := Lib.hid (fit_pure N hN)
    obtain ⟨v, hv⟩ : ∃ v, (18446744073709551616 - N) % 18446744073709551616 = v := ⟨_, rfl⟩
    have hvw : IntKind.u64.wrap (-(N : Int)) = (v : Int) := by rw [IntKind.wrap_u64]; omega
    have HVW := Lib.hid hvw
    have HV : Hid (v < 18446744073709551616 ∧ N < 18446744073709551616 ∧ (N = 0 → v = 0)) := ⟨by omega, hN, by omega⟩
    rw [hv] at HN
    clear hpm hNN hN hd hne hE hv hvw
    rcases hs with hs | hs | hs | hs <;> rw [hs] at HS HF ⊢ <;> clear hs <;> cases minus
    · by_cases hc : 9223372036854775808 ≤ N
      · have hq : decide ((9223372036854775808 : Int) ≤ (N : Int)) = true := decide_eq_true (by omega)
        have HC := Lib.hid hc
        clear hc
        go_enter Tryz.func21, Tryz.ntmps21
        go_wp2_with fail
        refine HP.out.mono ?_
        rintro e w' ⟨rfl, hw⟩
        have hb : Below B w w' := by
          rcases hw with rfl | rfl
          · exact Below.refl _ _
          · exact Go.Joins.below_bytesWorld B w 5 Dg hB
        clear hw
        go_wp2_with fail
        refine (HS.out _).mono ?_
        rintro e w2 ⟨rfl, rfl⟩
        go_wp2_with fail
        go_ret2
        exact ⟨Or.inr ⟨(HN.out.2.2.2.2.1 HC.out).1, rfl⟩, hb⟩
      · have hq : decide ((9223372036854775808 : Int) ≤ (N : Int)) = false := decide_eq_false (by omega)
        have HC := Lib.hid hc
        clear hc
        go_enter Tryz.func21, Tryz.ntmps21
        go_wp2_with fail
        refine HP.out.mono ?_
        rintro e w' ⟨rfl, hw⟩
        have hb : Below B w w' := by
          rcases hw with rfl | rfl
          · exact Below.refl _ _
          · exact Go.Joins.below_bytesWorld B w 5 Dg hB
        clear hw
        go_wp2_with fail
        refine (HS.out _).mono ?_
        rintro e w2 ⟨rfl, rfl⟩
        go_wp2_with fail
        refine (HF.out N HV.out.2.1 _).mono ?_
        rintro e w3 ⟨rfl, rfl⟩
        cases hf : fitsS 2 N with
        | true =>
          have HFF : Hid (fitV 2 false N = some N) := Lib.hid (by have h := (HN.out.2.2.2.2.2.1 (Nat.lt_of_not_le HC.out)).1; rw [hf] at h; exact h)
          clear hf
          go_wp2_with fail
          go_ret2
          exact ⟨Or.inl ⟨N, HFF.out, rfl⟩, hb⟩
        | false =>
          have HFF : Hid (fitV 2 false N = none) := Lib.hid (by have h := (HN.out.2.2.2.2.2.1 (Nat.lt_of_not_le HC.out)).1; rw [hf] at h; exact h)
          clear hf
          go_wp2_with fail
          go_ret2
          exact ⟨Or.inr ⟨HFF.out, rfl⟩, hb⟩
    · by_cases hc : 9223372036854775808 < N
      · have hq : decide ((9223372036854775808 : Int) < (N : Int)) = true := decide_eq_true (by omega)
        have HC := Lib.hid hc
        clear hc
        go_enter Tryz.func21, Tryz.ntmps21
        go_wp2_with fail
        refine HP.out.mono ?_
        rintro e w' ⟨rfl, hw⟩
        have hb : Below B w w' := by
          rcases hw with rfl | rfl
          · exact Below.refl _ _
          · exact Go.Joins.below_bytesWorld B w 5 Dg hB
        clear hw
        go_wp2_with fail
        refine (HS.out _).mono ?_
        rintro e w2 ⟨rfl, rfl⟩
        go_wp2_with fail
        go_ret2
        exact ⟨Or.inr ⟨(HN.out.1 HC.out).1, rfl⟩, hb⟩
      · have hq : decide ((9223372036854775808 : Int) < (N : Int)) = false := decide_eq_false (by omega)
        have HC := Lib.hid hc
        clear hc
        go_enter Tryz.func21, Tryz.ntmps21
        go_wp2_with fail
        refine HP.out.mono ?_
        rintro e w' ⟨rfl, hw⟩
        have hb : Below B w w' := by
          rcases hw with rfl | rfl
          · exact Below.refl _ _
          · exact Go.Joins.below_bytesWorld B w 5 Dg hB
        clear hw
        go_wp2_with fail
        refine (HS.out _).mono ?_
        rintro e w2 ⟨rfl, rfl⟩
        go_wp2_with fail
        rw [HVW.out]
        refine (HF.out v HV.out.1 _).mono ?_
        rintro e w3 ⟨rfl, rfl⟩
        cases hf : fitsS 2 v with
        | true =>
          have HFF : Hid (fitV 2 true N = some v) := Lib.hid (by have h := (HN.out.2.1 (Nat.le_of_not_lt HC.out)).1; rw [hf] at h; exact h)
          clear hf
          go_wp2_with fail
          go_ret2
          exact ⟨Or.inl ⟨v, HFF.out, rfl⟩, hb⟩
        | false =>
          have HFF : Hid (fitV 2 true N = none) := Lib.hid (by have h := (HN.out.2.1 (Nat.le_of_not_lt HC.out)).1; rw [hf] at h; exact h)
          clear hf
          go_wp2_with fail
          go_ret2
          exact ⟨Or.inr ⟨HFF.out, rfl⟩, hb⟩
    · by_cases hc : 9223372036854775808 ≤ N
      · have hq : decide ((9223372036854775808 : Int) ≤ (N : Int)) = true := decide_eq_true (by omega)
        have HC := Lib.hid hc
        clear hc
        go_enter Tryz.func21, Tryz.ntmps21
        go_wp2_with fail
        refine HP.out.mono ?_
        rintro e w' ⟨rfl, hw⟩
        have hb : Below B w w' := by
          rcases hw with rfl | rfl
          · exact Below.refl _ _
          · exact Go.Joins.below_bytesWorld B w 5 Dg hB
        clear hw
        go_wp2_with fail
        refine (HS.out _).mono ?_
        rintro e w2 ⟨rfl, rfl⟩
        go_wp2_with fail
        go_ret2
        exact ⟨Or.inr ⟨(HN.out.2.2.2.2.1 HC.out).2, rfl⟩, hb⟩
      · have hq : decide ((9223372036854775808 : Int) ≤ (N : Int)) = false := decide_eq_false (by omega)
        have HC := Lib.hid hc
        clear hc
        go_enter Tryz.func21, Tryz.ntmps21
        go_wp2_with fail
        refine HP.out.mono ?_
        rintro e w' ⟨rfl, hw⟩
        have hb : Below B w w' := by
          rcases hw with rfl | rfl
          · exact Below.refl _ _
          · exact Go.Joins.below_bytesWorld B w 5 Dg hB
        clear hw
        go_wp2_with fail
        refine (HS.out _).mono ?_
        rintro e w2 ⟨rfl, rfl⟩
        go_wp2_with fail
        refine (HF.out N HV.out.2.1 _).mono ?_
        rintro e w3 ⟨rfl, rfl⟩
        rw [fits3]
        go_wp2_with fail
        go_ret2
        exact ⟨Or.inl ⟨N, (HN.out.2.2.2.2.2.1 (Nat.lt_of_not_le HC.out)).2, rfl⟩, hb⟩
    · by_cases hc : 9223372036854775808 < N
      · have hq : decide ((9223372036854775808 : Int) < (N : Int)) = true := decide_eq_true (by omega)
        have HC := Lib.hid hc
        clear hc
        go_enter Tryz.func21, Tryz.ntmps21
        go_wp2_with fail
        refine HP.out.mono ?_
        rintro e w' ⟨rfl, hw⟩
        have hb : Below B w w' := by
          rcases hw with rfl | rfl
          · exact Below.refl _ _
          · exact Go.Joins.below_bytesWorld B w 5 Dg hB
        clear hw
        go_wp2_with fail
        refine (HS.out _).mono ?_
        rintro e w2 ⟨rfl, rfl⟩
        go_wp2_with fail
        go_ret2
        exact ⟨Or.inr ⟨(HN.out.1 HC.out).2, rfl⟩, hb⟩
      · have hq : decide ((9223372036854775808 : Int) < (N : Int)) = false := decide_eq_false (by omega)
        have HC := Lib.hid hc
        clear hc
        go_enter Tryz.func21, Tryz.ntmps21
        go_wp2_with fail
        refine HP.out.mono ?_
        rintro e w' ⟨rfl, hw⟩
        have hb : Below B w w' := by
          rcases hw with rfl | rfl
          · exact Below.refl _ _
          · exact Go.Joins.below_bytesWorld B w 5 Dg hB
        clear hw
        go_wp2_with fail
        refine (HS.out _).mono ?_
        rintro e w2 ⟨rfl, rfl⟩
        go_wp2_with fail
        rw [HVW.out]
        refine (HF.out v HV.out.1 _).mono ?_
        rintro e w3 ⟨rfl, rfl⟩
        rw [fits3]
        go_wp2_with fail
        go_ret2
        exact ⟨Or.inl ⟨v, (HN.out.2.1 (Nat.le_of_not_lt HC.out)).2, rfl⟩, hb⟩
    · go_enter Tryz.func21, Tryz.ntmps21
      go_wp2_with fail
      refine HP.out.mono ?_
      rintro e w' ⟨rfl, hw⟩
      have hb : Below B w w' := by
        rcases hw with rfl | rfl
        · exact Below.refl _ _
        · exact Go.Joins.below_bytesWorld B w 5 Dg hB
      clear hw
      go_wp2_with fail
      refine (HS.out _).mono ?_
      rintro e w2 ⟨rfl, rfl⟩
      go_wp2_with fail
      refine (HF.out N HV.out.2.1 _).mono ?_
      rintro e w3 ⟨rfl, rfl⟩
      cases hf : fitsS 4 N with
      | true =>
        have HFF : Hid (fitV 4 false N = some N) := Lib.hid (by have h := HN.out.2.2.2.2.2.2.1; rw [hf] at h; exact h)
        clear hf
        go_wp2_with fail
        go_ret2
        exact ⟨Or.inl ⟨N, HFF.out, rfl⟩, hb⟩
      | false =>
        have HFF : Hid (fitV 4 false N = none) := Lib.hid (by have h := HN.out.2.2.2.2.2.2.1; rw [hf] at h; exact h)
        clear hf
        go_wp2_with fail
        go_ret2
        exact ⟨Or.inr ⟨HFF.out, rfl⟩, hb⟩
    · by_cases hc : 0 < N
      · have hq : decide ((0 : Int) < (N : Int)) = true := decide_eq_true (by omega)
        have hci : 0 < (N : Int) := by omega
        have HC := Lib.hid hc
        clear hc
        go_enter Tryz.func21, Tryz.ntmps21
        go_wp2_with fail
        refine HP.out.mono ?_
        rintro e w' ⟨rfl, hw⟩
        have hb : Below B w w' := by
          rcases hw with rfl | rfl
          · exact Below.refl _ _
          · exact Go.Joins.below_bytesWorld B w 5 Dg hB
        clear hw
        go_wp2_with fail
        refine (HS.out _).mono ?_
        rintro e w2 ⟨rfl, rfl⟩
        go_wp2_with fail
        go_ret2
        exact ⟨Or.inr ⟨(HN.out.2.2.1 HC.out).1, rfl⟩, hb⟩
      · obtain rfl : N = 0 := by omega
        have hv0 := HV.out.2.2 rfl
        subst hv0
        go_enter Tryz.func21, Tryz.ntmps21
        go_wp2_with fail
        refine HP.out.mono ?_
        rintro e w' ⟨rfl, hw⟩
        have hb : Below B w w' := by
          rcases hw with rfl | rfl
          · exact Below.refl _ _
          · exact Go.Joins.below_bytesWorld B w 5 Dg hB
        clear hw
        go_wp2_with fail
        refine (HS.out _).mono ?_
        rintro e w2 ⟨rfl, rfl⟩
        go_wp2_with fail
        refine (HF.out 0 (by decide) _).mono ?_
        rintro e w3 ⟨rfl, rfl⟩
        rw [show fitsS 4 0 = true by rw [fits4]; rfl]
        go_wp2_with fail
        go_ret2
        exact ⟨Or.inl ⟨0, by decide, rfl⟩, hb⟩
    · go_enter Tryz.func21, Tryz.ntmps21
      go_wp2_with fail
      refine HP.out.mono ?_
      rintro e w' ⟨rfl, hw⟩
      have hb : Below B w w' := by
        rcases hw with rfl | rfl
        · exact Below.refl _ _
        · exact Go.Joins.below_bytesWorld B w 5 Dg hB
      clear hw
      go_wp2_with fail
      refine (HS.out _).mono ?_
      rintro e w2 ⟨rfl, rfl⟩
      go_wp2_with fail
      refine (HF.out N HV.out.2.1 _).mono ?_
      rintro e w3 ⟨rfl, rfl⟩
      rw [fits5]
      go_wp2_with fail
      go_ret2
      exact ⟨Or.inl ⟨N, HN.out.2.2.2.2.2.2.2, rfl⟩, hb⟩
    · by_cases hc : 0 < N
      · have hq : decide ((0 : Int) < (N : Int)) = true := decide_eq_true (by omega)
        have hci : 0 < (N : Int) := by omega
        have HC := Lib.hid hc
        clear hc
        go_enter Tryz.func21, Tryz.ntmps21
        go_wp2_with fail
        refine HP.out.mono ?_
        rintro e w' ⟨rfl, hw⟩
        have hb : Below B w w' := by
          rcases hw with rfl | rfl
          · exact Below.refl _ _
          · exact Go.Joins.below_bytesWorld B w 5 Dg hB
        clear hw
        go_wp2_with fail
        refine (HS.out _).mono ?_
        rintro e w2 ⟨rfl, rfl⟩
        go_wp2_with fail
        go_ret2
        exact ⟨Or.inr ⟨(HN.out.2.2.1 HC.out).2, rfl⟩, hb⟩
      · obtain rfl : N = 0 := by omega
        have hv0 := HV.out.2.2 rfl
        subst hv0
        go_enter Tryz.func21, Tryz.ntmps21
        go_wp2_with fail
        refine HP.out.mono ?_
        rintro e w' ⟨rfl, hw⟩
        have hb : Below B w w' := by
          rcases hw with rfl | rfl
          · exact Below.refl _ _
          · exact Go.Joins.below_bytesWorld B w 5 Dg hB
        clear hw
        go_wp2_with fail
        refine (HS.out _).mono ?_
        rintro e w2 ⟨rfl, rfl⟩
        go_wp2_with fail
        refine (HF.out 0 (by decide) _).mono ?_
        rintro e w3 ⟨rfl, rfl⟩
        rw [show fitsS 5 0 = true by exact fits5 0]
        go_wp2_with fail
        go_ret2
        exact ⟨Or.inl ⟨0, by decide, rfl⟩, hb⟩
  · obtain ⟨-, tp, p, hvv⟩ := hE
    have HP := Lib.hid (Tryz.strconv_ParseUint_10_at64_range_var Dg hlim hpm tp p w hvv)
    rw [fit_over N hN]
    clear hs hpm hNN hN hd hne hvv
    go_enter Tryz.func21, Tryz.ntmps21
    go_wp2_with fail
    refine HP.out.mono ?_
    rintro e w' ⟨z, rfl, -, -, hb⟩
    have hbb := hb.mono hB
    clear hb
    go_wp2_with fail
    go_ret2
    exact ⟨Or.inr ⟨rfl, rfl⟩, hbb⟩
end Go.Proofs.YtnpinogjajhlhaaGreatDoor.Fl
end
