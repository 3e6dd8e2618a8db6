/- A part of the proof that lexiconlaw03.NumsReads answers true at every kind and every text: RfRead. No condition. -/
import Derived.Test.YtnpinogjajhlhaaGreatDoorZ41
import Derived.Test.YtnpinogjajhlhaaGreatDoorZ35
section
/- The reference's Read of integers, walked (printed by rfread.py). -/
namespace Go.Proofs.YtnpinogjajhlhaaGreatDoor.Fl
open Go.RowKit

theorem restL_minus {S : ByteArray} (h : bt S 0 = 45) : (S.extract 1 S.size).data.toList = restL S := by
  unfold restL; rw [if_pos h, ext_list, List.take_of_length_le]
  rw [List.length_drop, ← size_list]; omega

theorem empty_of {D : ByteArray} (h : ¬ 0 < D.size) : D = ByteArray.empty := by
  have h2 : D.data.toList = [] := List.length_eq_zero_iff.1 (by rw [← size_list]; omega)
  cases D with
  | mk a => cases a with
    | mk l => cases h2; rfl

theorem IntSpec.bad3 {s : Int} {S R : ByteArray} (hR : R.data.toList = restL S) (h0 : 0 < R.size) (h1 : ((R[0]'h0).toNat : Int) = 48) (h2 : S.toList ≠ [48]) : IntSpec s S 0 30 :=
  .bad2 hR h0 h1 (by rw [Bool.not_eq_true', beq_eq_false_iff_ne]; exact h2)

theorem not_nought_m {S : ByteArray} (h : bt S 0 = 45) : S.toList ≠ [48] := by
  intro hc
  rw [Lib.toList_data] at hc
  have := at_list (S := S) (k := 0) (x := 48) (by rw [hc]; rfl)
  rw [h] at this; exact absurd this (by decide)

theorem not_nought_p {S : ByteArray} (h : 1 < (S.size : Int)) : S.toList ≠ [48] := by
  intro hc
  rw [Lib.toList_data] at hc
  have := size_list S
  rw [hc] at this
  simp at this; omega

theorem nought_p {S : ByteArray} (h0 : 0 < S.size) (h1 : ((S[0]'h0).toNat : Int) = 48) (h : (S.size : Int) ≤ 1) : S.toList = [48] := by
  rw [Lib.toList_data]
  have hs := size_list S
  have hh := head_of h0
  have e : S[0]'h0 = 48 := UInt8.toNat_inj.1 (by show _ = 48; omega)
  rw [e] at hh
  cases hL : S.data.toList with
  | nil => rw [hL] at hh; cases hh
  | cons a r =>
    rw [hL] at hh hs
    injection hh with hh
    have : r = [] := List.length_eq_zero_iff.1 (by rw [List.length_cons] at hs; omega)
    rw [hh, this]

theorem okInt.mk3 {S R : ByteArray} (hR : R.data.toList = restL S) (h0 : 0 < R.size) (hd : allD (restL S)) (h : S.toList = [48]) : okInt S :=
  okInt.mk1 hR h0 hd (by rw [h]; decide)

theorem restL_plus {S : ByteArray} (h : bt S 0 ≠ 45) : S.data.toList = restL S := by unfold restL; rw [if_neg h]

set_option maxHeartbeats 4000000 in
set_option maxRecDepth 100000 in
theorem rread_2m (k : Int) (S R' : ByteArray) (hsz : S.size ≤ 67108864) (w : World) (h : sortK k = 2) (hm : bt S 0 = 45) (hR : S.extract 1 S.size = R') : Calls Tryz.prog 8 #[.int .u8 k, .string S] w (IntPost 2 S w.heap.size w) := by
  have hR2 : R'.data.toList = restL S := by rw [← hR]; exact restL_minus hm
  have hRs : R'.size ≤ S.size := by rw [size_list, size_list, hR2]; unfold restL; split <;> simp
  have HS := Lib.hid (signed_walk k)
  have HU := Lib.hid (unsigned_walk k)
  rw [h, show sgnS 2 = 32 from rfl] at HS
  rw [h, show unsS 2 = 0 from rfl] at HU
  have HD : Hid (∀ w, Calls Tryz.prog 31 #[.string R', .int .i64 0] w (IntEndU .i64 (run R' 0 : Nat) w)) := Lib.hid (fun w => rrun_walk R' 0 (by omega) (Nat.zero_le _) w)
  have HF : Hid (allD (restL S) → ∀ w, Calls Tryz.prog 32 #[.int .u8 k, .bool true, .string R'] w (FitPost (fitV 2 (decide (bt S 0 = 45)) (nv (restL S))) w.heap.size w)) :=
    Lib.hid (fun hd w => by have := rwhole_walk k true R' (by rw [hR2]; exact hd) (by omega) (by rw [h]; decide) w; rw [h, hR2] at this; rw [decide_eq_true hm]; exact this)
  have HH : Hid (R'.data.toList = restL S ∧ (R'.size = 0 ↔ restL S = []) ∧ (run R' 0 = R'.size ↔ allD (restL S))) := ⟨hR2, by rw [size_list, hR2, List.length_eq_zero_iff], by rw [run_all, hR2]⟩
  obtain ⟨k1, k2, k3⟩ := @sortK_one k
  have c1 : (k == 8) = false := by rw [beq_eq_false_iff_ne]; intro hc; have := k1.2 hc; omega
  obtain ⟨rn, hrn⟩ : ∃ rn, run R' 0 = rn := ⟨_, rfl⟩
  rw [hrn] at HD HH
  have hl0 : 0 < S.size := bt_in (by rw [hm]; decide)
  have hc0 : (S[0].toNat : Int) = 45 := by rw [bt_int hl0, hm]; rfl
  have HM := Lib.hid hm
  have HR := Lib.hid hR
  clear h k1 k2 k3 hR2 hrn hm hR
  go_enter Tryz.func8, Tryz.ntmps8
  go_wp2_with fail
  refine (HS.out _).mono ?_
  rintro e w' ⟨rfl, rfl⟩
  go_upto_region 6 with (fail)
  go_cut [6] (fun z wd => (∃ b : Bool, z = .bool b ∧ Aside (b = true)) ∧ wd = w')
  case first =>
    go_wp2_with fail
    go_meet
    exact ⟨⟨_, rfl, rfl⟩, rfl⟩
  case rest =>
    obtain ⟨⟨b, rfl, hb⟩, rfl⟩ := hcut
    obtain rfl : b = true := hb.out
    go_upto_if 40 with (fail)
    go_cut [7] (fun z wd => (∃ D : ByteArray, z = .string D ∧ Aside (D = R')) ∧ wd = wc)
    case first =>
      go_wp2_with fail
      go_meet
      exact ⟨⟨_, rfl, HR.out⟩, rfl⟩
    case rest =>
      obtain ⟨⟨D, rfl, hD⟩, rfl⟩ := hcut
      obtain rfl : D = R' := hD.out
      go_wp2_with fail
      · have h := ‹D = ByteArray.empty›
        go_ret2
        exact ⟨0, 30, .bad0 (HH.out.2.1.1 (by rw [h]; rfl)), rfl, Below.refl _ _⟩
      refine (HD.out _).mono ?_
      rintro e w2 ⟨rfl, rfl⟩
      go_wp2_with fail
      · have h0 := ‹0 < D.size›
        have h1 := ‹(D[0].toNat : Int) = 48›
        go_ret2
        exact ⟨0, 30, .bad3 HH.out.1 h0 h1 (not_nought_m HM.out), rfl, Below.refl _ _⟩
      · have h0 := ‹0 < D.size›
        have h1 := ‹(D[0].toNat : Int) = 48›
        go_ret2
        exact ⟨0, 30, .bad3 HH.out.1 h0 h1 (not_nought_m HM.out), rfl, Below.refl _ _⟩
      · have hok := okInt.mk2 HH.out.1 ‹0 < D.size› (HH.out.2.2.1 (Int.ofNat.inj ‹(rn : Int) = (D.size : Int)›)) ‹¬(D[0].toNat : Int) = 48›
        refine (HF.out (HH.out.2.2.1 (Int.ofNat.inj ‹(rn : Int) = (D.size : Int)›)) _).mono ?_
        rintro e w3 ⟨⟨b, hb, rfl⟩ | ⟨hb, rfl⟩, hw⟩
        · go_wp2_with fail
          go_ret2
          exact ⟨b, 0, Or.inr ⟨hok, Or.inl ⟨hb, rfl⟩⟩, rfl, hw⟩
        · go_wp2_with fail
          go_ret2
          exact ⟨0, 31, Or.inr ⟨hok, Or.inr ⟨hb, rfl, rfl⟩⟩, rfl, hw⟩
      · exact absurd (empty_of ‹¬0 < D.size›) ‹¬D = ByteArray.empty›
      · rename_i hrn
        go_ret2
        exact ⟨0, 30, .bad1 (fun hd => hrn (congrArg Int.ofNat (HH.out.2.2.2 hd))), rfl, Below.refl _ _⟩

set_option maxHeartbeats 4000000 in
set_option maxRecDepth 100000 in
theorem rread_2p (k : Int) (S R' : ByteArray) (hsz : S.size ≤ 67108864) (w : World) (h : sortK k = 2) (hm : bt S 0 ≠ 45) (hR : S = R') : Calls Tryz.prog 8 #[.int .u8 k, .string S] w (IntPost 2 S w.heap.size w) := by
  have hR2 : R'.data.toList = restL S := by rw [← hR]; exact restL_plus hm
  have hRs : R'.size ≤ S.size := by rw [size_list, size_list, hR2]; unfold restL; split <;> simp
  have HS := Lib.hid (signed_walk k)
  have HU := Lib.hid (unsigned_walk k)
  rw [h, show sgnS 2 = 32 from rfl] at HS
  rw [h, show unsS 2 = 0 from rfl] at HU
  have HD : Hid (∀ w, Calls Tryz.prog 31 #[.string R', .int .i64 0] w (IntEndU .i64 (run R' 0 : Nat) w)) := Lib.hid (fun w => rrun_walk R' 0 (by omega) (Nat.zero_le _) w)
  have HF : Hid (allD (restL S) → ∀ w, Calls Tryz.prog 32 #[.int .u8 k, .bool false, .string R'] w (FitPost (fitV 2 (decide (bt S 0 = 45)) (nv (restL S))) w.heap.size w)) :=
    Lib.hid (fun hd w => by have := rwhole_walk k false R' (by rw [hR2]; exact hd) (by omega) (by rw [h]; decide) w; rw [h, hR2] at this; rw [decide_eq_false hm]; exact this)
  have HH : Hid (R'.data.toList = restL S ∧ (R'.size = 0 ↔ restL S = []) ∧ (run R' 0 = R'.size ↔ allD (restL S))) := ⟨hR2, by rw [size_list, hR2, List.length_eq_zero_iff], by rw [run_all, hR2]⟩
  obtain ⟨k1, k2, k3⟩ := @sortK_one k
  have c1 : (k == 8) = false := by rw [beq_eq_false_iff_ne]; intro hc; have := k1.2 hc; omega
  obtain ⟨rn, hrn⟩ : ∃ rn, run R' 0 = rn := ⟨_, rfl⟩
  rw [hrn] at HD HH
  have HM := Lib.hid hm
  have HR := Lib.hid hR
  clear h k1 k2 k3 hR2 hrn hm hR
  go_enter Tryz.func8, Tryz.ntmps8
  go_wp2_with fail
  refine (HS.out _).mono ?_
  rintro e w' ⟨rfl, rfl⟩
  go_upto_region 6 with (fail)
  go_cut [6] (fun z wd => (∃ b : Bool, z = .bool b ∧ Aside (b = false)) ∧ wd = w')
  case first =>
    by_cases hl : 0 < S.size
    · have hne : ¬ S = ByteArray.empty := fun hc => by rw [hc] at hl; exact absurd hl (by decide)
      have hc := bt_int hl
      have hq : ((bt S 0 : Int) == 45) = false := by rw [beq_eq_false_iff_ne]; have := HM.out; omega
      go_wp2_with fail
      go_meet
      exact ⟨⟨_, rfl, rfl⟩, rfl⟩
    · have hne : S = ByteArray.empty := by
        have : S.data.toList = [] := List.length_eq_zero_iff.1 (by rw [← size_list]; omega)
        cases S; simp at this; subst this; rfl
      go_wp2_with fail
      all_goals
        go_meet
        exact ⟨⟨_, rfl, rfl⟩, rfl⟩
  case rest =>
    obtain ⟨⟨b, rfl, hb⟩, rfl⟩ := hcut
    obtain rfl : b = false := hb.out
    go_upto_if 40 with (fail)
    go_cut [7] (fun z wd => (∃ D : ByteArray, z = .string D ∧ Aside (D = R')) ∧ wd = wc)
    case first =>
      go_wp2_with fail
      go_meet
      exact ⟨⟨_, rfl, HR.out⟩, rfl⟩
    case rest =>
      obtain ⟨⟨D, rfl, hD⟩, rfl⟩ := hcut
      obtain rfl : D = R' := hD.out
      go_wp2_with fail
      · have h := ‹D = ByteArray.empty›
        go_ret2
        exact ⟨0, 30, .bad0 (HH.out.2.1.1 (by rw [h]; rfl)), rfl, Below.refl _ _⟩
      refine (HD.out _).mono ?_
      rintro e w2 ⟨rfl, rfl⟩
      go_wp2_with fail
      · exfalso
        have h0 := ‹0 < D.size›
        have h1 := ‹(D.size : Int) ≤ 1›
        rcases ‹((D.size : Int) == 0) = true ∨ 1 < (D.size : Int)› with h | h
        · rw [beq_iff_eq] at h; omega
        · omega
      · have hok := (by have hs := HR.out; subst hs; exact okInt.mk3 HH.out.1 ‹0 < S.size› (HH.out.2.2.1 (Int.ofNat.inj ‹(rn : Int) = (S.size : Int)›)) (nought_p ‹0 < S.size› ‹(S[0].toNat : Int) = 48› ‹(S.size : Int) ≤ 1›) : okInt S)
        refine (HF.out (HH.out.2.2.1 (Int.ofNat.inj ‹(rn : Int) = (D.size : Int)›)) _).mono ?_
        rintro e w3 ⟨⟨b, hb, rfl⟩ | ⟨hb, rfl⟩, hw⟩
        · go_wp2_with fail
          go_ret2
          exact ⟨b, 0, Or.inr ⟨hok, Or.inl ⟨hb, rfl⟩⟩, rfl, hw⟩
        · go_wp2_with fail
          go_ret2
          exact ⟨0, 31, Or.inr ⟨hok, Or.inr ⟨hb, rfl, rfl⟩⟩, rfl, hw⟩
      · have h0 := ‹0 < D.size›
        have h1 := ‹(D[0].toNat : Int) = 48›
        have h2 := ‹1 < (D.size : Int)›
        go_ret2
        exact ⟨0, 30, .bad3 HH.out.1 h0 h1 (not_nought_p (by rw [HR.out]; exact h2)), rfl, Below.refl _ _⟩
      · have hok := okInt.mk2 HH.out.1 ‹0 < D.size› (HH.out.2.2.1 (Int.ofNat.inj ‹(rn : Int) = (D.size : Int)›)) ‹¬(D[0].toNat : Int) = 48›
        refine (HF.out (HH.out.2.2.1 (Int.ofNat.inj ‹(rn : Int) = (D.size : Int)›)) _).mono ?_
        rintro e w3 ⟨⟨b, hb, rfl⟩ | ⟨hb, rfl⟩, hw⟩
        · go_wp2_with fail
          go_ret2
          exact ⟨b, 0, Or.inr ⟨hok, Or.inl ⟨hb, rfl⟩⟩, rfl, hw⟩
        · go_wp2_with fail
          go_ret2
          exact ⟨0, 31, Or.inr ⟨hok, Or.inr ⟨hb, rfl, rfl⟩⟩, rfl, hw⟩
      · exact absurd (empty_of ‹¬0 < D.size›) ‹¬D = ByteArray.empty›
      · rename_i hrn
        go_ret2
        exact ⟨0, 30, .bad1 (fun hd => hrn (congrArg Int.ofNat (HH.out.2.2.2 hd))), rfl, Below.refl _ _⟩

set_option maxHeartbeats 4000000 in
set_option maxRecDepth 100000 in
theorem rread_3m (k : Int) (S R' : ByteArray) (hsz : S.size ≤ 67108864) (w : World) (h : sortK k = 3) (hm : bt S 0 = 45) (hR : S.extract 1 S.size = R') : Calls Tryz.prog 8 #[.int .u8 k, .string S] w (IntPost 3 S w.heap.size w) := by
  have hR2 : R'.data.toList = restL S := by rw [← hR]; exact restL_minus hm
  have hRs : R'.size ≤ S.size := by rw [size_list, size_list, hR2]; unfold restL; split <;> simp
  have HS := Lib.hid (signed_walk k)
  have HU := Lib.hid (unsigned_walk k)
  rw [h, show sgnS 3 = 64 from rfl] at HS
  rw [h, show unsS 3 = 0 from rfl] at HU
  have HD : Hid (∀ w, Calls Tryz.prog 31 #[.string R', .int .i64 0] w (IntEndU .i64 (run R' 0 : Nat) w)) := Lib.hid (fun w => rrun_walk R' 0 (by omega) (Nat.zero_le _) w)
  have HF : Hid (allD (restL S) → ∀ w, Calls Tryz.prog 32 #[.int .u8 k, .bool true, .string R'] w (FitPost (fitV 3 (decide (bt S 0 = 45)) (nv (restL S))) w.heap.size w)) :=
    Lib.hid (fun hd w => by have := rwhole_walk k true R' (by rw [hR2]; exact hd) (by omega) (by rw [h]; decide) w; rw [h, hR2] at this; rw [decide_eq_true hm]; exact this)
  have HH : Hid (R'.data.toList = restL S ∧ (R'.size = 0 ↔ restL S = []) ∧ (run R' 0 = R'.size ↔ allD (restL S))) := ⟨hR2, by rw [size_list, hR2, List.length_eq_zero_iff], by rw [run_all, hR2]⟩
  obtain ⟨k1, k2, k3⟩ := @sortK_one k
  have c1 : (k == 8) = false := by rw [beq_eq_false_iff_ne]; intro hc; have := k1.2 hc; omega
  obtain ⟨rn, hrn⟩ : ∃ rn, run R' 0 = rn := ⟨_, rfl⟩
  rw [hrn] at HD HH
  have hl0 : 0 < S.size := bt_in (by rw [hm]; decide)
  have hc0 : (S[0].toNat : Int) = 45 := by rw [bt_int hl0, hm]; rfl
  have HM := Lib.hid hm
  have HR := Lib.hid hR
  clear h k1 k2 k3 hR2 hrn hm hR
  go_enter Tryz.func8, Tryz.ntmps8
  go_wp2_with fail
  refine (HS.out _).mono ?_
  rintro e w' ⟨rfl, rfl⟩
  go_upto_region 6 with (fail)
  go_cut [6] (fun z wd => (∃ b : Bool, z = .bool b ∧ Aside (b = true)) ∧ wd = w')
  case first =>
    go_wp2_with fail
    go_meet
    exact ⟨⟨_, rfl, rfl⟩, rfl⟩
  case rest =>
    obtain ⟨⟨b, rfl, hb⟩, rfl⟩ := hcut
    obtain rfl : b = true := hb.out
    go_upto_if 40 with (fail)
    go_cut [7] (fun z wd => (∃ D : ByteArray, z = .string D ∧ Aside (D = R')) ∧ wd = wc)
    case first =>
      go_wp2_with fail
      go_meet
      exact ⟨⟨_, rfl, HR.out⟩, rfl⟩
    case rest =>
      obtain ⟨⟨D, rfl, hD⟩, rfl⟩ := hcut
      obtain rfl : D = R' := hD.out
      go_wp2_with fail
      · have h := ‹D = ByteArray.empty›
        go_ret2
        exact ⟨0, 30, .bad0 (HH.out.2.1.1 (by rw [h]; rfl)), rfl, Below.refl _ _⟩
      refine (HD.out _).mono ?_
      rintro e w2 ⟨rfl, rfl⟩
      go_wp2_with fail
      · have h0 := ‹0 < D.size›
        have h1 := ‹(D[0].toNat : Int) = 48›
        go_ret2
        exact ⟨0, 30, .bad3 HH.out.1 h0 h1 (not_nought_m HM.out), rfl, Below.refl _ _⟩
      · have h0 := ‹0 < D.size›
        have h1 := ‹(D[0].toNat : Int) = 48›
        go_ret2
        exact ⟨0, 30, .bad3 HH.out.1 h0 h1 (not_nought_m HM.out), rfl, Below.refl _ _⟩
      · have hok := okInt.mk2 HH.out.1 ‹0 < D.size› (HH.out.2.2.1 (Int.ofNat.inj ‹(rn : Int) = (D.size : Int)›)) ‹¬(D[0].toNat : Int) = 48›
        refine (HF.out (HH.out.2.2.1 (Int.ofNat.inj ‹(rn : Int) = (D.size : Int)›)) _).mono ?_
        rintro e w3 ⟨⟨b, hb, rfl⟩ | ⟨hb, rfl⟩, hw⟩
        · go_wp2_with fail
          go_ret2
          exact ⟨b, 0, Or.inr ⟨hok, Or.inl ⟨hb, rfl⟩⟩, rfl, hw⟩
        · go_wp2_with fail
          go_ret2
          exact ⟨0, 31, Or.inr ⟨hok, Or.inr ⟨hb, rfl, rfl⟩⟩, rfl, hw⟩
      · exact absurd (empty_of ‹¬0 < D.size›) ‹¬D = ByteArray.empty›
      · rename_i hrn
        go_ret2
        exact ⟨0, 30, .bad1 (fun hd => hrn (congrArg Int.ofNat (HH.out.2.2.2 hd))), rfl, Below.refl _ _⟩

set_option maxHeartbeats 4000000 in
set_option maxRecDepth 100000 in
theorem rread_3p (k : Int) (S R' : ByteArray) (hsz : S.size ≤ 67108864) (w : World) (h : sortK k = 3) (hm : bt S 0 ≠ 45) (hR : S = R') : Calls Tryz.prog 8 #[.int .u8 k, .string S] w (IntPost 3 S w.heap.size w) := by
  have hR2 : R'.data.toList = restL S := by rw [← hR]; exact restL_plus hm
  have hRs : R'.size ≤ S.size := by rw [size_list, size_list, hR2]; unfold restL; split <;> simp
  have HS := Lib.hid (signed_walk k)
  have HU := Lib.hid (unsigned_walk k)
  rw [h, show sgnS 3 = 64 from rfl] at HS
  rw [h, show unsS 3 = 0 from rfl] at HU
  have HD : Hid (∀ w, Calls Tryz.prog 31 #[.string R', .int .i64 0] w (IntEndU .i64 (run R' 0 : Nat) w)) := Lib.hid (fun w => rrun_walk R' 0 (by omega) (Nat.zero_le _) w)
  have HF : Hid (allD (restL S) → ∀ w, Calls Tryz.prog 32 #[.int .u8 k, .bool false, .string R'] w (FitPost (fitV 3 (decide (bt S 0 = 45)) (nv (restL S))) w.heap.size w)) :=
    Lib.hid (fun hd w => by have := rwhole_walk k false R' (by rw [hR2]; exact hd) (by omega) (by rw [h]; decide) w; rw [h, hR2] at this; rw [decide_eq_false hm]; exact this)
  have HH : Hid (R'.data.toList = restL S ∧ (R'.size = 0 ↔ restL S = []) ∧ (run R' 0 = R'.size ↔ allD (restL S))) := ⟨hR2, by rw [size_list, hR2, List.length_eq_zero_iff], by rw [run_all, hR2]⟩
  obtain ⟨k1, k2, k3⟩ := @sortK_one k
  have c1 : (k == 8) = false := by rw [beq_eq_false_iff_ne]; intro hc; have := k1.2 hc; omega
  obtain ⟨rn, hrn⟩ : ∃ rn, run R' 0 = rn := ⟨_, rfl⟩
  rw [hrn] at HD HH
  have HM := Lib.hid hm
  have HR := Lib.hid hR
  clear h k1 k2 k3 hR2 hrn hm hR
  go_enter Tryz.func8, Tryz.ntmps8
  go_wp2_with fail
  refine (HS.out _).mono ?_
  rintro e w' ⟨rfl, rfl⟩
  go_upto_region 6 with (fail)
  go_cut [6] (fun z wd => (∃ b : Bool, z = .bool b ∧ Aside (b = false)) ∧ wd = w')
  case first =>
    by_cases hl : 0 < S.size
    · have hne : ¬ S = ByteArray.empty := fun hc => by rw [hc] at hl; exact absurd hl (by decide)
      have hc := bt_int hl
      have hq : ((bt S 0 : Int) == 45) = false := by rw [beq_eq_false_iff_ne]; have := HM.out; omega
      go_wp2_with fail
      go_meet
      exact ⟨⟨_, rfl, rfl⟩, rfl⟩
    · have hne : S = ByteArray.empty := by
        have : S.data.toList = [] := List.length_eq_zero_iff.1 (by rw [← size_list]; omega)
        cases S; simp at this; subst this; rfl
      go_wp2_with fail
      all_goals
        go_meet
        exact ⟨⟨_, rfl, rfl⟩, rfl⟩
  case rest =>
    obtain ⟨⟨b, rfl, hb⟩, rfl⟩ := hcut
    obtain rfl : b = false := hb.out
    go_upto_if 40 with (fail)
    go_cut [7] (fun z wd => (∃ D : ByteArray, z = .string D ∧ Aside (D = R')) ∧ wd = wc)
    case first =>
      go_wp2_with fail
      go_meet
      exact ⟨⟨_, rfl, HR.out⟩, rfl⟩
    case rest =>
      obtain ⟨⟨D, rfl, hD⟩, rfl⟩ := hcut
      obtain rfl : D = R' := hD.out
      go_wp2_with fail
      · have h := ‹D = ByteArray.empty›
        go_ret2
        exact ⟨0, 30, .bad0 (HH.out.2.1.1 (by rw [h]; rfl)), rfl, Below.refl _ _⟩
      refine (HD.out _).mono ?_
      rintro e w2 ⟨rfl, rfl⟩
      go_wp2_with fail
      · exfalso
        have h0 := ‹0 < D.size›
        have h1 := ‹(D.size : Int) ≤ 1›
        rcases ‹((D.size : Int) == 0) = true ∨ 1 < (D.size : Int)› with h | h
        · rw [beq_iff_eq] at h; omega
        · omega
      · have hok := (by have hs := HR.out; subst hs; exact okInt.mk3 HH.out.1 ‹0 < S.size› (HH.out.2.2.1 (Int.ofNat.inj ‹(rn : Int) = (S.size : Int)›)) (nought_p ‹0 < S.size› ‹(S[0].toNat : Int) = 48› ‹(S.size : Int) ≤ 1›) : okInt S)
        refine (HF.out (HH.out.2.2.1 (Int.ofNat.inj ‹(rn : Int) = (D.size : Int)›)) _).mono ?_
        rintro e w3 ⟨⟨b, hb, rfl⟩ | ⟨hb, rfl⟩, hw⟩
        · go_wp2_with fail
          go_ret2
          exact ⟨b, 0, Or.inr ⟨hok, Or.inl ⟨hb, rfl⟩⟩, rfl, hw⟩
        · go_wp2_with fail
          go_ret2
          exact ⟨0, 31, Or.inr ⟨hok, Or.inr ⟨hb, rfl, rfl⟩⟩, rfl, hw⟩
      · have h0 := ‹0 < D.size›
        have h1 := ‹(D[0].toNat : Int) = 48›
        have h2 := ‹1 < (D.size : Int)›
        go_ret2
        exact ⟨0, 30, .bad3 HH.out.1 h0 h1 (not_nought_p (by rw [HR.out]; exact h2)), rfl, Below.refl _ _⟩
      · have hok := okInt.mk2 HH.out.1 ‹0 < D.size› (HH.out.2.2.1 (Int.ofNat.inj ‹(rn : Int) = (D.size : Int)›)) ‹¬(D[0].toNat : Int) = 48›
        refine (HF.out (HH.out.2.2.1 (Int.ofNat.inj ‹(rn : Int) = (D.size : Int)›)) _).mono ?_
        rintro e w3 ⟨⟨b, hb, rfl⟩ | ⟨hb, rfl⟩, hw⟩
        · go_wp2_with fail
          go_ret2
          exact ⟨b, 0, Or.inr ⟨hok, Or.inl ⟨hb, rfl⟩⟩, rfl, hw⟩
        · go_wp2_with fail
          go_ret2
          exact ⟨0, 31, Or.inr ⟨hok, Or.inr ⟨hb, rfl, rfl⟩⟩, rfl, hw⟩
      · exact absurd (empty_of ‹¬0 < D.size›) ‹¬D = ByteArray.empty›
      · rename_i hrn
        go_ret2
        exact ⟨0, 30, .bad1 (fun hd => hrn (congrArg Int.ofNat (HH.out.2.2.2 hd))), rfl, Below.refl _ _⟩

set_option maxHeartbeats 4000000 in
set_option maxRecDepth 100000 in
theorem rread_4m (k : Int) (S R' : ByteArray) (hsz : S.size ≤ 67108864) (w : World) (h : sortK k = 4) (hm : bt S 0 = 45) (hR : S.extract 1 S.size = R') : Calls Tryz.prog 8 #[.int .u8 k, .string S] w (IntPost 4 S w.heap.size w) := by
  have hR2 : R'.data.toList = restL S := by rw [← hR]; exact restL_minus hm
  have hRs : R'.size ≤ S.size := by rw [size_list, size_list, hR2]; unfold restL; split <;> simp
  have HS := Lib.hid (signed_walk k)
  have HU := Lib.hid (unsigned_walk k)
  rw [h, show sgnS 4 = 0 from rfl] at HS
  rw [h, show unsS 4 = 32 from rfl] at HU
  have HD : Hid (∀ w, Calls Tryz.prog 31 #[.string R', .int .i64 0] w (IntEndU .i64 (run R' 0 : Nat) w)) := Lib.hid (fun w => rrun_walk R' 0 (by omega) (Nat.zero_le _) w)
  have HF : Hid (allD (restL S) → ∀ w, Calls Tryz.prog 32 #[.int .u8 k, .bool true, .string R'] w (FitPost (fitV 4 (decide (bt S 0 = 45)) (nv (restL S))) w.heap.size w)) :=
    Lib.hid (fun hd w => by have := rwhole_walk k true R' (by rw [hR2]; exact hd) (by omega) (by rw [h]; decide) w; rw [h, hR2] at this; rw [decide_eq_true hm]; exact this)
  have HH : Hid (R'.data.toList = restL S ∧ (R'.size = 0 ↔ restL S = []) ∧ (run R' 0 = R'.size ↔ allD (restL S))) := ⟨hR2, by rw [size_list, hR2, List.length_eq_zero_iff], by rw [run_all, hR2]⟩
  obtain ⟨k1, k2, k3⟩ := @sortK_one k
  have c1 : (k == 8) = false := by rw [beq_eq_false_iff_ne]; intro hc; have := k1.2 hc; omega
  obtain ⟨rn, hrn⟩ : ∃ rn, run R' 0 = rn := ⟨_, rfl⟩
  rw [hrn] at HD HH
  have hl0 : 0 < S.size := bt_in (by rw [hm]; decide)
  have hc0 : (S[0].toNat : Int) = 45 := by rw [bt_int hl0, hm]; rfl
  have HM := Lib.hid hm
  have HR := Lib.hid hR
  clear h k1 k2 k3 hR2 hrn hm hR
  go_enter Tryz.func8, Tryz.ntmps8
  go_wp2_with fail
  refine (HS.out _).mono ?_
  rintro e w' ⟨rfl, rfl⟩
  go_wp2_with fail
  refine (HU.out _).mono ?_
  rintro e w' ⟨rfl, rfl⟩
  go_upto_region 6 with (fail)
  go_cut [6] (fun z wd => (∃ b : Bool, z = .bool b ∧ Aside (b = true)) ∧ wd = w')
  case first =>
    go_wp2_with fail
    go_meet
    exact ⟨⟨_, rfl, rfl⟩, rfl⟩
  case rest =>
    obtain ⟨⟨b, rfl, hb⟩, rfl⟩ := hcut
    obtain rfl : b = true := hb.out
    go_upto_if 40 with (fail)
    go_cut [7] (fun z wd => (∃ D : ByteArray, z = .string D ∧ Aside (D = R')) ∧ wd = wc)
    case first =>
      go_wp2_with fail
      go_meet
      exact ⟨⟨_, rfl, HR.out⟩, rfl⟩
    case rest =>
      obtain ⟨⟨D, rfl, hD⟩, rfl⟩ := hcut
      obtain rfl : D = R' := hD.out
      go_wp2_with fail
      · have h := ‹D = ByteArray.empty›
        go_ret2
        exact ⟨0, 30, .bad0 (HH.out.2.1.1 (by rw [h]; rfl)), rfl, Below.refl _ _⟩
      refine (HD.out _).mono ?_
      rintro e w2 ⟨rfl, rfl⟩
      go_wp2_with fail
      · have h0 := ‹0 < D.size›
        have h1 := ‹(D[0].toNat : Int) = 48›
        go_ret2
        exact ⟨0, 30, .bad3 HH.out.1 h0 h1 (not_nought_m HM.out), rfl, Below.refl _ _⟩
      · have h0 := ‹0 < D.size›
        have h1 := ‹(D[0].toNat : Int) = 48›
        go_ret2
        exact ⟨0, 30, .bad3 HH.out.1 h0 h1 (not_nought_m HM.out), rfl, Below.refl _ _⟩
      · have hok := okInt.mk2 HH.out.1 ‹0 < D.size› (HH.out.2.2.1 (Int.ofNat.inj ‹(rn : Int) = (D.size : Int)›)) ‹¬(D[0].toNat : Int) = 48›
        refine (HF.out (HH.out.2.2.1 (Int.ofNat.inj ‹(rn : Int) = (D.size : Int)›)) _).mono ?_
        rintro e w3 ⟨⟨b, hb, rfl⟩ | ⟨hb, rfl⟩, hw⟩
        · go_wp2_with fail
          go_ret2
          exact ⟨b, 0, Or.inr ⟨hok, Or.inl ⟨hb, rfl⟩⟩, rfl, hw⟩
        · go_wp2_with fail
          go_ret2
          exact ⟨0, 31, Or.inr ⟨hok, Or.inr ⟨hb, rfl, rfl⟩⟩, rfl, hw⟩
      · exact absurd (empty_of ‹¬0 < D.size›) ‹¬D = ByteArray.empty›
      · rename_i hrn
        go_ret2
        exact ⟨0, 30, .bad1 (fun hd => hrn (congrArg Int.ofNat (HH.out.2.2.2 hd))), rfl, Below.refl _ _⟩

set_option maxHeartbeats 4000000 in
set_option maxRecDepth 100000 in
theorem rread_4p (k : Int) (S R' : ByteArray) (hsz : S.size ≤ 67108864) (w : World) (h : sortK k = 4) (hm : bt S 0 ≠ 45) (hR : S = R') : Calls Tryz.prog 8 #[.int .u8 k, .string S] w (IntPost 4 S w.heap.size w) := by
  have hR2 : R'.data.toList = restL S := by rw [← hR]; exact restL_plus hm
  have hRs : R'.size ≤ S.size := by rw [size_list, size_list, hR2]; unfold restL; split <;> simp
  have HS := Lib.hid (signed_walk k)
  have HU := Lib.hid (unsigned_walk k)
  rw [h, show sgnS 4 = 0 from rfl] at HS
  rw [h, show unsS 4 = 32 from rfl] at HU
  have HD : Hid (∀ w, Calls Tryz.prog 31 #[.string R', .int .i64 0] w (IntEndU .i64 (run R' 0 : Nat) w)) := Lib.hid (fun w => rrun_walk R' 0 (by omega) (Nat.zero_le _) w)
  have HF : Hid (allD (restL S) → ∀ w, Calls Tryz.prog 32 #[.int .u8 k, .bool false, .string R'] w (FitPost (fitV 4 (decide (bt S 0 = 45)) (nv (restL S))) w.heap.size w)) :=
    Lib.hid (fun hd w => by have := rwhole_walk k false R' (by rw [hR2]; exact hd) (by omega) (by rw [h]; decide) w; rw [h, hR2] at this; rw [decide_eq_false hm]; exact this)
  have HH : Hid (R'.data.toList = restL S ∧ (R'.size = 0 ↔ restL S = []) ∧ (run R' 0 = R'.size ↔ allD (restL S))) := ⟨hR2, by rw [size_list, hR2, List.length_eq_zero_iff], by rw [run_all, hR2]⟩
  obtain ⟨k1, k2, k3⟩ := @sortK_one k
  have c1 : (k == 8) = false := by rw [beq_eq_false_iff_ne]; intro hc; have := k1.2 hc; omega
  obtain ⟨rn, hrn⟩ : ∃ rn, run R' 0 = rn := ⟨_, rfl⟩
  rw [hrn] at HD HH
  have HM := Lib.hid hm
  have HR := Lib.hid hR
  clear h k1 k2 k3 hR2 hrn hm hR
  go_enter Tryz.func8, Tryz.ntmps8
  go_wp2_with fail
  refine (HS.out _).mono ?_
  rintro e w' ⟨rfl, rfl⟩
  go_wp2_with fail
  refine (HU.out _).mono ?_
  rintro e w' ⟨rfl, rfl⟩
  go_upto_region 6 with (fail)
  go_cut [6] (fun z wd => (∃ b : Bool, z = .bool b ∧ Aside (b = false)) ∧ wd = w')
  case first =>
    by_cases hl : 0 < S.size
    · have hne : ¬ S = ByteArray.empty := fun hc => by rw [hc] at hl; exact absurd hl (by decide)
      have hc := bt_int hl
      have hq : ((bt S 0 : Int) == 45) = false := by rw [beq_eq_false_iff_ne]; have := HM.out; omega
      go_wp2_with fail
      go_meet
      exact ⟨⟨_, rfl, rfl⟩, rfl⟩
    · have hne : S = ByteArray.empty := by
        have : S.data.toList = [] := List.length_eq_zero_iff.1 (by rw [← size_list]; omega)
        cases S; simp at this; subst this; rfl
      go_wp2_with fail
      all_goals
        go_meet
        exact ⟨⟨_, rfl, rfl⟩, rfl⟩
  case rest =>
    obtain ⟨⟨b, rfl, hb⟩, rfl⟩ := hcut
    obtain rfl : b = false := hb.out
    go_upto_if 40 with (fail)
    go_cut [7] (fun z wd => (∃ D : ByteArray, z = .string D ∧ Aside (D = R')) ∧ wd = wc)
    case first =>
      go_wp2_with fail
      go_meet
      exact ⟨⟨_, rfl, HR.out⟩, rfl⟩
    case rest =>
      obtain ⟨⟨D, rfl, hD⟩, rfl⟩ := hcut
      obtain rfl : D = R' := hD.out
      go_wp2_with fail
      · have h := ‹D = ByteArray.empty›
        go_ret2
        exact ⟨0, 30, .bad0 (HH.out.2.1.1 (by rw [h]; rfl)), rfl, Below.refl _ _⟩
      refine (HD.out _).mono ?_
      rintro e w2 ⟨rfl, rfl⟩
      go_wp2_with fail
      · exfalso
        have h0 := ‹0 < D.size›
        have h1 := ‹(D.size : Int) ≤ 1›
        rcases ‹((D.size : Int) == 0) = true ∨ 1 < (D.size : Int)› with h | h
        · rw [beq_iff_eq] at h; omega
        · omega
      · have hok := (by have hs := HR.out; subst hs; exact okInt.mk3 HH.out.1 ‹0 < S.size› (HH.out.2.2.1 (Int.ofNat.inj ‹(rn : Int) = (S.size : Int)›)) (nought_p ‹0 < S.size› ‹(S[0].toNat : Int) = 48› ‹(S.size : Int) ≤ 1›) : okInt S)
        refine (HF.out (HH.out.2.2.1 (Int.ofNat.inj ‹(rn : Int) = (D.size : Int)›)) _).mono ?_
        rintro e w3 ⟨⟨b, hb, rfl⟩ | ⟨hb, rfl⟩, hw⟩
        · go_wp2_with fail
          go_ret2
          exact ⟨b, 0, Or.inr ⟨hok, Or.inl ⟨hb, rfl⟩⟩, rfl, hw⟩
        · go_wp2_with fail
          go_ret2
          exact ⟨0, 31, Or.inr ⟨hok, Or.inr ⟨hb, rfl, rfl⟩⟩, rfl, hw⟩
      · have h0 := ‹0 < D.size›
        have h1 := ‹(D[0].toNat : Int) = 48›
        have h2 := ‹1 < (D.size : Int)›
        go_ret2
        exact ⟨0, 30, .bad3 HH.out.1 h0 h1 (not_nought_p (by rw [HR.out]; exact h2)), rfl, Below.refl _ _⟩
      · have hok := okInt.mk2 HH.out.1 ‹0 < D.size› (HH.out.2.2.1 (Int.ofNat.inj ‹(rn : Int) = (D.size : Int)›)) ‹¬(D[0].toNat : Int) = 48›
        refine (HF.out (HH.out.2.2.1 (Int.ofNat.inj ‹(rn : Int) = (D.size : Int)›)) _).mono ?_
        rintro e w3 ⟨⟨b, hb, rfl⟩ | ⟨hb, rfl⟩, hw⟩
        · go_wp2_with fail
          go_ret2
          exact ⟨b, 0, Or.inr ⟨hok, Or.inl ⟨hb, rfl⟩⟩, rfl, hw⟩
        · go_wp2_with fail
          go_ret2
          exact ⟨0, 31, Or.inr ⟨hok, Or.inr ⟨hb, rfl, rfl⟩⟩, rfl, hw⟩
      · exact absurd (empty_of ‹¬0 < D.size›) ‹¬D = ByteArray.empty›
      · rename_i hrn
        go_ret2
        exact ⟨0, 30, .bad1 (fun hd => hrn (congrArg Int.ofNat (HH.out.2.2.2 hd))), rfl, Below.refl _ _⟩

set_option maxHeartbeats 4000000 in
set_option maxRecDepth 100000 in
theorem rread_5m (k : Int) (S R' : ByteArray) (hsz : S.size ≤ 67108864) (w : World) (h : sortK k = 5) (hm : bt S 0 = 45) (hR : S.extract 1 S.size = R') : Calls Tryz.prog 8 #[.int .u8 k, .string S] w (IntPost 5 S w.heap.size w) := by
  have hR2 : R'.data.toList = restL S := by rw [← hR]; exact restL_minus hm
  have hRs : R'.size ≤ S.size := by rw [size_list, size_list, hR2]; unfold restL; split <;> simp
  have HS := Lib.hid (signed_walk k)
  have HU := Lib.hid (unsigned_walk k)
  rw [h, show sgnS 5 = 0 from rfl] at HS
  rw [h, show unsS 5 = 64 from rfl] at HU
  have HD : Hid (∀ w, Calls Tryz.prog 31 #[.string R', .int .i64 0] w (IntEndU .i64 (run R' 0 : Nat) w)) := Lib.hid (fun w => rrun_walk R' 0 (by omega) (Nat.zero_le _) w)
  have HF : Hid (allD (restL S) → ∀ w, Calls Tryz.prog 32 #[.int .u8 k, .bool true, .string R'] w (FitPost (fitV 5 (decide (bt S 0 = 45)) (nv (restL S))) w.heap.size w)) :=
    Lib.hid (fun hd w => by have := rwhole_walk k true R' (by rw [hR2]; exact hd) (by omega) (by rw [h]; decide) w; rw [h, hR2] at this; rw [decide_eq_true hm]; exact this)
  have HH : Hid (R'.data.toList = restL S ∧ (R'.size = 0 ↔ restL S = []) ∧ (run R' 0 = R'.size ↔ allD (restL S))) := ⟨hR2, by rw [size_list, hR2, List.length_eq_zero_iff], by rw [run_all, hR2]⟩
  obtain ⟨k1, k2, k3⟩ := @sortK_one k
  have c1 : (k == 8) = false := by rw [beq_eq_false_iff_ne]; intro hc; have := k1.2 hc; omega
  obtain ⟨rn, hrn⟩ : ∃ rn, run R' 0 = rn := ⟨_, rfl⟩
  rw [hrn] at HD HH
  have hl0 : 0 < S.size := bt_in (by rw [hm]; decide)
  have hc0 : (S[0].toNat : Int) = 45 := by rw [bt_int hl0, hm]; rfl
  have HM := Lib.hid hm
  have HR := Lib.hid hR
  clear h k1 k2 k3 hR2 hrn hm hR
  go_enter Tryz.func8, Tryz.ntmps8
  go_wp2_with fail
  refine (HS.out _).mono ?_
  rintro e w' ⟨rfl, rfl⟩
  go_wp2_with fail
  refine (HU.out _).mono ?_
  rintro e w' ⟨rfl, rfl⟩
  go_upto_region 6 with (fail)
  go_cut [6] (fun z wd => (∃ b : Bool, z = .bool b ∧ Aside (b = true)) ∧ wd = w')
  case first =>
    go_wp2_with fail
    go_meet
    exact ⟨⟨_, rfl, rfl⟩, rfl⟩
  case rest =>
    obtain ⟨⟨b, rfl, hb⟩, rfl⟩ := hcut
    obtain rfl : b = true := hb.out
    go_upto_if 40 with (fail)
    go_cut [7] (fun z wd => (∃ D : ByteArray, z = .string D ∧ Aside (D = R')) ∧ wd = wc)
    case first =>
      go_wp2_with fail
      go_meet
      exact ⟨⟨_, rfl, HR.out⟩, rfl⟩
    case rest =>
      obtain ⟨⟨D, rfl, hD⟩, rfl⟩ := hcut
      obtain rfl : D = R' := hD.out
      go_wp2_with fail
      · have h := ‹D = ByteArray.empty›
        go_ret2
        exact ⟨0, 30, .bad0 (HH.out.2.1.1 (by rw [h]; rfl)), rfl, Below.refl _ _⟩
      refine (HD.out _).mono ?_
      rintro e w2 ⟨rfl, rfl⟩
      go_wp2_with fail
      · have h0 := ‹0 < D.size›
        have h1 := ‹(D[0].toNat : Int) = 48›
        go_ret2
        exact ⟨0, 30, .bad3 HH.out.1 h0 h1 (not_nought_m HM.out), rfl, Below.refl _ _⟩
      · have h0 := ‹0 < D.size›
        have h1 := ‹(D[0].toNat : Int) = 48›
        go_ret2
        exact ⟨0, 30, .bad3 HH.out.1 h0 h1 (not_nought_m HM.out), rfl, Below.refl _ _⟩
      · have hok := okInt.mk2 HH.out.1 ‹0 < D.size› (HH.out.2.2.1 (Int.ofNat.inj ‹(rn : Int) = (D.size : Int)›)) ‹¬(D[0].toNat : Int) = 48›
        refine (HF.out (HH.out.2.2.1 (Int.ofNat.inj ‹(rn : Int) = (D.size : Int)›)) _).mono ?_
        rintro e w3 ⟨⟨b, hb, rfl⟩ | ⟨hb, rfl⟩, hw⟩
        · go_wp2_with fail
          go_ret2
          exact ⟨b, 0, Or.inr ⟨hok, Or.inl ⟨hb, rfl⟩⟩, rfl, hw⟩
        · go_wp2_with fail
          go_ret2
          exact ⟨0, 31, Or.inr ⟨hok, Or.inr ⟨hb, rfl, rfl⟩⟩, rfl, hw⟩
      · exact absurd (empty_of ‹¬0 < D.size›) ‹¬D = ByteArray.empty›
      · rename_i hrn
        go_ret2
        exact ⟨0, 30, .bad1 (fun hd => hrn (congrArg Int.ofNat (HH.out.2.2.2 hd))), rfl, Below.refl _ _⟩

set_option maxHeartbeats 4000000 in
set_option maxRecDepth 100000 in
theorem rread_5p (k : Int) (S R' : ByteArray) (hsz : S.size ≤ 67108864) (w : World) (h : sortK k = 5) (hm : bt S 0 ≠ 45) (hR : S = R') : Calls Tryz.prog 8 #[.int .u8 k, .string S] w (IntPost 5 S w.heap.size w) := by
  have hR2 : R'.data.toList = restL S := by rw [← hR]; exact restL_plus hm
  have hRs : R'.size ≤ S.size := by rw [size_list, size_list, hR2]; unfold restL; split <;> simp
  have HS := Lib.hid (signed_walk k)
  have HU := Lib.hid (unsigned_walk k)
  rw [h, show sgnS 5 = 0 from rfl] at HS
  rw [h, show unsS 5 = 64 from rfl] at HU
  have HD : Hid (∀ w, Calls Tryz.prog 31 #[.string R', .int .i64 0] w (IntEndU .i64 (run R' 0 : Nat) w)) := Lib.hid (fun w => rrun_walk R' 0 (by omega) (Nat.zero_le _) w)
  have HF : Hid (allD (restL S) → ∀ w, Calls Tryz.prog 32 #[.int .u8 k, .bool false, .string R'] w (FitPost (fitV 5 (decide (bt S 0 = 45)) (nv (restL S))) w.heap.size w)) :=
    Lib.hid (fun hd w => by have := rwhole_walk k false R' (by rw [hR2]; exact hd) (by omega) (by rw [h]; decide) w; rw [h, hR2] at this; rw [decide_eq_false hm]; exact this)
  have HH : Hid (R'.data.toList = restL S ∧ (R'.size = 0 ↔ restL S = []) ∧ (run R' 0 = R'.size ↔ allD (restL S))) := ⟨hR2, by rw [size_list, hR2, List.length_eq_zero_iff], by rw [run_all, hR2]⟩
  obtain ⟨k1, k2, k3⟩ := @sortK_one k
  have c1 : (k == 8) = false := by rw [beq_eq_false_iff_ne]; intro hc; have := k1.2 hc; omega
  obtain ⟨rn, hrn⟩ : ∃ rn, run R' 0 = rn := ⟨_, rfl⟩
  rw [hrn] at HD HH
  have HM := Lib.hid hm
  have HR := Lib.hid hR
  clear h k1 k2 k3 hR2 hrn hm hR
  go_enter Tryz.func8, Tryz.ntmps8
  go_wp2_with fail
  refine (HS.out _).mono ?_
  rintro e w' ⟨rfl, rfl⟩
  go_wp2_with fail
  refine (HU.out _).mono ?_
  rintro e w' ⟨rfl, rfl⟩
  go_upto_region 6 with (fail)
  go_cut [6] (fun z wd => (∃ b : Bool, z = .bool b ∧ Aside (b = false)) ∧ wd = w')
  case first =>
    by_cases hl : 0 < S.size
    · have hne : ¬ S = ByteArray.empty := fun hc => by rw [hc] at hl; exact absurd hl (by decide)
      have hc := bt_int hl
      have hq : ((bt S 0 : Int) == 45) = false := by rw [beq_eq_false_iff_ne]; have := HM.out; omega
      go_wp2_with fail
      go_meet
      exact ⟨⟨_, rfl, rfl⟩, rfl⟩
    · have hne : S = ByteArray.empty := by
        have : S.data.toList = [] := List.length_eq_zero_iff.1 (by rw [← size_list]; omega)
        cases S; simp at this; subst this; rfl
      go_wp2_with fail
      all_goals
        go_meet
        exact ⟨⟨_, rfl, rfl⟩, rfl⟩
  case rest =>
    obtain ⟨⟨b, rfl, hb⟩, rfl⟩ := hcut
    obtain rfl : b = false := hb.out
    go_upto_if 40 with (fail)
    go_cut [7] (fun z wd => (∃ D : ByteArray, z = .string D ∧ Aside (D = R')) ∧ wd = wc)
    case first =>
      go_wp2_with fail
      go_meet
      exact ⟨⟨_, rfl, HR.out⟩, rfl⟩
    case rest =>
      obtain ⟨⟨D, rfl, hD⟩, rfl⟩ := hcut
      obtain rfl : D = R' := hD.out
      go_wp2_with fail
      · have h := ‹D = ByteArray.empty›
        go_ret2
        exact ⟨0, 30, .bad0 (HH.out.2.1.1 (by rw [h]; rfl)), rfl, Below.refl _ _⟩
      refine (HD.out _).mono ?_
      rintro e w2 ⟨rfl, rfl⟩
      go_wp2_with fail
      · exfalso
        have h0 := ‹0 < D.size›
        have h1 := ‹(D.size : Int) ≤ 1›
        rcases ‹((D.size : Int) == 0) = true ∨ 1 < (D.size : Int)› with h | h
        · rw [beq_iff_eq] at h; omega
        · omega
      · have hok := (by have hs := HR.out; subst hs; exact okInt.mk3 HH.out.1 ‹0 < S.size› (HH.out.2.2.1 (Int.ofNat.inj ‹(rn : Int) = (S.size : Int)›)) (nought_p ‹0 < S.size› ‹(S[0].toNat : Int) = 48› ‹(S.size : Int) ≤ 1›) : okInt S)
        refine (HF.out (HH.out.2.2.1 (Int.ofNat.inj ‹(rn : Int) = (D.size : Int)›)) _).mono ?_
        rintro e w3 ⟨⟨b, hb, rfl⟩ | ⟨hb, rfl⟩, hw⟩
        · go_wp2_with fail
          go_ret2
          exact ⟨b, 0, Or.inr ⟨hok, Or.inl ⟨hb, rfl⟩⟩, rfl, hw⟩
        · go_wp2_with fail
          go_ret2
          exact ⟨0, 31, Or.inr ⟨hok, Or.inr ⟨hb, rfl, rfl⟩⟩, rfl, hw⟩
      · have h0 := ‹0 < D.size›
        have h1 := ‹(D[0].toNat : Int) = 48›
        have h2 := ‹1 < (D.size : Int)›
        go_ret2
        exact ⟨0, 30, .bad3 HH.out.1 h0 h1 (not_nought_p (by rw [HR.out]; exact h2)), rfl, Below.refl _ _⟩
      · have hok := okInt.mk2 HH.out.1 ‹0 < D.size› (HH.out.2.2.1 (Int.ofNat.inj ‹(rn : Int) = (D.size : Int)›)) ‹¬(D[0].toNat : Int) = 48›
        refine (HF.out (HH.out.2.2.1 (Int.ofNat.inj ‹(rn : Int) = (D.size : Int)›)) _).mono ?_
        rintro e w3 ⟨⟨b, hb, rfl⟩ | ⟨hb, rfl⟩, hw⟩
        · go_wp2_with fail
          go_ret2
          exact ⟨b, 0, Or.inr ⟨hok, Or.inl ⟨hb, rfl⟩⟩, rfl, hw⟩
        · go_wp2_with fail
          go_ret2
          exact ⟨0, 31, Or.inr ⟨hok, Or.inr ⟨hb, rfl, rfl⟩⟩, rfl, hw⟩
      · exact absurd (empty_of ‹¬0 < D.size›) ‹¬D = ByteArray.empty›
      · rename_i hrn
        go_ret2
        exact ⟨0, 30, .bad1 (fun hd => hrn (congrArg Int.ofNat (HH.out.2.2.2 hd))), rfl, Below.refl _ _⟩

end Go.Proofs.YtnpinogjajhlhaaGreatDoor.Fl
end
