/- A part of the proof that lexiconlaw03.NumsReads answers true at every kind and every text: RfWhole, RfWholeA. No condition. -/
import Derived.Test.YtnpinogjajhlhaaGreatDoorZ40
section
/- The reference's whole, walked (printed by rfwhole.py). -/
namespace Go.Proofs.YtnpinogjajhlhaaGreatDoor.Fl
open Go.RowKit

theorem fit_plus {s : Int} {N : Nat} (hN : N < 18446744073709551616) (hs : s = 2 ∨ s = 3 ∨ s = 4 ∨ s = 5) (h : s = 2 ∨ s = 3 → N < 9223372036854775808) : fitV s false N = (if fitsS s N = true then some N else none) := by
  have P := fit_pure N hN
  rcases hs with rfl | rfl | rfl | rfl
  · exact (P.2.2.2.2.2.1 (h (by decide))).1
  · rw [fits3, if_pos rfl]; exact (P.2.2.2.2.2.1 (h (by decide))).2
  · exact P.2.2.2.2.2.2.1
  · rw [fits5, if_pos rfl]; exact P.2.2.2.2.2.2.2

theorem fit_minus {s : Int} {N v : Nat} (hN : N < 18446744073709551616) (hs : s = 2 ∨ s = 3) (h : N ≤ 9223372036854775808) (h0 : 0 < N) (hv : v = 18446744073709551616 - N) : fitV s true N = (if fitsS s v = true then some v else none) := by
  have P := fit_pure N hN
  have e : (18446744073709551616 - N) % 18446744073709551616 = v := by omega
  rw [e] at P
  rcases hs with rfl | rfl
  · exact (P.2.1 h).1
  · rw [fits3, if_pos rfl]; exact (P.2.1 h).2

theorem fit_nought {s : Int} (hs : s = 2 ∨ s = 3 ∨ s = 4 ∨ s = 5) : fitV s true 0 = (if fitsS s 0 = true then some 0 else none) := by
  rcases hs with rfl | rfl | rfl | rfl <;> decide

theorem fit_least {s : Int} {N : Nat} (h : ((s = 2 ∨ s = 3) ∧ 9223372036854775808 < N) ∨ ((s = 4 ∨ s = 5) ∧ 0 < N)) (hN : N < 18446744073709551616) : fitV s true N = none := by
  have P := fit_pure N hN
  rcases h with ⟨rfl | rfl, h⟩ | ⟨rfl | rfl, h⟩
  · exact (P.1 h).1
  · exact (P.1 h).2
  · exact (P.2.2.1 h).1
  · exact (P.2.2.1 h).2

theorem fit_most {s : Int} {N : Nat} (h : s = 2 ∨ s = 3) (hN : N < 18446744073709551616) (h2 : 9223372036854775808 ≤ N) : fitV s false N = none := by
  have P := fit_pure N hN
  rcases h with rfl | rfl
  · exact (P.2.2.2.2.1 h2).1
  · exact (P.2.2.2.2.1 h2).2

set_option maxHeartbeats 4000000 in
set_option maxRecDepth 100000 in
theorem rwhole_2p (k : Int) (D : ByteArray) (hd : allD D.data.toList) (hb : D.size ≤ 1152921504606846976) (hs : sortK k = 2) (w : World) (N : Nat) (hN : N < 18446744073709551616) (hND : nv D.data.toList = N) :
    Calls Tryz.prog 32 #[.int .u8 k, .bool false, .string D] w (FitPost (fitV 2 false N) w.heap.size w) := by
  have HV := Lib.hid (value_walk D hd hb)
  have HS := Lib.hid (signed_walk k)
  have HF := Lib.hid (rfits_walk k)
  rw [hs, show sgnS 2 = 32 from rfl] at HS
  rw [hs] at HF
  rw [hND] at HV
  have HN := Lib.hid hN
  have hni : (N : Int) ≤ 18446744073709551615 := by omega
  clear hs hND hd hb
  go_enter Tryz.func32, Tryz.ntmps32
  go_wp2_with fail
  refine (HV.out _).mono ?_
  rintro e w' ⟨⟨-, rfl⟩ | ⟨h, -⟩, rfl⟩
  case inr => exact absurd h (by omega)
  go_wp2_with fail
  repeat'
    (refine (HS.out _).mono ?_
     rintro e w' ⟨rfl, rfl⟩
     go_wp2_with fail)
  · have h := ‹9223372036854775807 < (N : Int)›
    have HE := Lib.hid (fit_most (s := 2) (by decide) HN.out (by omega))
    go_ret2
    exact ⟨Or.inr ⟨HE.out, rfl⟩, Below.refl _ _⟩
  · have HE := Lib.hid (fit_plus (s := 2) HN.out (by decide) (fun _ => by have := ‹(N : Int) ≤ 9223372036854775807›; omega))
    refine (HF.out N HN.out _).mono ?_
    rintro e w3 ⟨rfl, rfl⟩
    cases hf : fitsS 2 N with
    | true =>
      have HE2 := HE.out
      rw [hf, if_pos rfl] at HE2
      have HE3 := Lib.hid HE2
      clear HE2 hf
      go_wp2_with fail
      go_ret2
      exact ⟨Or.inl ⟨_, HE3.out, rfl⟩, Below.refl _ _⟩
    | false =>
      have HE2 := HE.out
      rw [hf, if_neg Bool.false_ne_true] at HE2
      have HE3 := Lib.hid HE2
      clear HE2 hf
      go_wp2_with fail
      go_ret2
      exact ⟨Or.inr ⟨HE3.out, rfl⟩, Below.refl _ _⟩

set_option maxHeartbeats 4000000 in
set_option maxRecDepth 100000 in
theorem rwhole_2z (k : Int) (D : ByteArray) (hd : allD D.data.toList) (hb : D.size ≤ 1152921504606846976) (hs : sortK k = 2) (w : World) (hND : nv D.data.toList = 0) :
    Calls Tryz.prog 32 #[.int .u8 k, .bool true, .string D] w (FitPost (fitV 2 true 0) w.heap.size w) := by
  have HV := Lib.hid (value_walk D hd hb)
  have HS := Lib.hid (signed_walk k)
  have HF := Lib.hid (rfits_walk k)
  rw [hs, show sgnS 2 = 32 from rfl] at HS
  rw [hs] at HF
  rw [hND] at HV
  clear hs hND hd hb
  go_enter Tryz.func32, Tryz.ntmps32
  go_wp2_with fail
  refine (HV.out _).mono ?_
  rintro e w' ⟨⟨-, rfl⟩ | ⟨h, -⟩, rfl⟩
  case inr => exact absurd h (by omega)
  go_wp2_with fail
  repeat'
    (refine (HS.out _).mono ?_
     rintro e w' ⟨rfl, rfl⟩
     go_wp2_with fail)
  · have HE := Lib.hid (fit_nought (s := 2) (by decide))
    refine (HF.out 0 (by decide) _).mono ?_
    rintro e w3 ⟨rfl, rfl⟩
    cases hf : fitsS 2 0 with
    | true =>
      have HE2 := HE.out
      rw [hf, if_pos rfl] at HE2
      have HE3 := Lib.hid HE2
      clear HE2 hf
      go_wp2_with fail
      go_ret2
      exact ⟨Or.inl ⟨_, HE3.out, rfl⟩, Below.refl _ _⟩
    | false =>
      have HE2 := HE.out
      rw [hf, if_neg Bool.false_ne_true] at HE2
      have HE3 := Lib.hid HE2
      clear HE2 hf
      go_wp2_with fail
      go_ret2
      exact ⟨Or.inr ⟨HE3.out, rfl⟩, Below.refl _ _⟩

set_option maxHeartbeats 4000000 in
set_option maxRecDepth 100000 in
theorem rwhole_2m (k : Int) (D : ByteArray) (hd : allD D.data.toList) (hb : D.size ≤ 1152921504606846976) (hs : sortK k = 2) (w : World) (N : Nat) (hN : N < 18446744073709551616) (h0 : 0 < N) (hND : nv D.data.toList = N) :
    Calls Tryz.prog 32 #[.int .u8 k, .bool true, .string D] w (FitPost (fitV 2 true N) w.heap.size w) := by
  have HV := Lib.hid (value_walk D hd hb)
  have HS := Lib.hid (signed_walk k)
  have HF := Lib.hid (rfits_walk k)
  rw [hs, show sgnS 2 = 32 from rfl] at HS
  rw [hs] at HF
  rw [hND] at HV
  have HN := Lib.hid hN
  have hni : (N : Int) ≤ 18446744073709551615 := by omega
  have hpi : 0 < (N : Int) := by omega
  have HP := Lib.hid h0
  clear h0
  clear hs hND hd hb
  go_enter Tryz.func32, Tryz.ntmps32
  go_wp2_with fail
  refine (HV.out _).mono ?_
  rintro e w' ⟨⟨-, rfl⟩ | ⟨h, -⟩, rfl⟩
  case inr => exact absurd h (by omega)
  go_wp2_with fail
  repeat'
    (refine (HS.out _).mono ?_
     rintro e w' ⟨rfl, rfl⟩
     go_wp2_with fail)
  · obtain ⟨v, hv⟩ : ∃ v : Nat, v = 18446744073709551616 - N := ⟨_, rfl⟩
    have hvi : (18446744073709551615 - (N : Int) + 1) = (v : Int) := by have := HN.out; omega
    have hvl : v < 18446744073709551616 := by have := HP.out; omega
    rw [hvi]
    have HVV := Lib.hid hv
    clear hv hvi
    have HE := Lib.hid (fit_minus (s := 2) HN.out (by decide) (by have := ‹(N : Int) ≤ 9223372036854775808›; omega) HP.out HVV.out)
    refine (HF.out v hvl _).mono ?_
    rintro e w3 ⟨rfl, rfl⟩
    cases hf : fitsS 2 v with
    | true =>
      have HE2 := HE.out
      rw [hf, if_pos rfl] at HE2
      have HE3 := Lib.hid HE2
      clear HE2 hf
      go_wp2_with fail
      go_ret2
      exact ⟨Or.inl ⟨_, HE3.out, rfl⟩, Below.refl _ _⟩
    | false =>
      have HE2 := HE.out
      rw [hf, if_neg Bool.false_ne_true] at HE2
      have HE3 := Lib.hid HE2
      clear HE2 hf
      go_wp2_with fail
      go_ret2
      exact ⟨Or.inr ⟨HE3.out, rfl⟩, Below.refl _ _⟩
  · have h := ‹9223372036854775808 < (N : Int)›
    have HE := Lib.hid (fit_least (s := 2) (N := N) (Or.inl ⟨by decide, by omega⟩) HN.out)
    go_ret2
    exact ⟨Or.inr ⟨HE.out, rfl⟩, Below.refl _ _⟩

set_option maxHeartbeats 4000000 in
set_option maxRecDepth 100000 in
theorem rwhole_3p (k : Int) (D : ByteArray) (hd : allD D.data.toList) (hb : D.size ≤ 1152921504606846976) (hs : sortK k = 3) (w : World) (N : Nat) (hN : N < 18446744073709551616) (hND : nv D.data.toList = N) :
    Calls Tryz.prog 32 #[.int .u8 k, .bool false, .string D] w (FitPost (fitV 3 false N) w.heap.size w) := by
  have HV := Lib.hid (value_walk D hd hb)
  have HS := Lib.hid (signed_walk k)
  have HF := Lib.hid (rfits_walk k)
  rw [hs, show sgnS 3 = 64 from rfl] at HS
  rw [hs] at HF
  rw [hND] at HV
  have HN := Lib.hid hN
  have hni : (N : Int) ≤ 18446744073709551615 := by omega
  clear hs hND hd hb
  go_enter Tryz.func32, Tryz.ntmps32
  go_wp2_with fail
  refine (HV.out _).mono ?_
  rintro e w' ⟨⟨-, rfl⟩ | ⟨h, -⟩, rfl⟩
  case inr => exact absurd h (by omega)
  go_wp2_with fail
  repeat'
    (refine (HS.out _).mono ?_
     rintro e w' ⟨rfl, rfl⟩
     go_wp2_with fail)
  · have h := ‹9223372036854775807 < (N : Int)›
    have HE := Lib.hid (fit_most (s := 3) (by decide) HN.out (by omega))
    go_ret2
    exact ⟨Or.inr ⟨HE.out, rfl⟩, Below.refl _ _⟩
  · have HE := Lib.hid (fit_plus (s := 3) HN.out (by decide) (fun _ => by have := ‹(N : Int) ≤ 9223372036854775807›; omega))
    refine (HF.out N HN.out _).mono ?_
    rintro e w3 ⟨rfl, rfl⟩
    cases hf : fitsS 3 N with
    | true =>
      have HE2 := HE.out
      rw [hf, if_pos rfl] at HE2
      have HE3 := Lib.hid HE2
      clear HE2 hf
      go_wp2_with fail
      go_ret2
      exact ⟨Or.inl ⟨_, HE3.out, rfl⟩, Below.refl _ _⟩
    | false =>
      have HE2 := HE.out
      rw [hf, if_neg Bool.false_ne_true] at HE2
      have HE3 := Lib.hid HE2
      clear HE2 hf
      go_wp2_with fail
      go_ret2
      exact ⟨Or.inr ⟨HE3.out, rfl⟩, Below.refl _ _⟩

set_option maxHeartbeats 4000000 in
set_option maxRecDepth 100000 in
theorem rwhole_3z (k : Int) (D : ByteArray) (hd : allD D.data.toList) (hb : D.size ≤ 1152921504606846976) (hs : sortK k = 3) (w : World) (hND : nv D.data.toList = 0) :
    Calls Tryz.prog 32 #[.int .u8 k, .bool true, .string D] w (FitPost (fitV 3 true 0) w.heap.size w) := by
  have HV := Lib.hid (value_walk D hd hb)
  have HS := Lib.hid (signed_walk k)
  have HF := Lib.hid (rfits_walk k)
  rw [hs, show sgnS 3 = 64 from rfl] at HS
  rw [hs] at HF
  rw [hND] at HV
  clear hs hND hd hb
  go_enter Tryz.func32, Tryz.ntmps32
  go_wp2_with fail
  refine (HV.out _).mono ?_
  rintro e w' ⟨⟨-, rfl⟩ | ⟨h, -⟩, rfl⟩
  case inr => exact absurd h (by omega)
  go_wp2_with fail
  repeat'
    (refine (HS.out _).mono ?_
     rintro e w' ⟨rfl, rfl⟩
     go_wp2_with fail)
  · have HE := Lib.hid (fit_nought (s := 3) (by decide))
    refine (HF.out 0 (by decide) _).mono ?_
    rintro e w3 ⟨rfl, rfl⟩
    cases hf : fitsS 3 0 with
    | true =>
      have HE2 := HE.out
      rw [hf, if_pos rfl] at HE2
      have HE3 := Lib.hid HE2
      clear HE2 hf
      go_wp2_with fail
      go_ret2
      exact ⟨Or.inl ⟨_, HE3.out, rfl⟩, Below.refl _ _⟩
    | false =>
      have HE2 := HE.out
      rw [hf, if_neg Bool.false_ne_true] at HE2
      have HE3 := Lib.hid HE2
      clear HE2 hf
      go_wp2_with fail
      go_ret2
      exact ⟨Or.inr ⟨HE3.out, rfl⟩, Below.refl _ _⟩

set_option maxHeartbeats 4000000 in
set_option maxRecDepth 100000 in
theorem rwhole_3m (k : Int) (D : ByteArray) (hd : allD D.data.toList) (hb : D.size ≤ 1152921504606846976) (hs : sortK k = 3) (w : World) (N : Nat) (hN : N < 18446744073709551616) (h0 : 0 < N) (hND : nv D.data.toList = N) :
    Calls Tryz.prog 32 #[.int .u8 k, .bool true, .string D] w (FitPost (fitV 3 true N) w.heap.size w) := by
  have HV := Lib.hid (value_walk D hd hb)
  have HS := Lib.hid (signed_walk k)
  have HF := Lib.hid (rfits_walk k)
  rw [hs, show sgnS 3 = 64 from rfl] at HS
  rw [hs] at HF
  rw [hND] at HV
  have HN := Lib.hid hN
  have hni : (N : Int) ≤ 18446744073709551615 := by omega
  have hpi : 0 < (N : Int) := by omega
  have HP := Lib.hid h0
  clear h0
  clear hs hND hd hb
  go_enter Tryz.func32, Tryz.ntmps32
  go_wp2_with fail
  refine (HV.out _).mono ?_
  rintro e w' ⟨⟨-, rfl⟩ | ⟨h, -⟩, rfl⟩
  case inr => exact absurd h (by omega)
  go_wp2_with fail
  repeat'
    (refine (HS.out _).mono ?_
     rintro e w' ⟨rfl, rfl⟩
     go_wp2_with fail)
  · obtain ⟨v, hv⟩ : ∃ v : Nat, v = 18446744073709551616 - N := ⟨_, rfl⟩
    have hvi : (18446744073709551615 - (N : Int) + 1) = (v : Int) := by have := HN.out; omega
    have hvl : v < 18446744073709551616 := by have := HP.out; omega
    rw [hvi]
    have HVV := Lib.hid hv
    clear hv hvi
    have HE := Lib.hid (fit_minus (s := 3) HN.out (by decide) (by have := ‹(N : Int) ≤ 9223372036854775808›; omega) HP.out HVV.out)
    refine (HF.out v hvl _).mono ?_
    rintro e w3 ⟨rfl, rfl⟩
    cases hf : fitsS 3 v with
    | true =>
      have HE2 := HE.out
      rw [hf, if_pos rfl] at HE2
      have HE3 := Lib.hid HE2
      clear HE2 hf
      go_wp2_with fail
      go_ret2
      exact ⟨Or.inl ⟨_, HE3.out, rfl⟩, Below.refl _ _⟩
    | false =>
      have HE2 := HE.out
      rw [hf, if_neg Bool.false_ne_true] at HE2
      have HE3 := Lib.hid HE2
      clear HE2 hf
      go_wp2_with fail
      go_ret2
      exact ⟨Or.inr ⟨HE3.out, rfl⟩, Below.refl _ _⟩
  · have h := ‹9223372036854775808 < (N : Int)›
    have HE := Lib.hid (fit_least (s := 3) (N := N) (Or.inl ⟨by decide, by omega⟩) HN.out)
    go_ret2
    exact ⟨Or.inr ⟨HE.out, rfl⟩, Below.refl _ _⟩

set_option maxHeartbeats 4000000 in
set_option maxRecDepth 100000 in
theorem rwhole_4p (k : Int) (D : ByteArray) (hd : allD D.data.toList) (hb : D.size ≤ 1152921504606846976) (hs : sortK k = 4) (w : World) (N : Nat) (hN : N < 18446744073709551616) (hND : nv D.data.toList = N) :
    Calls Tryz.prog 32 #[.int .u8 k, .bool false, .string D] w (FitPost (fitV 4 false N) w.heap.size w) := by
  have HV := Lib.hid (value_walk D hd hb)
  have HS := Lib.hid (signed_walk k)
  have HF := Lib.hid (rfits_walk k)
  rw [hs, show sgnS 4 = 0 from rfl] at HS
  rw [hs] at HF
  rw [hND] at HV
  have HN := Lib.hid hN
  have hni : (N : Int) ≤ 18446744073709551615 := by omega
  clear hs hND hd hb
  go_enter Tryz.func32, Tryz.ntmps32
  go_wp2_with fail
  refine (HV.out _).mono ?_
  rintro e w' ⟨⟨-, rfl⟩ | ⟨h, -⟩, rfl⟩
  case inr => exact absurd h (by omega)
  go_wp2_with fail
  repeat'
    (refine (HS.out _).mono ?_
     rintro e w' ⟨rfl, rfl⟩
     go_wp2_with fail)
  · have HE := Lib.hid (fit_plus (s := 4) HN.out (by decide) (fun h => by omega))
    refine (HF.out N HN.out _).mono ?_
    rintro e w3 ⟨rfl, rfl⟩
    cases hf : fitsS 4 N with
    | true =>
      have HE2 := HE.out
      rw [hf, if_pos rfl] at HE2
      have HE3 := Lib.hid HE2
      clear HE2 hf
      go_wp2_with fail
      go_ret2
      exact ⟨Or.inl ⟨_, HE3.out, rfl⟩, Below.refl _ _⟩
    | false =>
      have HE2 := HE.out
      rw [hf, if_neg Bool.false_ne_true] at HE2
      have HE3 := Lib.hid HE2
      clear HE2 hf
      go_wp2_with fail
      go_ret2
      exact ⟨Or.inr ⟨HE3.out, rfl⟩, Below.refl _ _⟩

set_option maxHeartbeats 4000000 in
set_option maxRecDepth 100000 in
theorem rwhole_4z (k : Int) (D : ByteArray) (hd : allD D.data.toList) (hb : D.size ≤ 1152921504606846976) (hs : sortK k = 4) (w : World) (hND : nv D.data.toList = 0) :
    Calls Tryz.prog 32 #[.int .u8 k, .bool true, .string D] w (FitPost (fitV 4 true 0) w.heap.size w) := by
  have HV := Lib.hid (value_walk D hd hb)
  have HS := Lib.hid (signed_walk k)
  have HF := Lib.hid (rfits_walk k)
  rw [hs, show sgnS 4 = 0 from rfl] at HS
  rw [hs] at HF
  rw [hND] at HV
  clear hs hND hd hb
  go_enter Tryz.func32, Tryz.ntmps32
  go_wp2_with fail
  refine (HV.out _).mono ?_
  rintro e w' ⟨⟨-, rfl⟩ | ⟨h, -⟩, rfl⟩
  case inr => exact absurd h (by omega)
  go_wp2_with fail
  repeat'
    (refine (HS.out _).mono ?_
     rintro e w' ⟨rfl, rfl⟩
     go_wp2_with fail)
  · have HE := Lib.hid (fit_nought (s := 4) (by decide))
    refine (HF.out 0 (by decide) _).mono ?_
    rintro e w3 ⟨rfl, rfl⟩
    cases hf : fitsS 4 0 with
    | true =>
      have HE2 := HE.out
      rw [hf, if_pos rfl] at HE2
      have HE3 := Lib.hid HE2
      clear HE2 hf
      go_wp2_with fail
      go_ret2
      exact ⟨Or.inl ⟨_, HE3.out, rfl⟩, Below.refl _ _⟩
    | false =>
      have HE2 := HE.out
      rw [hf, if_neg Bool.false_ne_true] at HE2
      have HE3 := Lib.hid HE2
      clear HE2 hf
      go_wp2_with fail
      go_ret2
      exact ⟨Or.inr ⟨HE3.out, rfl⟩, Below.refl _ _⟩

set_option maxHeartbeats 4000000 in
set_option maxRecDepth 100000 in
theorem rwhole_4m (k : Int) (D : ByteArray) (hd : allD D.data.toList) (hb : D.size ≤ 1152921504606846976) (hs : sortK k = 4) (w : World) (N : Nat) (hN : N < 18446744073709551616) (h0 : 0 < N) (hND : nv D.data.toList = N) :
    Calls Tryz.prog 32 #[.int .u8 k, .bool true, .string D] w (FitPost (fitV 4 true N) w.heap.size w) := by
  have HV := Lib.hid (value_walk D hd hb)
  have HS := Lib.hid (signed_walk k)
  have HF := Lib.hid (rfits_walk k)
  rw [hs, show sgnS 4 = 0 from rfl] at HS
  rw [hs] at HF
  rw [hND] at HV
  have HN := Lib.hid hN
  have hni : (N : Int) ≤ 18446744073709551615 := by omega
  have hpi : 0 < (N : Int) := by omega
  have HP := Lib.hid h0
  clear h0
  clear hs hND hd hb
  go_enter Tryz.func32, Tryz.ntmps32
  go_wp2_with fail
  refine (HV.out _).mono ?_
  rintro e w' ⟨⟨-, rfl⟩ | ⟨h, -⟩, rfl⟩
  case inr => exact absurd h (by omega)
  go_wp2_with fail
  repeat'
    (refine (HS.out _).mono ?_
     rintro e w' ⟨rfl, rfl⟩
     go_wp2_with fail)
  all_goals
    have HE := Lib.hid (fit_least (s := 4) (N := N) (Or.inr ⟨by decide, HP.out⟩) HN.out)
    go_ret2
    exact ⟨Or.inr ⟨HE.out, rfl⟩, Below.refl _ _⟩

set_option maxHeartbeats 4000000 in
set_option maxRecDepth 100000 in
theorem rwhole_5p (k : Int) (D : ByteArray) (hd : allD D.data.toList) (hb : D.size ≤ 1152921504606846976) (hs : sortK k = 5) (w : World) (N : Nat) (hN : N < 18446744073709551616) (hND : nv D.data.toList = N) :
    Calls Tryz.prog 32 #[.int .u8 k, .bool false, .string D] w (FitPost (fitV 5 false N) w.heap.size w) := by
  have HV := Lib.hid (value_walk D hd hb)
  have HS := Lib.hid (signed_walk k)
  have HF := Lib.hid (rfits_walk k)
  rw [hs, show sgnS 5 = 0 from rfl] at HS
  rw [hs] at HF
  rw [hND] at HV
  have HN := Lib.hid hN
  have hni : (N : Int) ≤ 18446744073709551615 := by omega
  clear hs hND hd hb
  go_enter Tryz.func32, Tryz.ntmps32
  go_wp2_with fail
  refine (HV.out _).mono ?_
  rintro e w' ⟨⟨-, rfl⟩ | ⟨h, -⟩, rfl⟩
  case inr => exact absurd h (by omega)
  go_wp2_with fail
  repeat'
    (refine (HS.out _).mono ?_
     rintro e w' ⟨rfl, rfl⟩
     go_wp2_with fail)
  · have HE := Lib.hid (fit_plus (s := 5) HN.out (by decide) (fun h => by omega))
    refine (HF.out N HN.out _).mono ?_
    rintro e w3 ⟨rfl, rfl⟩
    cases hf : fitsS 5 N with
    | true =>
      have HE2 := HE.out
      rw [hf, if_pos rfl] at HE2
      have HE3 := Lib.hid HE2
      clear HE2 hf
      go_wp2_with fail
      go_ret2
      exact ⟨Or.inl ⟨_, HE3.out, rfl⟩, Below.refl _ _⟩
    | false =>
      have HE2 := HE.out
      rw [hf, if_neg Bool.false_ne_true] at HE2
      have HE3 := Lib.hid HE2
      clear HE2 hf
      go_wp2_with fail
      go_ret2
      exact ⟨Or.inr ⟨HE3.out, rfl⟩, Below.refl _ _⟩

set_option maxHeartbeats 4000000 in
set_option maxRecDepth 100000 in
theorem rwhole_5z (k : Int) (D : ByteArray) (hd : allD D.data.toList) (hb : D.size ≤ 1152921504606846976) (hs : sortK k = 5) (w : World) (hND : nv D.data.toList = 0) :
    Calls Tryz.prog 32 #[.int .u8 k, .bool true, .string D] w (FitPost (fitV 5 true 0) w.heap.size w) := by
  have HV := Lib.hid (value_walk D hd hb)
  have HS := Lib.hid (signed_walk k)
  have HF := Lib.hid (rfits_walk k)
  rw [hs, show sgnS 5 = 0 from rfl] at HS
  rw [hs] at HF
  rw [hND] at HV
  clear hs hND hd hb
  go_enter Tryz.func32, Tryz.ntmps32
  go_wp2_with fail
  refine (HV.out _).mono ?_
  rintro e w' ⟨⟨-, rfl⟩ | ⟨h, -⟩, rfl⟩
  case inr => exact absurd h (by omega)
  go_wp2_with fail
  repeat'
    (refine (HS.out _).mono ?_
     rintro e w' ⟨rfl, rfl⟩
     go_wp2_with fail)
  · have HE := Lib.hid (fit_nought (s := 5) (by decide))
    refine (HF.out 0 (by decide) _).mono ?_
    rintro e w3 ⟨rfl, rfl⟩
    cases hf : fitsS 5 0 with
    | true =>
      have HE2 := HE.out
      rw [hf, if_pos rfl] at HE2
      have HE3 := Lib.hid HE2
      clear HE2 hf
      go_wp2_with fail
      go_ret2
      exact ⟨Or.inl ⟨_, HE3.out, rfl⟩, Below.refl _ _⟩
    | false =>
      have HE2 := HE.out
      rw [hf, if_neg Bool.false_ne_true] at HE2
      have HE3 := Lib.hid HE2
      clear HE2 hf
      go_wp2_with fail
      go_ret2
      exact ⟨Or.inr ⟨HE3.out, rfl⟩, Below.refl _ _⟩

set_option maxHeartbeats 4000000 in
set_option maxRecDepth 100000 in
theorem rwhole_5m (k : Int) (D : ByteArray) (hd : allD D.data.toList) (hb : D.size ≤ 1152921504606846976) (hs : sortK k = 5) (w : World) (N : Nat) (hN : N < 18446744073709551616) (h0 : 0 < N) (hND : nv D.data.toList = N) :
    Calls Tryz.prog 32 #[.int .u8 k, .bool true, .string D] w (FitPost (fitV 5 true N) w.heap.size w) := by
  have HV := Lib.hid (value_walk D hd hb)
  have HS := Lib.hid (signed_walk k)
  have HF := Lib.hid (rfits_walk k)
  rw [hs, show sgnS 5 = 0 from rfl] at HS
  rw [hs] at HF
  rw [hND] at HV
  have HN := Lib.hid hN
  have hni : (N : Int) ≤ 18446744073709551615 := by omega
  have hpi : 0 < (N : Int) := by omega
  have HP := Lib.hid h0
  clear h0
  clear hs hND hd hb
  go_enter Tryz.func32, Tryz.ntmps32
  go_wp2_with fail
  refine (HV.out _).mono ?_
  rintro e w' ⟨⟨-, rfl⟩ | ⟨h, -⟩, rfl⟩
  case inr => exact absurd h (by omega)
  go_wp2_with fail
  repeat'
    (refine (HS.out _).mono ?_
     rintro e w' ⟨rfl, rfl⟩
     go_wp2_with fail)
  all_goals
    have HE := Lib.hid (fit_least (s := 5) (N := N) (Or.inr ⟨by decide, HP.out⟩) HN.out)
    go_ret2
    exact ⟨Or.inr ⟨HE.out, rfl⟩, Below.refl _ _⟩

end Go.Proofs.YtnpinogjajhlhaaGreatDoor.Fl
end
section
/- The reference's whole at every number, walked. -/
namespace Go.Proofs.YtnpinogjajhlhaaGreatDoor.Fl
open Go.RowKit

set_option maxRecDepth 100000 in
theorem rwhole_over (k : Int) (m : Bool) (D : ByteArray) (hd : allD D.data.toList) (hb : D.size ≤ 1152921504606846976) (w : World) (hN : 18446744073709551616 ≤ nv D.data.toList) (s : Int) :
    Calls Tryz.prog 32 #[.int .u8 k, .bool m, .string D] w (FitPost (fitV s m (nv D.data.toList)) w.heap.size w) := by
  have HE := Lib.hid (fit_over _ hN s m)
  have HV := Lib.hid (value_walk D hd hb)
  generalize nv D.data.toList = N at *
  have HN := Lib.hid hN
  clear hd hb hN
  go_enter Tryz.func32, Tryz.ntmps32
  go_wp2_with fail
  refine (HV.out _).mono ?_
  rintro e w' ⟨⟨h, -⟩ | ⟨-, rfl⟩, rfl⟩
  case inl => exact absurd HN.out (by omega)
  go_wp2_with fail
  all_goals
    go_ret2
    exact ⟨Or.inr ⟨HE.out, rfl⟩, Below.refl _ _⟩

theorem rwhole_walk (k : Int) (m : Bool) (D : ByteArray) (hd : allD D.data.toList) (hb : D.size ≤ 1152921504606846976) (hs : sortK k = 2 ∨ sortK k = 3 ∨ sortK k = 4 ∨ sortK k = 5) (w : World) :
    Calls Tryz.prog 32 #[.int .u8 k, .bool m, .string D] w (FitPost (fitV (sortK k) m (nv D.data.toList)) w.heap.size w) := by
  by_cases hN : nv D.data.toList < 18446744073709551616
  · cases m with
    | false =>
      rcases hs with h | h | h | h <;> rw [h]
      · exact rwhole_2p k D hd hb h w _ hN rfl
      · exact rwhole_3p k D hd hb h w _ hN rfl
      · exact rwhole_4p k D hd hb h w _ hN rfl
      · exact rwhole_5p k D hd hb h w _ hN rfl
    | true =>
      by_cases h0 : nv D.data.toList = 0
      · rcases hs with h | h | h | h <;> rw [h, h0]
        · exact rwhole_2z k D hd hb h w h0
        · exact rwhole_3z k D hd hb h w h0
        · exact rwhole_4z k D hd hb h w h0
        · exact rwhole_5z k D hd hb h w h0
      · rcases hs with h | h | h | h <;> rw [h]
        · exact rwhole_2m k D hd hb h w _ hN (by omega) rfl
        · exact rwhole_3m k D hd hb h w _ hN (by omega) rfl
        · exact rwhole_4m k D hd hb h w _ hN (by omega) rfl
        · exact rwhole_5m k D hd hb h w _ hN (by omega) rfl
  · exact rwhole_over k m D hd hb w (by omega) _
end Go.Proofs.YtnpinogjajhlhaaGreatDoor.Fl
end
