/- A part of the proof that lexiconlaw03.NumsReads answers true at every kind and every text: RfFloat64. No condition. -/
import Derived.Test.YtnpinogjajhlhaaGreatDoorZ46
import Derived.Test.YtnpinogjajhlhaaGreatDoorZ33
section
/- The reference's float, walked at one format. -/
namespace Go.Proofs.YtnpinogjajhlhaaGreatDoor.Fl
open Go.RowKit Ieee

def Fs2Post64 (neg : Bool) (D : List UInt8) (X : Int) (B : Nat) (w : World) (e : Ending) (w' : World) : Prop :=
  ∃ (b : Nat) (ok : Bool), e = .returned (.tuple #[.int .u64 b, .bool ok]) ∧ Hid (∃ r, RN Ieee.double.binade (2 ^ (1074 + 1)) (vn (nv D) X) (vd X) r ∧ ((Ieee.double.infRung ≤ r ∧ ok = false) ∨ (r < Ieee.double.infRung ∧ ok = true ∧ b = Ieee.double.word neg r))) ∧ Below B w w'

theorem fs264_walk (neg : Bool) (D : ByteArray) (X : Int) (w : World) (hd : FlD D.data.toList) (hb : D.size ≤ 134217728) (hX1 : -4000000000000 ≤ X) (hX2 : X ≤ 4000000000000) :
    Calls Tryz.prog 76 #[.agg #[.bool neg, .string D, .int .i64 X], .agg #[.int .i64 53, .int .i64 (-1074), .int .i64 971]] w (Fs2Post64 neg D.data.toList X w.heap.size w) := by
  refine (floats64_walk neg D X w hd hb hX1 hX2).mono ?_
  rintro e w' ⟨r, hr, h | h, hb⟩
  · obtain ⟨h1, rfl⟩ := h
    exact ⟨0, false, rfl, ⟨r, hr, Or.inl ⟨h1, rfl⟩⟩, hb⟩
  · obtain ⟨h1, rfl⟩ := h
    exact ⟨_, true, rfl, ⟨r, hr, Or.inr ⟨h1, rfl, rfl⟩⟩, hb⟩

theorem ret_ui64 {a b c : Int} (h : a = b) : Ending.returned (.tuple #[.int .u64 a, .int .i64 c]) = Ending.returned (.tuple #[.int .u64 b, .int .i64 c]) := by rw [h]

set_option maxHeartbeats 1000000 in
set_option maxRecDepth 100000 in
theorem float64_walk (S : ByteArray) {neg : Bool} {ds : List UInt8} {pt : Bool} {fs : List UInt8} {hx : Bool} {c : UInt8} {sg es : List UInt8} (hN : S.toList ≠ [] → numLen S = S.size → NumL S.data.toList neg ds pt fs hx c sg es) (hb : S.size ≤ 67108864) (w : World) :
    Calls Tryz.prog 33 #[.int .u8 1, .string S] w (RfPost Ieee.double 1074 9221120237041090560 S neg (valV ds fs) (valX fs hx sg es) w.heap.size w) := by
  have HN := Lib.hid hN
  clear hN
  go_enter Tryz.func33, Tryz.ntmps33
  go_wp2_with fail
  refine (form64_walk 1 (by decide) _).mono ?_
  unfold wideV
  rintro e w1 ⟨rfl, hb1⟩
  go_wp2_with fail
  obtain ⟨B0, hB0⟩ : ∃ B0, w.heap.size = B0 := ⟨_, rfl⟩
  obtain ⟨BX, hBX⟩ : ∃ BX, w1.heap.size = BX := ⟨_, rfl⟩
  have HW : Hid (Below B0 w (w1.alloc (Obj.cells #[.int .i64 53, .int .i64 (-1074), .int .i64 971] 102)) ∧ Box64 (w1.alloc (Obj.cells #[.int .i64 53, .int .i64 (-1074), .int .i64 971] 102)) BX) := by
    rw [← hB0, ← hBX]
    exact ⟨hb1.alloc hb1.size _, box64_new w1⟩
  have HB0 := Lib.hid hB0
  rw [hBX]
  generalize w1.alloc (Obj.cells #[.int .i64 53, .int .i64 (-1074), .int .i64 971] 102) = w2 at *
  clear hb1 hBX
  have c0 := HW.out.2.c0
  have c1 := HW.out.2.c1
  have c2 := HW.out.2.c2
  have HS0 : Hid (w2.drew.cell? ⟨BX, 0, none⟩ = some (.int .i64 53) ∧ w2.drew.cell? ⟨BX, 1, none⟩ = some (.int .i64 (-1074)) ∧ w2.drew.cell? ⟨BX, 2, none⟩ = some (.int .i64 971) ∧ Below w2.heap.size w2 w2.drew) :=
    ⟨c0, c1, c2, (Below.refl _ _).drew⟩
  go_cut [7] (fun tv wd => (∃ tp : Nat, tv = .int .u64 tp ∧ Aside (tp = 9218868437227405312)) ∧ Aside (Below B0 w wd ∧ Box64 wd BX))
  case first =>
    go_region_held3 (fun w' => w'.cell? ⟨BX, 0, none⟩ = some (.int .i64 53) ∧ w'.cell? ⟨BX, 1, none⟩ = some (.int .i64 (-1074)) ∧ w'.cell? ⟨BX, 2, none⟩ = some (.int .i64 971) ∧ Below w2.heap.size w2 w') ((first | exact HS0.out | exact hSA))
      (first | (go_at_call 75; refine (most64_walk _).mono ?_; rintro e wA ⟨rfl, hbA⟩; have hSA := held64 HS0.out hbA))
    all_goals
      have HZ : Hid (Below B0 w wA ∧ Box64 wA BX) := ⟨HW.out.1.trans (hSA.2.2.2.mono (Nat.le_trans (by rw [← HB0.out]; exact Nat.le_refl _) HW.out.1.size)), ⟨hSA.1, hSA.2.1, hSA.2.2.1⟩⟩
      go_wp2_with fail
      go_meet
      exact ⟨⟨9218868437227405312, rfl, rfl⟩, HZ.out⟩
  case rest =>
    obtain ⟨⟨tp, rfl, htp⟩, hA⟩ := hcut
    have d0 := hA.out.2.c0
    have d1 := hA.out.2.c1
    have d2 := hA.out.2.c2
    clear c0 c1 c2
    have hbe : Hid (Below B0 w wc) := hA.out.1
    by_cases c1 : S.toList = NaNL
    · have b1 : (S.toList == [78, 97, 78]) = true := by rw [beq_iff_eq]; exact c1
      have H1 := Lib.hid c1
      have hs : (tp : Int) + 2251799813685248 ≤ 18446744073709551615 := by rw [htp.out]; decide
      clear c1
      go_wp2_with fail
      go_ret2
      exact ⟨9221120237041090560, 0, Or.inl ⟨H1.out, rfl, rfl⟩, ret_ui64 (by rw [htp.out]; rfl), by rw [HB0.out]; exact hbe.out⟩
    · have b1 : (S.toList == [78, 97, 78]) = false := by rw [beq_eq_false_iff_ne]; exact c1
      have H1 := Lib.hid c1
      clear c1
      by_cases c2 : S.toList = InfL
      · have b2 : (S.toList == [73, 110, 102, 105, 110, 105, 116, 121]) = true := by rw [beq_iff_eq]; exact c2
        have H2 := Lib.hid c2
        clear c2
        go_wp2_with fail
        go_ret2
        exact ⟨tp, 0, Or.inr (Or.inl ⟨H1.out, H2.out, by rw [consts64.2.1]; exact htp.out, rfl⟩), rfl, by rw [HB0.out]; exact hbe.out⟩
      · have b2 : (S.toList == [73, 110, 102, 105, 110, 105, 116, 121]) = false := by rw [beq_eq_false_iff_ne]; exact c2
        have H2 := Lib.hid c2
        clear c2
        by_cases c3 : S.toList = MInfL
        · have b3 : (S.toList == [45, 73, 110, 102, 105, 110, 105, 116, 121]) = true := by rw [beq_iff_eq]; exact c3
          have H3 := Lib.hid c3
          have hs : (tp : Int) + 9223372036854775808 ≤ 18446744073709551615 := by rw [htp.out]; decide
          clear c3
          go_wp2_with fail
          go_ret2
          exact ⟨9223372036854775808 + tp, 0, Or.inr (Or.inr (Or.inl ⟨H1.out, H2.out, H3.out, by rw [consts64.2.1, consts64.2.2, htp.out], rfl⟩)), ret_ui64 (by omega), by rw [HB0.out]; exact hbe.out⟩
        · have b3 : (S.toList == [45, 73, 110, 102, 105, 110, 105, 116, 121]) = false := by rw [beq_eq_false_iff_ne]; exact c3
          have H3 := Lib.hid c3
          clear c3
          by_cases c4 : S.toList = []
          · have H4 := Lib.hid c4
            have hz : S.size = 0 := by rw [size_list]; rw [Lib.toList_data] at c4; rw [c4]; rfl
            have b4 : ((S.size : Int) == 0) = true := by rw [hz]; rfl
            clear c4 hz
            go_wp2_with fail
            go_ret2
            exact ⟨0, 30, Or.inr (Or.inr (Or.inr (Or.inl ⟨H1.out, H2.out, H3.out, Or.inl H4.out, rfl, rfl⟩))), rfl, by rw [HB0.out]; exact hbe.out⟩
          · have H4 := Lib.hid c4
            have hz : S.size ≠ 0 := fun h => c4 (by rw [Lib.toList_data]; exact List.eq_nil_of_length_eq_zero (by rw [← size_list]; exact h))
            have b4 := beq_nat0 hz
            have HNUM := Lib.hid (rnum_walk S (by omega))
            clear c4 hz
            by_cases hnum : numLen S = S.size
            · have hq : (((numLen S : Nat) : Int) != (S.size : Int)) = false := by rw [hnum]; simp
              have HSH := Lib.hid (HN.out H4.out hnum)
              have HE := Lib.hid hnum
              clear hnum
              go_wp2_with (go_at_call 10; refine (HNUM.out _).mono ?_; rintro e w' ⟨rfl, rfl⟩)
              have HLEN := Lib.hid (num_len HSH.out hb)
              have d0 := hA.out.2.c0
              have d1 := hA.out.2.c1
              have d2 := hA.out.2.c2
              have HS1 : Hid (w'.drew.cell? ⟨BX, 0, none⟩ = some (.int .i64 53) ∧ w'.drew.cell? ⟨BX, 1, none⟩ = some (.int .i64 (-1074)) ∧ w'.drew.cell? ⟨BX, 2, none⟩ = some (.int .i64 971) ∧ Below w'.heap.size w' w'.drew) :=
                ⟨d0, d1, d2, (Below.refl _ _).drew⟩
              clear d0 d1 d2
              go_cut [9, 10] (fun bv ov wd => (∃ (b : Nat) (ok : Bool), bv = .int .u64 b ∧ ov = .bool ok ∧ Aside (∃ r, RN Ieee.double.binade (2 ^ (1074 + 1)) (vn (valV ds fs) (valX fs hx sg es)) (vd (valX fs hx sg es)) r ∧
                ((Ieee.double.infRung ≤ r ∧ ok = false) ∨ (r < Ieee.double.infRung ∧ ok = true ∧ b = Ieee.double.word neg r)))) ∧ Aside (Below B0 w wd))
              case first =>
                go_region_held3 (fun w'' => w''.cell? ⟨BX, 0, none⟩ = some (.int .i64 53) ∧ w''.cell? ⟨BX, 1, none⟩ = some (.int .i64 (-1074)) ∧ w''.cell? ⟨BX, 2, none⟩ = some (.int .i64 971) ∧ Below w'.heap.size w' w'') ((first | exact HS1.out | exact hSF | exact hSA))
                  (first
                    | (go_at_call 34; refine (tell_walk S HSH.out hb _).mono ?_; rintro e wA ⟨D, X, rfl, hP, hbA⟩; have hSA := held64 HS1.out hbA)
                    | (go_at_call 76; refine (fs264_walk neg D X _ (told_fld HLEN.out.2 hP) (by have h1 := told_size hP; have h2 := HLEN.out.1; rw [size_list]; omega) hP.2.1 hP.2.2.1).mono ?_; rintro e wF ⟨b, ok, rfl, hH, hbF⟩; have hSF := held64 hSA hbF))
                all_goals
                  have HZ : Hid ((∃ r, RN Ieee.double.binade (2 ^ (1074 + 1)) (vn (valV ds fs) (valX fs hx sg es)) (vd (valX fs hx sg es)) r ∧
                      ((Ieee.double.infRung ≤ r ∧ ok = false) ∨ (r < Ieee.double.infRung ∧ ok = true ∧ b = Ieee.double.word neg r))) ∧ Below B0 w wF) := by
                    refine ⟨?_, hbe.out.trans (hSF.2.2.2.mono (Nat.le_trans (by rw [← HB0.out]; exact Nat.le_refl _) hbe.out.size))⟩
                    obtain ⟨r, hr1, hr2⟩ := hH.out
                    obtain ⟨r', hr1', hr2'⟩ := told_near (k := 1024) (T1 := 1000) (T2 := 500) fit64 (by decide) (by decide) pow10_1000 pow10_500 inf64 HLEN.out.2 HLEN.out.1 hP hr1
                    refine ⟨r', hr1', ?_⟩
                    rcases hr2 with ⟨h1, h2⟩ | ⟨h1, h2, h3⟩
                    · left; refine ⟨?_, h2⟩
                      rcases hr2' with ⟨-, h⟩ | h
                      · exact h
                      · rw [h]; exact h1
                    · right
                      rcases hr2' with ⟨h, -⟩ | h
                      · omega
                      · rw [h]; exact ⟨h1, h2, h3⟩
                  clear hH hSF hSA hP
                  go_wp2_with fail
                  go_meet
                  exact ⟨⟨b, ok, rfl, rfl, HZ.out.1⟩, HZ.out.2⟩
              case rest =>
                obtain ⟨⟨b, ok, rfl, rfl, hR⟩, hBe⟩ := hcut
                cases ok with
                | false =>
                  go_wp2_with fail
                  go_ret2
                  obtain ⟨r, hr1, hr2⟩ := hR.out
                  rcases hr2 with ⟨h1, -⟩ | ⟨-, h2, -⟩
                  · exact ⟨0, 31, Or.inr (Or.inr (Or.inr (Or.inr ⟨H1.out, H2.out, H3.out, H4.out, HE.out, r, hr1, Or.inl ⟨h1, rfl, rfl⟩⟩))), rfl, by first | exact hBe.out | (rw [HB0.out]; exact hBe.out)⟩
                  · cases h2
                | true =>
                  go_wp2_with fail
                  go_ret2
                  obtain ⟨r, hr1, hr2⟩ := hR.out
                  rcases hr2 with ⟨-, h2⟩ | ⟨h1, -, h3⟩
                  · cases h2
                  · exact ⟨b, 0, Or.inr (Or.inr (Or.inr (Or.inr ⟨H1.out, H2.out, H3.out, H4.out, HE.out, r, hr1, Or.inr ⟨h1, h3, rfl⟩⟩))), rfl, by first | exact hBe.out | (rw [HB0.out]; exact hBe.out)⟩
            · have hq : (((numLen S : Nat) : Int) != (S.size : Int)) = true := by rw [bne_iff_ne]; omega
              have HE := Lib.hid hnum
              clear hnum
              go_wp2_with (go_at_call 10; refine (HNUM.out _).mono ?_; rintro e w' ⟨rfl, rfl⟩)
              go_ret2
              exact ⟨0, 30, Or.inr (Or.inr (Or.inr (Or.inl ⟨H1.out, H2.out, H3.out, Or.inr HE.out, rfl, rfl⟩))), rfl, by rw [HB0.out]; exact hbe.out⟩
end Go.Proofs.YtnpinogjajhlhaaGreatDoor.Fl
end
