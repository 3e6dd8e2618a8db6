/- A part of the proof that lexiconlaw03.NumsReads answers true at every kind and every text: RfFloat32, RfReadW, RfWo, WkReads. No condition. -/
import Derived.Test.YtnpinogjajhlhaaGreatDoorZ49
import Derived.Test.YtnpinogjajhlhaaGreatDoorZ33
import Derived.Test.YtnpinogjajhlhaaGreatDoorZ47
import Derived.Test.YtnpinogjajhlhaaGreatDoorZ43
import Derived.Test.YtnpinogjajhlhaaGreatDoorZ41
import Derived.Test.YtnpinogjajhlhaaGreatDoorZ37
import Derived.Test.YtnpinogjajhlhaaGreatDoorZ27
section
/- The reference's float, walked at one format. -/
namespace Go.Proofs.YtnpinogjajhlhaaGreatDoor.Fl
open Go.RowKit Ieee

def Fs2Post32 (neg : Bool) (D : List UInt8) (X : Int) (B : Nat) (w : World) (e : Ending) (w' : World) : Prop :=
  ∃ (b : Nat) (ok : Bool), e = .returned (.tuple #[.int .u64 b, .bool ok]) ∧ Hid (∃ r, RN Ieee.single.binade (2 ^ (149 + 1)) (vn (nv D) X) (vd X) r ∧ ((Ieee.single.infRung ≤ r ∧ ok = false) ∨ (r < Ieee.single.infRung ∧ ok = true ∧ b = Ieee.single.word neg r))) ∧ Below B w w'

theorem fs232_walk (neg : Bool) (D : ByteArray) (X : Int) (w : World) (hd : FlD D.data.toList) (hb : D.size ≤ 134217728) (hX1 : -4000000000000 ≤ X) (hX2 : X ≤ 4000000000000) :
    Calls Tryz.prog 76 #[.agg #[.bool neg, .string D, .int .i64 X], .agg #[.int .i64 24, .int .i64 (-149), .int .i64 104]] w (Fs2Post32 neg D.data.toList X w.heap.size w) := by
  refine (floats32_walk neg D X w hd hb hX1 hX2).mono ?_
  rintro e w' ⟨r, hr, h | h, hb⟩
  · obtain ⟨h1, rfl⟩ := h
    exact ⟨0, false, rfl, ⟨r, hr, Or.inl ⟨h1, rfl⟩⟩, hb⟩
  · obtain ⟨h1, rfl⟩ := h
    exact ⟨_, true, rfl, ⟨r, hr, Or.inr ⟨h1, rfl, rfl⟩⟩, hb⟩

theorem ret_ui32 {a b c : Int} (h : a = b) : Ending.returned (.tuple #[.int .u64 a, .int .i64 c]) = Ending.returned (.tuple #[.int .u64 b, .int .i64 c]) := by rw [h]

set_option maxHeartbeats 1000000 in
set_option maxRecDepth 100000 in
theorem float32_walk (S : ByteArray) {neg : Bool} {ds : List UInt8} {pt : Bool} {fs : List UInt8} {hx : Bool} {c : UInt8} {sg es : List UInt8} (hN : S.toList ≠ [] → numLen S = S.size → NumL S.data.toList neg ds pt fs hx c sg es) (hb : S.size ≤ 67108864) (w : World) :
    Calls Tryz.prog 33 #[.int .u8 2, .string S] w (RfPost Ieee.single 149 2143289344 S neg (valV ds fs) (valX fs hx sg es) w.heap.size w) := by
  have HN := Lib.hid hN
  clear hN
  go_enter Tryz.func33, Tryz.ntmps33
  go_wp2_with fail
  refine (form32_walk 2 (by decide) _).mono ?_
  unfold slimV
  rintro e w1 ⟨rfl, hb1⟩
  go_wp2_with fail
  obtain ⟨B0, hB0⟩ : ∃ B0, w.heap.size = B0 := ⟨_, rfl⟩
  obtain ⟨BX, hBX⟩ : ∃ BX, w1.heap.size = BX := ⟨_, rfl⟩
  have HW : Hid (Below B0 w (w1.alloc (Obj.cells #[.int .i64 24, .int .i64 (-149), .int .i64 104] 102)) ∧ Box32 (w1.alloc (Obj.cells #[.int .i64 24, .int .i64 (-149), .int .i64 104] 102)) BX) := by
    rw [← hB0, ← hBX]
    exact ⟨hb1.alloc hb1.size _, box32_new w1⟩
  have HB0 := Lib.hid hB0
  rw [hBX]
  generalize w1.alloc (Obj.cells #[.int .i64 24, .int .i64 (-149), .int .i64 104] 102) = w2 at *
  clear hb1 hBX
  have c0 := HW.out.2.c0
  have c1 := HW.out.2.c1
  have c2 := HW.out.2.c2
  have HS0 : Hid (w2.drew.cell? ⟨BX, 0, none⟩ = some (.int .i64 24) ∧ w2.drew.cell? ⟨BX, 1, none⟩ = some (.int .i64 (-149)) ∧ w2.drew.cell? ⟨BX, 2, none⟩ = some (.int .i64 104) ∧ Below w2.heap.size w2 w2.drew) :=
    ⟨c0, c1, c2, (Below.refl _ _).drew⟩
  go_cut [7] (fun tv wd => (∃ tp : Nat, tv = .int .u64 tp ∧ Aside (tp = 2139095040)) ∧ Aside (Below B0 w wd ∧ Box32 wd BX))
  case first =>
    go_region_held3 (fun w' => w'.cell? ⟨BX, 0, none⟩ = some (.int .i64 24) ∧ w'.cell? ⟨BX, 1, none⟩ = some (.int .i64 (-149)) ∧ w'.cell? ⟨BX, 2, none⟩ = some (.int .i64 104) ∧ Below w2.heap.size w2 w') ((first | exact HS0.out | exact hSA))
      (first | (go_at_call 75; refine (most32_walk _).mono ?_; rintro e wA ⟨rfl, hbA⟩; have hSA := held32 HS0.out hbA))
    all_goals
      have HZ : Hid (Below B0 w wA ∧ Box32 wA BX) := ⟨HW.out.1.trans (hSA.2.2.2.mono (Nat.le_trans (by rw [← HB0.out]; exact Nat.le_refl _) HW.out.1.size)), ⟨hSA.1, hSA.2.1, hSA.2.2.1⟩⟩
      go_wp2_with fail
      go_meet
      exact ⟨⟨2139095040, rfl, rfl⟩, HZ.out⟩
  case rest =>
    obtain ⟨⟨tp, rfl, htp⟩, hA⟩ := hcut
    have d0 := hA.out.2.c0
    have d1 := hA.out.2.c1
    have d2 := hA.out.2.c2
    clear c0 c1 c2
    have hbe : Hid (Below B0 w wc) := hA.out.1
    by_cases c1 : S.toList = NaNL
    · have b1 : (S.toList == [78, 97, 78]) = true := by rw [beq_iff_eq]; exact c1
      have H1 := Lib.hid c1
      have hs : (tp : Int) + 4194304 ≤ 18446744073709551615 := by rw [htp.out]; decide
      clear c1
      go_wp2_with fail
      go_ret2
      exact ⟨2143289344, 0, Or.inl ⟨H1.out, rfl, rfl⟩, ret_ui32 (by rw [htp.out]; rfl), by rw [HB0.out]; exact hbe.out⟩
    · have b1 : (S.toList == [78, 97, 78]) = false := by rw [beq_eq_false_iff_ne]; exact c1
      have H1 := Lib.hid c1
      clear c1
      by_cases c2 : S.toList = InfL
      · have b2 : (S.toList == [73, 110, 102, 105, 110, 105, 116, 121]) = true := by rw [beq_iff_eq]; exact c2
        have H2 := Lib.hid c2
        clear c2
        go_wp2_with fail
        go_ret2
        exact ⟨tp, 0, Or.inr (Or.inl ⟨H1.out, H2.out, by rw [consts32.2.1]; exact htp.out, rfl⟩), rfl, by rw [HB0.out]; exact hbe.out⟩
      · have b2 : (S.toList == [73, 110, 102, 105, 110, 105, 116, 121]) = false := by rw [beq_eq_false_iff_ne]; exact c2
        have H2 := Lib.hid c2
        clear c2
        by_cases c3 : S.toList = MInfL
        · have b3 : (S.toList == [45, 73, 110, 102, 105, 110, 105, 116, 121]) = true := by rw [beq_iff_eq]; exact c3
          have H3 := Lib.hid c3
          have hs : (tp : Int) + 2147483648 ≤ 18446744073709551615 := by rw [htp.out]; decide
          clear c3
          go_wp2_with fail
          go_ret2
          exact ⟨2147483648 + tp, 0, Or.inr (Or.inr (Or.inl ⟨H1.out, H2.out, H3.out, by rw [consts32.2.1, consts32.2.2, htp.out], rfl⟩)), ret_ui32 (by omega), by rw [HB0.out]; exact hbe.out⟩
        · have b3 : (S.toList == [45, 73, 110, 102, 105, 110, 105, 116, 121]) = false := by rw [beq_eq_false_iff_ne]; exact c3
          have H3 := Lib.hid c3
          clear c3
          by_cases c4 : S.toList = []
          · have H4 := Lib.hid c4
            have hz : S.size = 0 := by rw [size_list]; rw [Lib.toList_data] at c4; rw [c4]; rfl
            have b4 : ((S.size : Int) == 0) = true := by rw [hz]; rfl
            clear c4 hz
            go_wp2_with fail
            go_ret2
            exact ⟨0, 30, Or.inr (Or.inr (Or.inr (Or.inl ⟨H1.out, H2.out, H3.out, Or.inl H4.out, rfl, rfl⟩))), rfl, by rw [HB0.out]; exact hbe.out⟩
          · have H4 := Lib.hid c4
            have hz : S.size ≠ 0 := fun h => c4 (by rw [Lib.toList_data]; exact List.eq_nil_of_length_eq_zero (by rw [← size_list]; exact h))
            have b4 := beq_nat0 hz
            have HNUM := Lib.hid (rnum_walk S (by omega))
            clear c4 hz
            by_cases hnum : numLen S = S.size
            · have hq : (((numLen S : Nat) : Int) != (S.size : Int)) = false := by rw [hnum]; simp
              have HSH := Lib.hid (HN.out H4.out hnum)
              have HE := Lib.hid hnum
              clear hnum
              go_wp2_with (go_at_call 10; refine (HNUM.out _).mono ?_; rintro e w' ⟨rfl, rfl⟩)
              have HLEN := Lib.hid (num_len HSH.out hb)
              have d0 := hA.out.2.c0
              have d1 := hA.out.2.c1
              have d2 := hA.out.2.c2
              have HS1 : Hid (w'.drew.cell? ⟨BX, 0, none⟩ = some (.int .i64 24) ∧ w'.drew.cell? ⟨BX, 1, none⟩ = some (.int .i64 (-149)) ∧ w'.drew.cell? ⟨BX, 2, none⟩ = some (.int .i64 104) ∧ Below w'.heap.size w' w'.drew) :=
                ⟨d0, d1, d2, (Below.refl _ _).drew⟩
              clear d0 d1 d2
              go_cut [9, 10] (fun bv ov wd => (∃ (b : Nat) (ok : Bool), bv = .int .u64 b ∧ ov = .bool ok ∧ Aside (∃ r, RN Ieee.single.binade (2 ^ (149 + 1)) (vn (valV ds fs) (valX fs hx sg es)) (vd (valX fs hx sg es)) r ∧
                ((Ieee.single.infRung ≤ r ∧ ok = false) ∨ (r < Ieee.single.infRung ∧ ok = true ∧ b = Ieee.single.word neg r)))) ∧ Aside (Below B0 w wd))
              case first =>
                go_region_held3 (fun w'' => w''.cell? ⟨BX, 0, none⟩ = some (.int .i64 24) ∧ w''.cell? ⟨BX, 1, none⟩ = some (.int .i64 (-149)) ∧ w''.cell? ⟨BX, 2, none⟩ = some (.int .i64 104) ∧ Below w'.heap.size w' w'') ((first | exact HS1.out | exact hSF | exact hSA))
                  (first
                    | (go_at_call 34; refine (tell_walk S HSH.out hb _).mono ?_; rintro e wA ⟨D, X, rfl, hP, hbA⟩; have hSA := held32 HS1.out hbA)
                    | (go_at_call 76; refine (fs232_walk neg D X _ (told_fld HLEN.out.2 hP) (by have h1 := told_size hP; have h2 := HLEN.out.1; rw [size_list]; omega) hP.2.1 hP.2.2.1).mono ?_; rintro e wF ⟨b, ok, rfl, hH, hbF⟩; have hSF := held32 hSA hbF))
                all_goals
                  have HZ : Hid ((∃ r, RN Ieee.single.binade (2 ^ (149 + 1)) (vn (valV ds fs) (valX fs hx sg es)) (vd (valX fs hx sg es)) r ∧
                      ((Ieee.single.infRung ≤ r ∧ ok = false) ∨ (r < Ieee.single.infRung ∧ ok = true ∧ b = Ieee.single.word neg r))) ∧ Below B0 w wF) := by
                    refine ⟨?_, hbe.out.trans (hSF.2.2.2.mono (Nat.le_trans (by rw [← HB0.out]; exact Nat.le_refl _) hbe.out.size))⟩
                    obtain ⟨r, hr1, hr2⟩ := hH.out
                    obtain ⟨r', hr1', hr2'⟩ := told_near (k := 128) (T1 := 1000) (T2 := 500) fit32 (by decide) (by decide) pow10_1000' pow10_500' inf32 HLEN.out.2 HLEN.out.1 hP hr1
                    refine ⟨r', hr1', ?_⟩
                    rcases hr2 with ⟨h1, h2⟩ | ⟨h1, h2, h3⟩
                    · left; refine ⟨?_, h2⟩
                      rcases hr2' with ⟨-, h⟩ | h
                      · exact h
                      · rw [h]; exact h1
                    · right
                      rcases hr2' with ⟨h, -⟩ | h
                      · omega
                      · rw [h]; exact ⟨h1, h2, h3⟩
                  clear hH hSF hSA hP
                  go_wp2_with fail
                  go_meet
                  exact ⟨⟨b, ok, rfl, rfl, HZ.out.1⟩, HZ.out.2⟩
              case rest =>
                obtain ⟨⟨b, ok, rfl, rfl, hR⟩, hBe⟩ := hcut
                cases ok with
                | false =>
                  go_wp2_with fail
                  go_ret2
                  obtain ⟨r, hr1, hr2⟩ := hR.out
                  rcases hr2 with ⟨h1, -⟩ | ⟨-, h2, -⟩
                  · exact ⟨0, 31, Or.inr (Or.inr (Or.inr (Or.inr ⟨H1.out, H2.out, H3.out, H4.out, HE.out, r, hr1, Or.inl ⟨h1, rfl, rfl⟩⟩))), rfl, by first | exact hBe.out | (rw [HB0.out]; exact hBe.out)⟩
                  · cases h2
                | true =>
                  go_wp2_with fail
                  go_ret2
                  obtain ⟨r, hr1, hr2⟩ := hR.out
                  rcases hr2 with ⟨-, h2⟩ | ⟨h1, -, h3⟩
                  · cases h2
                  · exact ⟨b, 0, Or.inr (Or.inr (Or.inr (Or.inr ⟨H1.out, H2.out, H3.out, H4.out, HE.out, r, hr1, Or.inr ⟨h1, h3, rfl⟩⟩))), rfl, by first | exact hBe.out | (rw [HB0.out]; exact hBe.out)⟩
            · have hq : (((numLen S : Nat) : Int) != (S.size : Int)) = true := by rw [bne_iff_ne]; omega
              have HE := Lib.hid hnum
              clear hnum
              go_wp2_with (go_at_call 10; refine (HNUM.out _).mono ?_; rintro e w' ⟨rfl, rfl⟩)
              go_ret2
              exact ⟨0, 30, Or.inr (Or.inr (Or.inr (Or.inl ⟨H1.out, H2.out, H3.out, Or.inr HE.out, rfl, rfl⟩))), rfl, by rw [HB0.out]; exact hbe.out⟩
end Go.Proofs.YtnpinogjajhlhaaGreatDoor.Fl
end
section
/- The reference's Read of every kind and text, walked; Whole of what is none. -/
namespace Go.Proofs.YtnpinogjajhlhaaGreatDoor.Fl
open Go.RowKit

theorem rread_walk (k : Int) (S : ByteArray) (hsz : S.size ≤ 67108864) {neg : Bool} {ds : List UInt8} {pt : Bool} {fs : List UInt8} {hx : Bool} {c : UInt8} {sg es : List UInt8} (hN : S.toList ≠ [] → numLen S = S.size → NumL S.data.toList neg ds pt fs hx c sg es)
    (w : World) : Calls Tryz.prog 8 #[.int .u8 k, .string S] w (RdPost (sortK k) S neg (valV ds fs) (valX fs hx sg es) w.heap.size w) := by
  have hs : sortK k = 0 ∨ sortK k = 1 ∨ sortK k = 6 ∨ sortK k = 7 ∨ sortK k = 2 ∨ sortK k = 3 ∨ sortK k = 4 ∨ sortK k = 5 := by
    unfold sortK
    repeat' split
    all_goals simp
  rcases hs with h | h | h | h | h
  · refine (rread_none k S w h).mono ?_
    rintro e w' ⟨rfl, rfl⟩
    exact ⟨0, 30, Or.inl ⟨h, rfl, rfl⟩, rfl, Below.refl _ _⟩
  · refine (rread_bool k S w h).mono ?_
    rintro e w' ⟨b, err, hs, rfl, hw⟩
    exact ⟨b, err, Or.inr (Or.inl ⟨h, hs⟩), rfl, hw⟩
  · obtain rfl := (@sortK_one k).2.1.1 h
    refine rread_fl 2 S w (Or.inr rfl) _ (Lib.hid ?_)
    refine (float32_walk S hN hsz w).mono ?_
    rintro e w' ⟨b, err, hs, rfl, hw⟩
    exact ⟨b, err, rfl, b, err, Or.inr (Or.inr (Or.inl ⟨h, hs⟩)), rfl, hw⟩
  · obtain rfl := (@sortK_one k).2.2.1 h
    refine rread_fl 1 S w (Or.inl rfl) _ (Lib.hid ?_)
    refine (float64_walk S hN hsz w).mono ?_
    rintro e w' ⟨b, err, hs, rfl, hw⟩
    exact ⟨b, err, rfl, b, err, Or.inr (Or.inr (Or.inr (Or.inl ⟨h, hs⟩))), rfl, hw⟩
  · refine (rread_int k S hsz w h).mono ?_
    rintro e w' ⟨b, err, hs, rfl, hw⟩
    exact ⟨b, err, Or.inr (Or.inr (Or.inr (Or.inr ⟨h, hs⟩))), rfl, hw⟩

set_option maxRecDepth 100000 in
theorem rwhole_read (k : Int) (S : ByteArray) (s : Int) (hk : sortK k = s) (hs : s = 0 ∨ s = 1 ∨ s = 6 ∨ s = 7) (w : World) (R : Ending → World → Prop)
    (HR : Hid (Calls Tryz.prog 8 #[.int .u8 k, .string S] w (fun e w' => ∃ (b : Nat) (err : Int), e = .returned (.tuple #[.int .u64 b, .int .i64 err]) ∧ R e w'))) :
    Calls Tryz.prog 9 #[.int .u8 k, .string S] w R := by
  have HS := Lib.hid (signed_walk k)
  have HU := Lib.hid (unsigned_walk k)
  rw [hk] at HS HU
  clear hk
  rcases hs with rfl | rfl | rfl | rfl
  all_goals
    rw [show sgnS _ = 0 from rfl] at HS
    rw [show unsS _ = 0 from rfl] at HU
    go_enter Tryz.func9, Tryz.ntmps9
    go_wp2_with fail
    refine (HS.out _).mono ?_
    rintro e w' ⟨rfl, rfl⟩
    go_wp2_with fail
    refine (HU.out _).mono ?_
    rintro e w' ⟨rfl, rfl⟩
    go_wp2_with fail
    refine HR.out.mono ?_
    rintro e w' ⟨b, err, rfl, hr⟩
    have HRR := Lib.hid hr
    clear hr
    go_wp2_with fail
    exact HRR.out

set_option maxRecDepth 100000 in
theorem rwhole_bad (k : Int) (S : ByteArray) (hsz : S.size ≤ 67108864) (hs : IntSort (sortK k)) (h : S.toList = [] ∨ numLen S ≠ S.size) (w : World) :
    Calls Tryz.prog 9 #[.int .u8 k, .string S] w (fun e w' => e = .returned (.tuple #[.int .u64 (0 : Nat), .int .i64 30]) ∧ w' = w) := by
  have HS := Lib.hid (signed_walk k)
  have HU := Lib.hid (unsigned_walk k)
  have HNUM := Lib.hid (rnum_walk S (by omega))
  have hcase : (S.size = 0) ∨ (S.size ≠ 0 ∧ numLen S ≠ S.size) := by
    by_cases h0 : S.size = 0
    · exact Or.inl h0
    · refine Or.inr ⟨h0, ?_⟩
      rcases h with h | h
      · exact absurd (by rw [size_list]; rw [Lib.toList_data] at h; rw [h]; rfl) h0
      · exact h
  have hs2 : (sgnS (sortK k) = 32 ∨ sgnS (sortK k) = 64) ∨ (sgnS (sortK k) = 0 ∧ (unsS (sortK k) = 32 ∨ unsS (sortK k) = 64)) := by
    rcases hs with h | h | h | h <;> rw [h] <;> decide
  generalize sgnS (sortK k) = a at *
  generalize unsS (sortK k) = u at *
  generalize numLen S = nl at *
  clear h hs
  rcases hs2 with (rfl | rfl) | ⟨rfl, rfl | rfl⟩
  all_goals
    rcases hcase with h0 | ⟨h0, h1⟩
    · have hz : ((S.size : Int) == 0) = true := by rw [h0]; rfl
      clear h0
      go_enter Tryz.func9, Tryz.ntmps9
      go_wp2_with (first | (go_at_call 29; refine (HS.out _).mono ?_; rintro e w' ⟨rfl, rfl⟩) | (go_at_call 30; refine (HU.out _).mono ?_; rintro e w' ⟨rfl, rfl⟩))
      go_ret2
      exact ⟨rfl, rfl⟩
    · have hz := beq_nat0 h0
      have hb : ((nl : Int) != (S.size : Int)) = true := by rw [bne_iff_ne]; omega
      clear h0 h1
      go_enter Tryz.func9, Tryz.ntmps9
      go_wp2_with (first | (go_at_call 29; refine (HS.out _).mono ?_; rintro e w' ⟨rfl, rfl⟩) | (go_at_call 30; refine (HU.out _).mono ?_; rintro e w' ⟨rfl, rfl⟩) | (go_at_call 10; refine (HNUM.out _).mono ?_; rintro e w' ⟨rfl, rfl⟩))
      go_ret2
      exact ⟨rfl, rfl⟩

theorem told_held {wz w1 w' : World} {b : Nat} {m : Bool} {D : ByteArray} {X : Int} (h : w1.cell? ⟨b, 0, none⟩ = some (.bool m) ∧ w1.cell? ⟨b, 1, none⟩ = some (.string D) ∧ w1.cell? ⟨b, 2, none⟩ = some (.int .i64 X) ∧ Below wz.heap.size wz w1) (hb : Below w1.heap.size w1 w') :
    w'.cell? ⟨b, 0, none⟩ = some (.bool m) ∧ w'.cell? ⟨b, 1, none⟩ = some (.string D) ∧ w'.cell? ⟨b, 2, none⟩ = some (.int .i64 X) ∧ Below wz.heap.size wz w' := by
  have hl : b < w1.heap.size := World.block_lt_of_cell? w1 ⟨b, 0, none⟩ h.1
  exact ⟨(hb.cell (p := ⟨b, 0, none⟩) hl).trans h.1, (hb.cell (p := ⟨b, 1, none⟩) hl).trans h.2.1, (hb.cell (p := ⟨b, 2, none⟩) hl).trans h.2.2.1, h.2.2.2.trans (hb.mono h.2.2.2.size)⟩

def FitPost2 (o : Option Nat) (B : Nat) (w : World) (e : Ending) (w' : World) : Prop :=
  ∃ (b : Nat) (err : Int), e = .returned (.tuple #[.int .u64 b, .int .i64 err]) ∧ Hid ((o = some b ∧ err = 0) ∨ (o = none ∧ b = 0 ∧ err = 31)) ∧ Below B w w'

theorem rwhole2_walk (k : Int) (m : Bool) (D : ByteArray) (hd : allD D.data.toList) (hb : D.size ≤ 1152921504606846976) (hs : IntSort (sortK k)) (w : World) :
    Calls Tryz.prog 32 #[.int .u8 k, .bool m, .string D] w (FitPost2 (fitV (sortK k) m (nv D.data.toList)) w.heap.size w) := by
  refine (rwhole_walk k m D hd hb hs w).mono ?_
  rintro e w' ⟨⟨b, h1, rfl⟩ | ⟨h1, rfl⟩, h2⟩
  · exact ⟨b, 0, rfl, Or.inl ⟨h1, rfl⟩, h2⟩
  · exact ⟨0, 31, rfl, Or.inr ⟨h1, rfl, rfl⟩, h2⟩

set_option maxHeartbeats 1000000 in
set_option maxRecDepth 100000 in
theorem rwhole_num (k : Int) (S : ByteArray) {neg : Bool} {ds : List UInt8} {pt : Bool} {fs : List UInt8} {hx : Bool} {c : UInt8} {sg es : List UInt8} (hN : NumL S.data.toList neg ds pt fs hx c sg es) (h1 : S.toList ≠ []) (h2 : numLen S = S.size) (hsz : S.size ≤ 67108864)
    (hs : IntSort (sortK k)) (w : World) :
    Calls Tryz.prog 9 #[.int .u8 k, .string S] w (fun e w' => ∃ (b : Nat) (err : Int), WhSpec (sortK k) neg (valV ds fs) (valX fs hx sg es) b err ∧ e = .returned (.tuple #[.int .u64 b, .int .i64 err]) ∧ Below w.heap.size w w') := by
  have HS := Lib.hid (signed_walk k)
  have HU := Lib.hid (unsigned_walk k)
  have HNUM := Lib.hid (rnum_walk S (by omega))
  have HWH := Lib.hid (fun (m : Bool) (D : ByteArray) (hd : allD D.data.toList) (hb : D.size ≤ 1152921504606846976) (w : World) => rwhole2_walk k m D hd hb hs w)
  have hs2 : (sgnS (sortK k) = 32 ∨ sgnS (sortK k) = 64) ∨ (sgnS (sortK k) = 0 ∧ (unsS (sortK k) = 32 ∨ unsS (sortK k) = 64)) := by
    rcases hs with h | h | h | h <;> rw [h] <;> decide
  have h0 : S.size ≠ 0 := fun h => h1 (by rw [Lib.toList_data]; exact List.eq_nil_of_length_eq_zero (by rw [← size_list]; exact h))
  have hz := beq_nat0 h0
  have hb : (((numLen S : Nat) : Int) != (S.size : Int)) = false := by rw [h2]; simp
  have HLEN := Lib.hid (num_len hN hsz)
  have HT := Lib.hid (tell_walk S hN hsz)
  obtain ⟨B0, hB0⟩ : ∃ B0, w.heap.size = B0 := ⟨_, rfl⟩
  have HB0 := Lib.hid hB0
  generalize sortK k = s at *
  generalize numLen S = nl at *
  generalize sgnS s = a at *
  generalize unsS s = u at *
  clear h1 h2 h0 hs hN
  rw [hB0]
  rcases hs2 with (rfl | rfl) | ⟨rfl, rfl | rfl⟩
  all_goals
    go_enter Tryz.func9, Tryz.ntmps9
    go_wp2_with (first | (go_at_call 29; refine (HS.out _).mono ?_; rintro e w' ⟨rfl, rfl⟩) | (go_at_call 30; refine (HU.out _).mono ?_; rintro e w' ⟨rfl, rfl⟩) | (go_at_call 10; refine (HNUM.out _).mono ?_; rintro e w' ⟨rfl, rfl⟩))
  all_goals
    refine (HT.out _).mono ?_
    rintro e w1 ⟨D, X, rfl, hP, hb1⟩
    have HPP := Lib.hid (told_whole (s := s) (neg := neg) HLEN.out.2 HLEN.out.1 hP)
    have HPD := Lib.hid (And.intro (told_fld HLEN.out.2 hP).1 (told_size hP))
    have hX1 := hP.2.1
    have hX2 := hP.2.2.1
    have hDs : (D.size : Int) ≤ 67108864 := by have h1 := told_size hP; have h2 := HLEN.out.1; rw [size_list]; omega
    obtain ⟨BT, hBT⟩ : ∃ BT, w1.heap.size = BT := ⟨_, rfl⟩
    have ht := told_new w1 neg D X
    have hb2 := hb1.alloc hb1.size (Obj.cells #[.bool neg, .string D, .int .i64 X] 52)
    rw [hBT] at ht
    rw [HB0.out] at hb2
    have HTA := Lib.hid (And.intro hb2 ht)
    clear ht hb2
    clear hP hb1
    by_cases hneg : X < 0
    · have HR := Lib.hid (HPP.out.1 (Or.inl hneg))
      go_wp2_with fail
      go_ret2
      exact ⟨0, 31, HR.out, rfl, by first | exact HTA.out.1 | (rw [HB0.out]; exact HTA.out.1)⟩
    · by_cases hbig : 30 < (D.size : Int) + X
      · have HR := Lib.hid (HPP.out.1 (Or.inr (by rw [← size_list]; exact hbig)))
        go_wp2_with fail
        go_ret2
        exact ⟨0, 31, HR.out, rfl, by first | exact HTA.out.1 | (rw [HB0.out]; exact HTA.out.1)⟩
      · obtain ⟨n, rfl⟩ : ∃ n : Nat, X = n := ⟨X.toNat, by omega⟩
        have HR := Lib.hid (HPP.out.2 n rfl (by rw [← size_list]; omega))
        have hn : (n : Int) ≤ 30 := by omega
        go_wp2_with fail
        generalize w1.alloc (Obj.cells #[.bool neg, .string D, .int .i64 (n : Int)] 52) = w2 at *
        have t0 := HTA.out.2.c0
        have t1 := HTA.out.2.c1
        have t2 := HTA.out.2.c2
        have HS0 : Hid (w2.drew.cell? ⟨BT, 0, none⟩ = some (.bool neg) ∧ w2.drew.cell? ⟨BT, 1, none⟩ = some (.string D) ∧ w2.drew.cell? ⟨BT, 2, none⟩ = some (.int .i64 (n : Int)) ∧ Below w2.heap.size w2 w2.drew) :=
          ⟨t0, t1, t2, (Below.refl _ _).drew⟩
        clear t0 t1 t2
        go_region_held3 (fun w'' => w''.cell? ⟨BT, 0, none⟩ = some (.bool neg) ∧ w''.cell? ⟨BT, 1, none⟩ = some (.string D) ∧ w''.cell? ⟨BT, 2, none⟩ = some (.int .i64 (n : Int)) ∧ Below w2.heap.size w2 w'') ((first | exact HS0.out | exact hSF))
          (first
            | (go_at_call 35; refine (noughts_walk n (by omega) _).mono ?_; rintro e w3 ⟨⟨Z, hZ, rfl⟩, rfl⟩; have hcc : ¬ 9223372036854775807 < D.size + Z.size := by (have hz := size_list Z; rw [hZ, List.length_replicate] at hz; omega))
            | (go_at_call 32; refine (HWH.out neg (D ++ Z) (by (rw [ByteArray.data_append, Array.toList_append, hZ]; intro x hx; rcases List.mem_append.1 hx with h | h; exact HPD.out.1 x h; have := (List.mem_replicate.1 h).2; rw [this]; decide)) (by (have hz := size_list Z; rw [hZ, List.length_replicate] at hz; rw [ByteArray.size_append]; omega)) _).mono ?_; rintro e wF ⟨b, err, rfl, hH, hbF⟩; have hSF := told_held HS0.out hbF))
        all_goals
          have HZ : Hid (WhSpec s neg (valV ds fs) (valX fs hx sg es) b err ∧ Below w2.heap.size w2 wF) := by
            refine Lib.hid ⟨?_, hSF.2.2.2⟩
            have hl : (D ++ Z).data.toList = D.data.toList ++ List.replicate n 48 := by rw [ByteArray.data_append, Array.toList_append, hZ]
            have h := hH.out
            rw [hl] at h
            rcases h with ⟨h1, rfl⟩ | ⟨h1, rfl, rfl⟩
            · exact HR.out.1 b h1
            · exact HR.out.2 h1
          clear hH hSF hZ
          go_wp2_with fail
          go_ret2
          exact ⟨b, err, HZ.out.1, rfl, by first | exact HTA.out.1.trans (HZ.out.2.mono (Nat.le_trans (Nat.le_of_eq HB0.out.symm) HTA.out.1.size)) | (rw [HB0.out]; exact HTA.out.1.trans (HZ.out.2.mono (Nat.le_trans (Nat.le_of_eq HB0.out.symm) HTA.out.1.size)))⟩
end Go.Proofs.YtnpinogjajhlhaaGreatDoor.Fl
end
section
/- The reference's Whole of every kind and text, walked. -/
namespace Go.Proofs.YtnpinogjajhlhaaGreatDoor.Fl
open Go.RowKit

theorem rwo_walk (k : Int) (S : ByteArray) (hsz : S.size ≤ 67108864) {neg : Bool} {ds : List UInt8} {pt : Bool} {fs : List UInt8} {hx : Bool} {c : UInt8} {sg es : List UInt8} (hN : S.toList ≠ [] → numLen S = S.size → NumL S.data.toList neg ds pt fs hx c sg es)
    (w : World) : Calls Tryz.prog 9 #[.int .u8 k, .string S] w (WoPost (sortK k) S neg (valV ds fs) (valX fs hx sg es) w.heap.size w) := by
  have hs : sortK k = 0 ∨ sortK k = 1 ∨ sortK k = 6 ∨ sortK k = 7 ∨ sortK k = 2 ∨ sortK k = 3 ∨ sortK k = 4 ∨ sortK k = 5 := by
    unfold sortK
    repeat' split
    all_goals simp
  by_cases hi : IntSort (sortK k)
  · by_cases h : S.toList ≠ [] ∧ numLen S = S.size
    · refine (rwhole_num k S (hN h.1 h.2) h.1 h.2 hsz hi w).mono ?_
      rintro e w' ⟨b, err, hs, rfl, hw⟩
      exact ⟨b, err, Or.inr (Or.inr ⟨hi, h.1, h.2, hs⟩), rfl, hw⟩
    · have h2 : S.toList = [] ∨ numLen S ≠ S.size := by
        by_cases h1 : S.toList = []
        · exact Or.inl h1
        · exact Or.inr fun h3 => h ⟨h1, h3⟩
      refine (rwhole_bad k S hsz hi h2 w).mono ?_
      rintro e w' ⟨rfl, rfl⟩
      exact ⟨0, 30, Or.inr (Or.inl ⟨hi, h2, rfl, rfl⟩), rfl, Below.refl _ _⟩
  · refine rwhole_read k S _ rfl (by unfold IntSort at hi; omega) w _ (Lib.hid ((rread_walk k S hsz hN w).mono ?_))
    rintro e w' ⟨b, err, hs, rfl, hw⟩
    exact ⟨b, err, rfl, b, err, Or.inl ⟨hi, hs⟩, rfl, hw⟩
end Go.Proofs.YtnpinogjajhlhaaGreatDoor.Fl
end
section
/- NumsReads, walked: it answers true at every kind and text. -/
namespace Go.Proofs.YtnpinogjajhlhaaGreatDoor.Fl
open Go.RowKit Go.Lib

theorem shape_any (S : ByteArray) : ∃ neg ds pt fs hx c sg es, S.toList ≠ [] → numLen S = S.size → NumL S.data.toList neg ds pt fs hx c sg es := by
  by_cases h : numLen S = S.size
  · by_cases h0 : 0 < S.size
    · obtain ⟨neg, ds, pt, fs, hx, c, sg, es, h⟩ := shape_of h h0
      exact ⟨neg, ds, pt, fs, hx, c, sg, es, fun _ _ => h⟩
    · exact ⟨false, [], false, [], false, 0, [], [], fun h1 _ => absurd (by
        obtain ⟨d⟩ := S
        have : d.size = 0 := by
          have e : (ByteArray.mk d).size = d.size := rfl
          omega
        rw [Array.size_eq_zero_iff] at this
        subst this
        decide +kernel) h1⟩
  · exact ⟨false, [], false, [], false, 0, [], [], fun _ h1 => absurd h1 h⟩

set_option maxHeartbeats 1000000 in
set_option maxRecDepth 100000 in
theorem reads_walk (k : Int) (S : ByteArray) (B : Nat) (w : World) (hB : B ≤ w.heap.size) (hF : FlAt w B) :
    Calls Tryz.prog 3 #[.int .u8 k, .string S] w (fun e w' => e = .returned (.bool true) ∧ Below B w w') := by
  have HF := Lib.hid hF
  clear hF
  by_cases hsz : (67108864 : Int) < S.size
  · go_enter Tryz.func3, Tryz.ntmps3
    go_wp2_with fail
    refine (works_walk B w hB HF.out).mono ?_
    rintro e w1 ⟨rfl, hb⟩
    go_wp2_with fail
    go_ret
    exact ⟨rfl, hb⟩
  · obtain ⟨neg, ds, pt, fs, hx, c, sg, es, hN⟩ := shape_any S
    have hsz2 : S.size ≤ 67108864 := by omega
    have HN := Lib.hid hN
    clear hN
    go_enter Tryz.func3, Tryz.ntmps3
    go_wp2_with fail
    refine (works_walk B w hB HF.out).mono ?_
    rintro e w1 ⟨rfl, hb⟩
    have H1 : Hid (Below B w w1 ∧ B ≤ w1.heap.size) := ⟨hb, Nat.le_trans hB hb.size⟩
    clear hb
    go_wp2_with fail
    refine (nread_walk k S hsz2 HN.out w1 B H1.out.2 (HF.out.below H1.out.1)).mono ?_
    rintro e w2 ⟨b1, e1, hs1, rfl, hb⟩
    have HS1 := Lib.hid hs1
    have H2 : Hid (Below B w w2 ∧ B ≤ w2.heap.size) := ⟨H1.out.1.trans hb, Nat.le_trans H1.out.2 hb.size⟩
    clear hb H1 hs1
    go_wp2_with fail
    refine (nwhole_walk k S hsz2 HN.out w2 B H2.out.2 (HF.out.below H2.out.1)).mono ?_
    rintro e w3 ⟨b2, e2, hs2, rfl, hb⟩
    have HS2 := Lib.hid hs2
    have H3 : Hid (Below B w w3 ∧ B ≤ w3.heap.size) := ⟨H2.out.1.trans hb, Nat.le_trans H2.out.2 hb.size⟩
    clear hb H2 hs2 HF
    go_wp2_with fail
    refine (pnum_walk S (by omega) w3).mono ?_
    rintro e w4 ⟨rfl, rfl⟩
    go_wp2_with fail
    refine (rread_walk k S hsz2 HN.out w4).mono ?_
    rintro e w5 ⟨b3, e3, hs3, rfl, hb⟩
    obtain ⟨rfl, rfl⟩ := HS1.out.unique hs3
    have H5 : Hid (Below B w w5 ∧ B ≤ w5.heap.size) := ⟨H3.out.1.trans (hb.mono H3.out.2), Nat.le_trans H3.out.2 hb.size⟩
    clear hb H3 hs3 HS1
    go_wp2_with fail
    refine (rwo_walk k S hsz2 HN.out w5).mono ?_
    rintro e w6 ⟨b4, e4, hs4, rfl, hb⟩
    obtain ⟨rfl, rfl⟩ := HS2.out.unique hs4
    have H6 : Hid (Below B w w6) := H5.out.1.trans (hb.mono H5.out.2)
    clear hb H5 hs4 HS2 HN
    go_wp2_with (first | (go_at_call 10; refine (rnum_walk S (by omega) _).mono ?_; rintro e w7 ⟨rfl, rfl⟩))
    go_ret
    exact ⟨rfl, H6.out⟩
end Go.Proofs.YtnpinogjajhlhaaGreatDoor.Fl
end
