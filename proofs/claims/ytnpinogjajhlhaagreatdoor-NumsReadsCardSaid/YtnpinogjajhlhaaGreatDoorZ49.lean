/- A part of the proof that lexiconlaw03.NumsReads answers true at every kind and every text: RfFl32, RfForm232. No condition. -/
import Derived.Test.YtnpinogjajhlhaaGreatDoorZ48
import Derived.Test.YtnpinogjajhlhaaGreatDoorZ45
import Derived.Test.YtnpinogjajhlhaaGreatDoorZ43
import Derived.Deep.RegionHeld3
section
/- The reference's floats, walked at one format. -/
namespace Go.Proofs.YtnpinogjajhlhaaGreatDoor.Fl
open Go.RowKit Ieee

theorem held32 {wz w1 w' : World} {b : Nat} (h : w1.cell? ⟨b, 0, none⟩ = some (.int .i64 24) ∧ w1.cell? ⟨b, 1, none⟩ = some (.int .i64 (-149)) ∧ w1.cell? ⟨b, 2, none⟩ = some (.int .i64 104) ∧ Below wz.heap.size wz w1) (hb : Below w1.heap.size w1 w') :
    w'.cell? ⟨b, 0, none⟩ = some (.int .i64 24) ∧ w'.cell? ⟨b, 1, none⟩ = some (.int .i64 (-149)) ∧ w'.cell? ⟨b, 2, none⟩ = some (.int .i64 104) ∧ Below wz.heap.size wz w' := by
  have := (Box32.mk h.1 h.2.1 h.2.2.1).below hb
  exact ⟨this.c0, this.c1, this.c2, h.2.2.2.trans (hb.mono h.2.2.2.size)⟩

theorem wlen_tens32 (M : Nat) : ∀ k, wlen (M * 10 ^ k) ≤ wlen M + k
  | 0 => by rw [Nat.pow_zero, Nat.mul_one]; exact Nat.le_refl _
  | k + 1 => by
    have h1 := wlen_tens32 M k
    have h2 := wlen_times (N := M * 10 ^ k) (m := 10) (a := 0) (by decide) (by decide)
    rw [Nat.add_zero, Nat.mul_assoc, ← Nat.pow_succ] at h2
    show wlen (M * 10 ^ k.succ) ≤ wlen M + (k + 1)
    omega

def FsPost32 (neg : Bool) (D : List UInt8) (X : Int) (B : Nat) (w : World) (e : Ending) (w' : World) : Prop :=
  ∃ r, RN Ieee.single.binade (2 ^ (149 + 1)) (vn (nv D) X) (vd X) r ∧ ((Ieee.single.infRung ≤ r ∧ e = .returned (.tuple #[.int .u64 0, .bool false])) ∨ (r < Ieee.single.infRung ∧ e = .returned (.tuple #[.int .u64 (Ieee.single.word neg r : Nat), .bool true]))) ∧ Below B w w'

def Near232 (N D B : Nat) (w : World) (e : Ending) (w' : World) : Prop :=
  ∃ (b : Nat) (ok : Bool), e = .returned (.tuple #[.int .u64 b, .bool ok]) ∧ Hid (∃ r, RN Ieee.single.binade (2 ^ (149 + 1)) N D r ∧ ((Ieee.single.infRung ≤ r ∧ ok = false) ∨ (r < Ieee.single.infRung ∧ ok = true ∧ b = r))) ∧ Below B w w'

theorem near232_walk (u v : Value) (N D : Nat) (w : World) (hu : NatAt w u N) (hv : NatAt w v D) (hD : 0 < D) (hl : wlen N ≤ 100000) (hl2 : wlen D ≤ 100000) :
    Calls Tryz.prog 105 #[u, v, .agg #[.int .i64 24, .int .i64 (-149), .int .i64 104]] w (Near232 N D w.heap.size w) := by
  refine (near32_walk u v N D w hu hv hD hl hl2).mono ?_
  rintro e w' ⟨r, hr, h | h, hb⟩
  · obtain ⟨h1, x, rfl⟩ := h
    exact ⟨x, false, rfl, ⟨r, hr, Or.inl ⟨h1, rfl⟩⟩, hb⟩
  · obtain ⟨h1, rfl⟩ := h
    exact ⟨r, true, rfl, ⟨r, hr, Or.inr ⟨h1, rfl, rfl⟩⟩, hb⟩

theorem ten400_32 : 2 ^ 128 ≤ 10 ^ 399 := by decide +kernel
theorem ten400b_32 : 2 ^ (149 + 1) ≤ 10 ^ 400 := by decide +kernel

theorem word_sum32 (neg : Bool) (r : Nat) : Ieee.single.word neg r = (if neg = true then 2147483648 else 0) + r := by
  unfold Format.word
  rw [consts32.2.2]
  cases neg <;> simp

set_option maxHeartbeats 1000000 in
set_option maxRecDepth 100000 in
theorem floats32_walk (neg : Bool) (D : ByteArray) (X : Int) (w : World) (hd : FlD D.data.toList) (hb : D.size ≤ 134217728) (hX1 : -4000000000000 ≤ X) (hX2 : X ≤ 4000000000000) :
    Calls Tryz.prog 76 #[.agg #[.bool neg, .string D, .int .i64 X], .agg #[.int .i64 24, .int .i64 (-149), .int .i64 104]] w (FsPost32 neg D.data.toList X w.heap.size w) := by
  have HD := Lib.hid hd
  obtain ⟨B0, hB0⟩ : ∃ B0, w.heap.size = B0 := ⟨_, rfl⟩
  have HW0 : Hid (Box32 ((w.alloc (Obj.cells #[.bool neg, .string D, .int .i64 X] 52)).alloc (Obj.cells #[.int .i64 24, .int .i64 (-149), .int .i64 104] 102)) (B0 + 1) ∧
      ToldAt ((w.alloc (Obj.cells #[.bool neg, .string D, .int .i64 X] 52)).alloc (Obj.cells #[.int .i64 24, .int .i64 (-149), .int .i64 104] 102)) B0 neg D X ∧
      Below B0 w ((w.alloc (Obj.cells #[.bool neg, .string D, .int .i64 X] 52)).alloc (Obj.cells #[.int .i64 24, .int .i64 (-149), .int .i64 104] 102))) := by
    rw [← hB0]
    have h1 := box32_new (w.alloc (Obj.cells #[.bool neg, .string D, .int .i64 X] 52))
    rw [World.size_alloc] at h1
    exact ⟨h1, (told_new w neg D X).alloc _, ((Below.refl _ _).alloc (Nat.le_refl _) _).alloc (by simp) _⟩
  have HB0 := Lib.hid hB0
  clear hd
  go_enter Tryz.func76, Tryz.ntmps76
  go_upto_if 14 with (fail)
  generalize (w.alloc (Obj.cells #[.bool neg, .string D, .int .i64 X] 52)).alloc (Obj.cells #[.int .i64 24, .int .i64 (-149), .int .i64 104] 102) = w2 at *
  have d0 := HW0.out.1.c0
  have d1 := HW0.out.1.c1
  have d2 := HW0.out.1.c2
  have e1 := HW0.out.2.1.c1
  have e2 := HW0.out.2.1.c2
  go_cut [0, 6] (fun _ sv wd => (∃ sg : Nat, sv = .int .u64 sg ∧ Aside (sg = if neg = true then 2147483648 else 0)) ∧ wd = w2)
  case first =>
    cases hn : neg with
    | true =>
      have HE := Lib.hid hn
      clear hn
      go_wp2_with fail
      go_meet
      exact ⟨⟨2147483648, rfl, by rw [HE.out]; rfl⟩, rfl⟩
    | false =>
      have HE := Lib.hid hn
      clear hn
      go_wp2_with fail
      go_meet
      exact ⟨⟨0, rfl, by rw [HE.out]; rfl⟩, rfl⟩
  case rest =>
    obtain ⟨⟨sg, rfl, hS⟩, rfl⟩ := hcut
    have hDb : (D.size : Int) ≤ 134217728 := by omega
    by_cases h1 : 0 < D.size ∧ 400 < (D.size : Int) + X
    · obtain ⟨h1a, h1b⟩ := h1
      have h1c : (0 : Int) < (D.size : Int) := by omega
      have HH : Hid (∃ r, RN Ieee.single.binade (2 ^ (149 + 1)) (vn (nv D.data.toList) X) (vd X) r ∧ Ieee.single.infRung ≤ r) := by
        obtain ⟨r, hr⟩ := rn_ex fit32 (nv D.data.toList) X
        refine Lib.hid ⟨r, hr, ?_⟩
        have hD1 : D.data.toList ≠ [] := fun h => by have hs := size_list D; rw [h, List.length_nil] at hs; omega
        have hlo := (HD.out.2.resolve_left hD1).1
        have hx : ve D.data.toList.length (X + D.data.toList.length - 1) = X := by unfold ve; omega
        rw [← hx] at hr
        have hs := size_list D
        exact rd_big fit32 (k := 128) (T := 399) (by omega) hlo (by omega) ten400_32 inf32 hr
      clear h1a
      go_wp2_with fail
      go_ret2
      obtain ⟨r, hr1, hr2⟩ := HH.out
      exact ⟨r, hr1, Or.inl ⟨hr2, rfl⟩, by first | exact HW0.out.2.2 | (rw [HB0.out]; exact HW0.out.2.2)⟩
    · by_cases h2 : D.size = 0
      · have hz : ((D.size : Int) == 0) = true := by rw [h2]; rfl
        have hz2 : ¬ (0 : Int) < (D.size : Int) := by omega
        have HH : Hid (RN Ieee.single.binade (2 ^ (149 + 1)) (vn (nv D.data.toList) X) (vd X) 0) := by
          have hD1 : D.data.toList = [] := List.eq_nil_of_length_eq_zero (by rw [← size_list]; exact h2)
          refine Lib.hid (rn_nought _ _ (by rw [hD1]; rfl) (binade_pos _))
        clear h1 h2
        go_wp2_with fail
        all_goals
          go_ret2
          exact ⟨0, HH.out, Or.inr ⟨by rw [consts32.2.1]; decide, ret_ub _ (by rw [word_sum32, hS.out]; rfl)⟩, by first | exact HW0.out.2.2 | (rw [HB0.out]; exact HW0.out.2.2)⟩
      · have hz := beq_nat0 h2
        by_cases h3 : (D.size : Int) + X < -400
        · have h4 : ¬ (400 : Int) < (D.size : Int) + X := by omega
          have HH : Hid (RN Ieee.single.binade (2 ^ (149 + 1)) (vn (nv D.data.toList) X) (vd X) 0) := by
            have hx : ve D.data.toList.length (X + D.data.toList.length - 1) = X := by unfold ve; omega
            have hs := size_list D
            have := rd_tiny (B := Ieee.single.binade) (S := 2 ^ (149 + 1)) (T := 400) (V := nv D.data.toList) (n := D.data.toList.length) (x := X + D.data.toList.length - 1) (binade_pos _) (nv_lt HD.out.1) (by omega) ten400b_32
            rw [hx] at this
            exact this
          clear h1 h2
          go_wp2_with fail
          go_ret2
          exact ⟨0, HH.out, Or.inr ⟨by rw [consts32.2.1]; decide, ret_ub _ (by rw [word_sum32, hS.out]; rfl)⟩, by first | exact HW0.out.2.2 | (rw [HB0.out]; exact HW0.out.2.2)⟩
        · have h4 : ¬ (400 : Int) < (D.size : Int) + X := by omega
          have h4b : (D.size : Int) + X ≤ 400 := by omega
          have h3b : -400 ≤ (D.size : Int) + X := by omega
          have hD1 : D.data.toList ≠ [] := fun h => by have hs := size_list D; rw [h, List.length_nil] at hs; omega
          have HDD := Lib.hid (HD.out.2.resolve_left hD1)
          clear h1 h2 hD1 h3
          go_upto_if 45 with (fail)
          go_cut [7, 8] (fun dv xv wd => (∃ (D2 : ByteArray) (Y : Int), dv = .string D2 ∧ xv = .int .i64 Y ∧ Aside (allD D2.data.toList ∧ D2.size ≤ 901 ∧ -2000 ≤ Y ∧ Y ≤ 2000 ∧
              (∀ r, RN Ieee.single.binade (2 ^ (149 + 1)) (vn (nv D2.data.toList) Y) (vd Y) r → RN Ieee.single.binade (2 ^ (149 + 1)) (vn (nv D.data.toList) X) (vd X) r))) ∧ wd = wc)
          case first =>
            by_cases h9 : 900 < D.size
            · have h9b : (900 : Int) < (D.size : Int) := by omega
              have he : (D.extract 0 900).data.toList = D.data.toList.take 900 := by rw [ext_list]; rfl
              have hes : (D.extract 0 900).size = 900 := by rw [ByteArray.size_extract]; omega
              obtain ⟨E, hE⟩ : ∃ E, D.extract 0 900 = E := ⟨_, rfl⟩
              rw [hE] at he hes
              have hsl : ∀ wx : World, (Instr.slice 9 (.string D) none (some (.int .i64 900)) none).run Tryz.prog wx = .ok (.string E) wx := fun wx => by
                rw [run_slice_string_h (w := wx) (s := D) (t := 9) Tryz.underlying9 .i64 900 (by omega) (by omega), ← hE]; rfl
              have hcc : ¬ 9223372036854775807 < E.size + 1 := by omega
              have HE := Lib.hid (And.intro he hes)
              have H9 := Lib.hid h9
              clear he hes hE h9
              go_wp2_with fail
              go_meet
              refine ⟨⟨_, _, rfl, rfl, ?_⟩, rfl⟩
              have hl : (E ++ ⟨#[49]⟩ : ByteArray).data.toList = D.data.toList.take 900 ++ [49] := by rw [ByteArray.data_append, Array.toList_append, HE.out.1]
              have hs := size_list D
              refine ⟨?_, ?_, ?_, ?_, fun r hr => ?_⟩
              · rw [hl]; intro x hx
                rcases List.mem_append.1 hx with h | h
                · exact HD.out.1 x (List.mem_of_mem_take h)
                · have : x = 49 := by simpa using h
                  rw [this]; decide
              · rw [ByteArray.size_append, HE.out.2]; exact Nat.le_refl _
              · omega
              · omega
              · have h9 := H9.out
                have hb : Ieee.single.binade = 2 ^ (24 - 1) := by rw [consts32.1]
                rw [hb] at hr ⊢
                exact cut_digits (P := 24) (Lo := 149) (c := 899) (x' := X + (D.size : Int) - 901) (by decide) (by decide) (by decide) rfl HD.out.1 HDD.out.1 HDD.out.2.1 (by omega) (by omega) (by omega) hl hr
            · have h9b : ¬ (900 : Int) < (D.size : Int) := by omega
              have H9 := Lib.hid h9
              clear h9
              go_wp2_with fail
              go_meet
              have h9 := H9.out
              exact ⟨⟨D, X, rfl, rfl, ⟨HD.out.1, by omega, by omega, by omega, fun r hr => hr⟩⟩, rfl⟩
          case rest =>
            obtain ⟨⟨D2, Y, rfl, rfl, hY⟩, rfl⟩ := hcut
            have hD2b := hY.out.2.1
            have hD2i : (D2.size : Int) ≤ 901 := by omega
            go_wp2_with fail
            go_loopg [9, 10] (D2.size) (fun mm nv' iv wr => ∃ j : Nat, iv = .int .i64 j ∧ Aside (mm = D2.size - j ∧ j ≤ D2.size ∧ NatAt wr nv' (pv D2 j) ∧ wlen (pv D2 j) ≤ j ∧ Below wc.heap.size wc wr))
            case atStart => exact ⟨0, rfl, ⟨rfl, Nat.zero_le _, NatAt.nil _, Nat.le_of_eq (by rw [show pv D2 0 = 0 from rfl]; rfl), Below.refl _ _⟩⟩
            case round =>
              obtain ⟨j, rfl, hA⟩ := hrel
              have hj := hA.out.2.1
              by_cases hl : j < D2.size
              · have hlI : (j : Int) < D2.size := by omega
                have hdj : 48 ≤ bt D2 j ∧ bt D2 j ≤ 57 := by obtain ⟨x, h1, h2⟩ := list_at hl; rw [← h2]; exact hY.out.1 x (List.mem_of_getElem? h1)
                obtain ⟨cc, hcc⟩ : ∃ cc : Nat, bt D2 j = 48 + cc := ⟨bt D2 j - 48, by omega⟩
                have hc : (D2[j].toNat : Int) = 48 + (cc : Int) := by rw [bt_int hl, hcc]; omega
                have hc9 : (cc : Int) ≤ 9 := by omega
                have HC : Hid (pv D2 (j + 1) = pv D2 j * 10 + cc ∧ cc ≤ 9) := Lib.hid ⟨by rw [pv_step hl, hcc]; omega, by omega⟩
                have hcs : (48 : Int) + (cc : Int) - 48 = (cc : Int) := by omega
                clear hdj hcc
                go_wp2_with fail
                refine (rtimes_walk _ (pv D2 j) 10 cc _ hA.out.2.2.1 (by decide) (by have := HC.out.2; omega) (by have := hA.out.2.2.2.1; omega)).mono ?_
                rintro e w' ⟨v2, rfl, hv2, hb2⟩
                have HV2 := Lib.hid (And.intro hv2 hb2)
                clear hv2 hb2
                go_wp2_with fail
                go_roundg (D2.size - (j + 1))
                case measure => have := hA.out.1; omega
                case rel =>
                  have h1 := HV2.out.1
                  have h2 := wlen_times (N := pv D2 j) (m := 10) (a := cc) (by decide) (by have := HC.out.2; omega)
                  rw [← HC.out.1] at h1 h2
                  have h3 := hA.out.2.2.2.1
                  exact ⟨j + 1, by go_num, ⟨rfl, by omega, h1, by omega, hA.out.2.2.2.2.trans (HV2.out.2.mono hA.out.2.2.2.2.size)⟩⟩
              · have hlI : ¬ (j : Int) < D2.size := by omega
                obtain ⟨p, hp⟩ : ∃ p : Nat, max Y 0 = (p : Int) := ⟨Y.toNat, by omega⟩
                obtain ⟨q, hq⟩ : ∃ q : Nat, max (-Y) 0 = (q : Int) := ⟨(-Y).toNat, by omega⟩
                have hY1 := hY.out.2.2.1
                have hY2 := hY.out.2.2.2.1
                have hqw : max (IntKind.i64.wrap (-Y)) 0 = (q : Int) := by rw [IntWalk.i64_in _ ⟨by omega, by omega⟩]; exact hq
                have hN : pv D2 j = nv D2.data.toList := pv_end hl
                have hwl : wlen (pv D2 j) ≤ 901 := by have := hA.out.2.2.2.1; omega
                rw [hN] at hwl
                have hvn : nv D2.data.toList * 10 ^ p = vn (nv D2.data.toList) Y := by unfold vn; congr 2; omega
                have hvd : 1 * 10 ^ q = vd Y := by unfold vd; rw [Nat.one_mul]; congr 1; omega
                have HV := Lib.hid (And.intro hvn (And.intro hvd hwl))
                have hna := hA.out.2.2.1
                rw [hN] at hna
                have HNA := Lib.hid hna
                have hbx := (HW0.out.1.below hA.out.2.2.2.2)
                have hS0 : wr.drew.cell? ⟨B0 + 1, 0, none⟩ = some (.int .i64 24) ∧ wr.drew.cell? ⟨B0 + 1, 1, none⟩ = some (.int .i64 (-149)) ∧ wr.drew.cell? ⟨B0 + 1, 2, none⟩ = some (.int .i64 104) ∧ Below wr.heap.size wr wr.drew :=
                  ⟨hbx.c0, hbx.c1, hbx.c2, (Below.refl _ _).drew⟩
                have HS0 := Lib.hid hS0
                have hw1 : wlen 1 = 1 := by decide
                have HL1 : Hid (wlen (nv D2.data.toList) + p ≤ 1000000 ∧ wlen 1 + q ≤ 1000000) := ⟨by omega, by omega⟩
                have HPW : Hid (wlen (nv D2.data.toList * 10 ^ p) ≤ 100000 ∧ wlen (1 * 10 ^ q) ≤ 100000) := ⟨by have := wlen_tens32 (nv D2.data.toList) p; omega, by have := wlen_tens32 1 q; omega⟩
                have hp2 : (p : Int) ≤ 2000 := by omega
                have hq2 : (q : Int) ≤ 2000 := by omega
                clear hN hwl hvn hvd hna hbx hS0 hw1
                go_upto_region 20 with (fail)
                go_cut [11, 12] (fun bv ov wd => (∃ (b : Nat) (ok : Bool), bv = .int .u64 b ∧ ov = .bool ok ∧ Aside (∃ r, RN Ieee.single.binade (2 ^ (149 + 1)) (vn (nv D2.data.toList) Y) (vd Y) r ∧ ((Ieee.single.infRung ≤ r ∧ ok = false) ∨ (r < Ieee.single.infRung ∧ ok = true ∧ b = r)))) ∧ Aside (Below B0 w wd))
                case first =>
                  go_region_held3 (fun w' => w'.cell? ⟨B0 + 1, 0, none⟩ = some (.int .i64 24) ∧ w'.cell? ⟨B0 + 1, 1, none⟩ = some (.int .i64 (-149)) ∧ w'.cell? ⟨B0 + 1, 2, none⟩ = some (.int .i64 104) ∧ Below wr.heap.size wr w') ((first | exact HS0.out | exact hSA | exact hSB | exact hSC | exact hSN))
                    (first
                      | (go_at_call_of 106 p; refine (rtens_walk _ (nv D2.data.toList) p _ (HNA.out.below (by first | exact HS0.out.2.2.2 | exact hSB.2.2.2 | exact hSC.2.2.2)) HL1.out.1).mono ?_; rintro e wA ⟨v1, rfl, hv1, hbA⟩; have hSA := held32 (by first | exact HS0.out | exact hSB | exact hSC) hbA)
                      | (go_at_call 107; refine (rone_walk _).mono ?_; rintro e wB ⟨v2, rfl, hv2, hbB⟩; have hSB := held32 (by first | exact HS0.out | exact hSA) hbB)
                      | (go_at_call_of 106 q; refine (rtens_walk _ 1 q _ (by first | exact hv2 | exact hv2.below hbA) HL1.out.2).mono ?_; rintro e wC ⟨v3, rfl, hv3, hbC⟩; have hSC := held32 (by first | exact hSB | exact hSA) hbC)
                      | (go_at_call 105; refine (near232_walk _ _ (nv D2.data.toList * 10 ^ p) (1 * 10 ^ q) _ (by first | exact hv1 | exact hv1.below hbC | exact (hv1.below hbB).below hbC) (by first | exact hv3 | exact hv3.below hbA) (by rw [HV.out.2.1]; exact vd_pos _) HPW.out.1 HPW.out.2).mono ?_; rintro e wN ⟨b, ok, rfl, hH, hbN⟩; have hSN := held32 (by first | exact hSC | exact hSA) hbN))
                  all_goals
                    have HZ : Hid ((∃ r, RN Ieee.single.binade (2 ^ (149 + 1)) (vn (nv D2.data.toList) Y) (vd Y) r ∧ ((Ieee.single.infRung ≤ r ∧ ok = false) ∨ (r < Ieee.single.infRung ∧ ok = true ∧ b = r))) ∧ Below B0 w wN) := by
                      refine ⟨?_, ?_⟩
                      · have := hH.out
                        rw [HV.out.1, HV.out.2.1] at this
                        exact this
                      · have h1 := HW0.out.2.2.trans (hA.out.2.2.2.2.mono (Nat.le_trans (by rw [← HB0.out]; exact Nat.le_refl _) HW0.out.2.2.size))
                        exact h1.trans (hSN.2.2.2.mono (Nat.le_trans (by rw [← HB0.out]; exact Nat.le_refl _) h1.size))
                    clear hH hSN
                    go_wp2_with fail
                    go_meet
                    exact ⟨⟨b, ok, rfl, rfl, HZ.out.1⟩, HZ.out.2⟩
                case rest =>
                  obtain ⟨⟨b, ok, rfl, rfl, hR⟩, hBe⟩ := hcut
                  cases ok with
                  | false =>
                    go_wp2_with fail
                    go_ret2
                    obtain ⟨r, hr1, hr2⟩ := hR.out
                    rcases hr2 with ⟨h1, -⟩ | ⟨-, h2, -⟩
                    · exact ⟨r, hY.out.2.2.2.2 r hr1, Or.inl ⟨h1, rfl⟩, by first | exact hBe.out | (rw [HB0.out]; exact hBe.out)⟩
                    · cases h2
                  | true =>
                    have hb3 : ∃ r, RN Ieee.single.binade (2 ^ (149 + 1)) (vn (nv D2.data.toList) Y) (vd Y) r ∧ r < Ieee.single.infRung ∧ b = r := by
                      obtain ⟨r, hr1, hr2⟩ := hR.out
                      rcases hr2 with ⟨-, h2⟩ | ⟨h1, -, h3⟩
                      · cases h2
                      · exact ⟨r, hr1, h1, h3⟩
                    have hsum : (sg : Int) + (b : Int) ≤ 18446744073709551615 := by
                      obtain ⟨r, -, h1, h3⟩ := hb3
                      rw [consts32.2.1] at h1
                      have := hS.out
                      cases neg <;> simp at this <;> omega
                    have HB3 := Lib.hid hb3
                    clear hb3
                    go_wp2_with fail
                    go_ret2
                    obtain ⟨r, hr1, h1, h3⟩ := HB3.out
                    exact ⟨r, hY.out.2.2.2.2 r hr1, Or.inr ⟨h1, ret_ub _ (by rw [word_sum32, ← h3, ← hS.out]; omega)⟩, by first | exact hBe.out | (rw [HB0.out]; exact hBe.out)⟩
end Go.Proofs.YtnpinogjajhlhaaGreatDoor.Fl
end
section
/- The reference's form, walked at one width. -/
namespace Go.Proofs.YtnpinogjajhlhaaGreatDoor.Fl
open Go.RowKit

theorem alloc32_cells {w w1 : World} {cs : Array Value} {T : TypeId} (hb : Below (w.alloc (.cells cs T)).heap.size (w.alloc (.cells cs T)) w1) :
    (∀ j v, cs[j]? = some v → w1.cell? ⟨w.heap.size, j, none⟩ = some v) ∧ (∀ j, w1.frozen? ⟨w.heap.size, j, none⟩ = false) :=
  ⟨fun j v h => by rw [hb.cell (p := ⟨w.heap.size, j, none⟩) (by simp), World.cell?_alloc_at _ _ _ _ rfl]; exact h,
   fun j => by rw [hb.frozen (p := ⟨w.heap.size, j, none⟩) (by simp), World.frozen?_alloc_at _ _ _ _ rfl]⟩

set_option maxRecDepth 100000 in
theorem form32_walk (k : Int) (hk : k = 2) (w : World) : Calls Tryz.prog 74 #[.int .u8 k] w (fun e w' => e = .returned slimV ∧ Below w.heap.size w w') := by
  go_enter Tryz.func74, Tryz.ntmps74
  go_wp2_with fail
  refine (slim_walk _).mono ?_
  unfold slimV
  rintro e w1 ⟨rfl, hb⟩
  obtain ⟨hc, hf⟩ := alloc32_cells hb
  have HC := Lib.hid hc
  have c0 := hc 0 _ rfl
  have c1 := hc 1 _ rfl
  have c2 := hc 2 _ rfl
  have f0 := hf 0
  have f1 := hf 1
  have f2 := hf 2
  have HB := Lib.hid (((Below.refl w.heap.size w).alloc (Nat.le_refl _) _).trans (hb.mono (by simp)))
  clear hc hf hb
  go_wp2_with fail
  refine bodyPost_ret (v := slimV) ?_ rfl ⟨rfl, ((HB.out.setCell (Nat.le_refl _) _).setCell (Nat.le_refl _) _).setCell (Nat.le_refl _) _⟩
  simp [results, Tryz.f74, slimV, asAddr, loadVar]
  obtain ⟨W3, hW3⟩ : ∃ W3, (((w1.setCell ⟨w.heap.size, 0, none⟩ (.int .i64 24)).setCell ⟨w.heap.size, 1, none⟩ (.int .i64 (-149))).setCell ⟨w.heap.size, 2, none⟩ (.int .i64 104)) = W3 := ⟨_, rfl⟩
  have d0 : W3.cell? ⟨w.heap.size, 0, none⟩ = some (.int .i64 24) := by rw [← hW3]; exact cell_other (cell_other (World.cell?_setCell_same _ _ _ (HC.out 0 _ rfl)) (by omega)) (by omega)
  have d1 : W3.cell? ⟨w.heap.size, 1, none⟩ = some (.int .i64 (-149)) := by rw [← hW3]; exact cell_other (World.cell?_setCell_same _ _ _ (cell_other (HC.out 1 _ rfl) (by omega))) (by omega)
  have d2 : W3.cell? ⟨w.heap.size, 2, none⟩ = some (.int .i64 104) := by rw [← hW3]; exact World.cell?_setCell_same _ _ _ (cell_other (cell_other (HC.out 2 _ rfl) (by omega)) (by omega))
  rw [hW3]
  have h := run_loadCells_list (P := Tryz.prog) W3 ⟨w.heap.size, 0, none⟩ [.int .i64 24, .int .i64 (-149), .int .i64 104] (fun k v hk => by
    rw [Addr.add_lit, Nat.zero_add]
    match k, hk with
    | 0, hk => injection hk with hk; rw [← hk]; exact d0
    | 1, hk => injection hk with hk; rw [← hk]; exact d1
    | 2, hk => injection hk with hk; rw [← hk]; exact d2
    | k + 3, hk => exact absurd hk (by simp))
  rw [show loadCells ⟨w.heap.size, 0, none⟩ 3 = loadCells ⟨w.heap.size, 0, none⟩ ([.int .i64 24, .int .i64 (-149), .int .i64 104] : List Value).length from rfl, h]
  rfl
end Go.Proofs.YtnpinogjajhlhaaGreatDoor.Fl
end
