/- A part of the proof that lexiconlaw03.NumsReads answers true at every kind and every text: DwBits32. No condition. -/
import Derived.Test.YtnpinogjajhlhaaGreatDoorZ17
import Derived.Test.YtnpinogjajhlhaaGreatDoorZ06
import Derived.Deep.DeepCutAuto
import Derived.Deep.CutBlock
section
/- floatBits, walked, at the format of 32 bits. -/
namespace Go.Proofs.YtnpinogjajhlhaaGreatDoor.Fl
open Go.RowKit

theorem bit32 {q : Nat} (hq : q < 16777216) : bits .and .u64 (q : Int) 8388608 = if q < 8388608 then 0 else 8388608 := by
  have h := (bits_nat .u64 64 (by decide) (fun n h0 h1 => IntWalk.u64_in n ⟨h0, by omega⟩) q (2 ^ (24 - 1)) (by omega) (by decide)).1
  have e2 : q &&& 2 ^ (24 - 1) = q / 2 ^ (24 - 1) % 2 * 2 ^ (24 - 1) := by
    apply Nat.eq_of_testBit_eq
    intro j
    have e : q / 2 ^ (24 - 1) % 2 = q / 2 ^ (24 - 1) % 2 ^ 1 := by rw [Nat.pow_one]
    rw [Nat.testBit_and, Nat.testBit_two_pow, Nat.testBit_mul_two_pow, e, Nat.testBit_mod_two_pow, Nat.testBit_div_two_pow]
    by_cases h : 24 - 1 = j
    · subst h; simp
    · by_cases h2 : 24 - 1 ≤ j
      · have h3 : ¬ (j - (24 - 1) < 1) := by omega
        simp [h, h3]
      · simp [h, h2]
  rw [e2] at h
  rw [show ((8388608 : Int)) = ((2 ^ (24 - 1) : Nat) : Int) from rfl, h]
  split
  · rename_i hh
    have e : q / 2 ^ (24 - 1) = 0 := Nat.div_eq_of_lt hh
    rw [e]; try rfl
  · rename_i hh
    have e : q / 2 ^ (24 - 1) = 1 := by
      have h1 : 1 ≤ q / 2 ^ (24 - 1) := (Nat.le_div_iff_mul_le (by decide)).2 (by omega)
      have h2 : q / 2 ^ (24 - 1) < 2 := (Nat.div_lt_iff_lt_mul (by decide)).2 (by omega)
      omega
    rw [e]; try rfl

/-- The last place, at this format. -/
theorem last32 {K L xx : Nat} {J e : Int} (hL : 3000 ≤ L) (hS : Size K L xx J) (he : e = max (-J) (-127 + 1)) :
    ∃ q t : Nat, rhe xx (10 ^ K * 2 ^ ((L : Int) - (24 - 1 - e)).toNat) = q ∧ e = -126 + t ∧ RN Ieee.single.binade (2 ^ (149 + 1)) xx (10 ^ K * 2 ^ L) (t * 8388608 + q) ∧ q ≤ 16777216 ∧ (t = 0 ∨ 8388608 ≤ q) := by
  obtain ⟨h1, h2, h3⟩ := rn_last (P := 24) (Lo := 149) (by omega) (by omega) (by omega) hL hS (e := e) (by omega)
  refine ⟨_, (e - (((24 : Nat) : Int) - 1 - ((149 : Nat) : Int))).toNat, rfl, by omega, h1, h2, ?_⟩
  by_cases h : (e - (((24 : Nat) : Int) - 1 - ((149 : Nat) : Int))).toNat = 0
  · exact Or.inl h
  · exact Or.inr (h3 (by omega))

set_option maxHeartbeats 8000000 in
set_option maxRecDepth 100000 in
theorem fb32_walk (b gi K L xx : Nat) (dp : Int) (neg : Bool) (d0 V : Nat) (w : World) (h : StAt w b K L xx dp 0 neg d0 V) (B : Nat) (hB : B ≤ b) (hi : InfoAt w gi B 23 8 (-127)) (hch : CheatsAt w B) (hpt : PowtabAt w B)
    (hK : 2000 ≤ K) (hL : 3000 ≤ L) (hlow : ∀ J : Int, Size K L xx J → J ≤ 149 + 2) (hx : xx < 10 ^ (dp + K).toNat * 2 ^ L) (hdp1 : -1000000000000 ≤ dp) (hdp2 : dp ≤ 1000000000000) :
    Calls Tryz.prog 174 #[.pointer (some ⟨b, 0, none⟩), .pointer (some ⟨gi, 0, none⟩)] w (FbPost Ieee.single 149 K L xx neg B w) := by
  have A0 : Aside (StAt w b K L xx dp 0 neg d0 V) := h
  obtain ⟨a, g, nd, tr, hdec, hdig, hst, hg0, hV⟩ := h
  have c0 := hdec.nd
  have cp := hdec.dp
  have cn := hdec.neg
  have i0 := hi.2.1
  have i1 := hi.2.2.1
  have i2 := hi.2.2.2
  have t1 : ((nd : Int) == 0) = false := by rw [beq_eq_false_iff_ne]; have := hst.pos; omega
  have AS : Hid (DecAt w b a nd dp neg tr ∧ Dig a g nd ∧ St K L xx g nd dp 0 tr ∧ g 0 = d0 ∧ xx < 10 ^ (dp + K).toNat * 2 ^ L) := ⟨hdec, hdig, hst, hg0, hx⟩
  have AI : Hid (InfoAt w gi B 23 8 (-127) ∧ CheatsAt w B ∧ PowtabAt w B) := ⟨hi, hch, hpt⟩
  clear hdec hdig hst hg0 hV hx hi hch hpt
  by_cases hbig : 310 < dp
  · go_enter Tryz.func174, Tryz.ntmps174
    go_wp2_with fail
    refine wp_scope_ahead 0 1 rfl rfl ?_
    go_wp2_with fail
    go_step3
    refine Or.inr ⟨rfl, ?_⟩
    have hfin : ∀ n : Nat, FbPost Ieee.single 149 K L xx neg B w (.returned (.tuple #[.int .u64 (fbits32 0 255 neg), .bool true])) (w.drewN n) := fun n => by
      obtain ⟨r, hr⟩ := rn_exists (F := Ieee.single.fractionBits) (S := 2 ^ (149 + 1)) (n := xx) (d := 10 ^ K * 2 ^ L) (by decide) (Nat.mul_pos (Nat.pow_pos (by omega)) (Nat.two_pow_pos _))
      have hA := AS.out
      have hvb := (vv_bounds (K := K) (L := L) (sh := 0) (dp := dp) hA.2.2.1.g9 hA.2.2.1.g0 hA.2.2.1.pos (by have := hA.2.2.1.le; omega)).1
      have hle := Nat.le_trans hvb hA.2.2.1.inv.le
      rw [Int.sub_zero, Int.toNat_natCast] at hle
      have hinf := rn_large (k := 128) fit32 hr (beyond_310 hbig (by omega) hle) inf32
      exact ⟨r, hr, by rw [Nat.min_eq_right hinf, decide_eq_true hinf, fbits32_inf], belowN (Below.refl _ _) _⟩
    have HF := Lib.hid hfin
    clear hfin
    cases neg
    · go_wp2_with fail
      go_quiet (fail)
      go_wp2_with fail
      go_step3
      go_wp2_with fail
      go_quiet (fail)
      go_wp2_with fail
      rw [Exit.noGoto_ret]
      go_ret2
      first | exact HF.out _ | (rw [drewN_add]; exact HF.out _)
    · go_wp2_with fail
      go_quiet (fail)
      go_wp2_with fail
      go_step3
      go_wp2_with fail
      go_quiet (fail)
      go_wp2_with fail
      go_quiet (fail)
      go_wp2_with fail
      rw [Exit.noGoto_ret]
      go_ret2
      first | exact HF.out _ | (rw [drewN_add]; exact HF.out _)
  · by_cases hsmall : dp < -330
    · have hfin : ∀ n : Nat, FbPost Ieee.single 149 K L xx neg B w (.returned (.tuple #[.int .u64 (fbits32 0 0 neg), .bool false])) (w.drewN n) := fun n => by
        have hA := AS.out
        refine ⟨0, ?_, ?_, belowN (Below.refl _ _) _⟩
        · by_cases hdl : -2000 ≤ dp
          · exact rn_small (Lo := 149) (binade_pos _) (by omega) hK hsmall hdl hA.2.2.2.2
          · refine rn_small (Lo := 149) (dp := -2000) (binade_pos _) (by omega) hK (by omega) (by omega) (Nat.lt_of_lt_of_le hA.2.2.2.2 (Nat.mul_le_mul_right _ (Nat.pow_le_pow_right (by omega) (by omega))))
        · have := fbits32_rung (t := 0) (q := 0) (by omega) (by omega) (Or.inl rfl) neg
          rw [if_pos (by omega)] at this
          rw [Nat.zero_min, decide_eq_false (by rw [consts32.2.1]; omega)]
          have e : fbits32 0 0 neg = ((Ieee.single.word neg 0 : Nat) : Int) := by simpa using this
          rw [e]
      have HF := Lib.hid hfin
      clear hfin
      go_enter Tryz.func174, Tryz.ntmps174
      go_wp2_with fail
      refine wp_scope_ahead 0 1 rfl rfl ?_
      go_wp2_with fail
      go_step3
      refine Or.inl ⟨rfl, ?_⟩
      cases neg
      · go_wp2_with fail
        go_quiet (fail)
        go_wp2_with fail
        rw [Exit.noGoto_ret]
        go_ret2
        first | exact HF.out _ | (rw [drewN_add]; exact HF.out _)
      · go_wp2_with fail
        go_quiet (fail)
        go_wp2_with fail
        go_quiet (fail)
        go_wp2_with fail
        rw [Exit.noGoto_ret]
        go_ret2
        first | exact HF.out _ | (rw [drewN_add]; exact HF.out _)
    · go_enter Tryz.func174, Tryz.ntmps174
      go_wp2_with fail
      refine wp_scope_ahead 0 1 rfl rfl ?_
      have hsize : ∃ J, Size K L xx J ∧ -1040 ≤ J ∧ J ≤ 1101 := by
        have hA := AS.out
        have hvb := (vv_bounds (K := K) (L := L) (sh := 0) (dp := dp) hA.2.2.1.g9 hA.2.2.1.g0 hA.2.2.1.pos (by have := hA.2.2.1.le; omega)).1
        have hle := Nat.le_trans hvb hA.2.2.1.inv.le
        rw [Int.sub_zero, Int.toNat_natCast] at hle
        exact size_start hK hL (by omega) (by omega) hle hA.2.2.2.2
      obtain ⟨J, hJ1, hJ2, hJ3⟩ := hsize
      have hJ4 : J ≤ 149 + 2 := hlow J hJ1
      have HJ : Hid (Size K L xx J ∧ -1040 ≤ J ∧ J ≤ 1101 ∧ J ≤ 149 + 2) := ⟨hJ1, hJ2, hJ3, hJ4⟩
      clear hJ1 hJ2 hJ3 hJ4 hlow
      go_upto_block 0 with (fail)
      go_cut [6, 8] (fun e n8 wc => ∃ (x : Nat) (dp' : Int) (d0' V' : Nat), e = .int .i64 x ∧ Aside (StAt wc b K L xx dp' (-(x : Int)) neg d0' V' ∧ dp' ≤ 0 ∧ -330 ≤ dp' ∧ x ≤ 1100 ∧ (-60 ≤ dp' ∨ x = 0)) ∧ Below B w wc)
      case first =>
        go_wp2_with fail
        go_loopg [6, 8] 1100 (fun m e n8 wr => ∃ (x : Nat) (dp' : Int) (d0' V' : Nat), e = .int .i64 x ∧
          Aside (StAt wr b K L xx dp' (-(x : Int)) neg d0' V' ∧ dp' ≤ 310 ∧ -330 ≤ dp' ∧ (1 ≤ dp' ∨ x = 0 ∨ -60 ≤ dp') ∧ m = 1100 - x ∧ x ≤ 1100) ∧ Below B w wr)
        case atStart => exact ⟨0, dp, d0, V, rfl, ⟨by simpa using A0.out, by omega, by omega, by omega, rfl, by omega⟩, Below.refl _ _⟩
        case round =>
          obtain ⟨x, dp', d0', V', rfl, hA, hb⟩ := hrel
          obtain ⟨a', g', nd', tr', hdec, hdig, hst, _, _⟩ := hA.out.1
          have cp' := hdec.dp
          have hx8 : (x : Int) ≤ 1100 := by have := hA.out; omega
          by_cases hpos : 1 ≤ dp'
          · have hxJ := hst.ge_one HJ.out.1 hK hpos
            have hx2 : (x : Int) ≤ 1040 := by have := HJ.out; omega
            obtain ⟨p, rfl⟩ : ∃ p : Nat, dp' = p := ⟨dp'.toNat, by omega⟩
            obtain ⟨hg0, pb, po, hpb, hpg, hpc⟩ := AI.out.2.2.below hb
            have hp9 : (p : Int) ≤ 310 := by have := hA.out; omega
            have HST : Hid (StAt wr b K L xx (p : Int) (-(x : Int)) neg d0' V' ∧ gk = 1100 - x) := ⟨hA.out.1, hA.out.2.2.2.2.1⟩
            clear hdec hdig hst hxJ hA
            by_cases h9 : 9 ≤ p
            · have hS : ∀ m : Nat, Calls Tryz.prog 163 #[.pointer (some ⟨b, 0, none⟩), .int .i64 (-27)] (wr.drewN m) (ShPost b K L xx (p : Int) (-((x + 27 : Nat) : Int)) neg (-60) 0 (fun _ => True) B (wr.drewN m)) := fun m => by
                have e1 : -((x + 27 : Nat) : Int) = -(x : Int) - ((27 : Nat) : Int) := by omega
                rw [e1]
                exact shr_walk b K L xx (p : Int) (-(x : Int)) neg d0' V' 27 (wr.drewN m) (by omega) (by omega) (HST.out.1.drewN m) B hB hK hL (by omega) (by omega) (by omega)
              have HS := Lib.hid hS
              clear hS hpc
              go_wp2_with fail
              go_quiet (fail)
              go_wp2_with fail
              refine (HS.out _).mono ?_
              intro e w' hq
              have HQ := Lib.hid hq
              rw [HQ.out.1]
              clear hq
              go_wp2_with fail
              go_roundg (1100 - (x + 27))
              case measure => have := HST.out.2; omega
              case rel =>
                obtain ⟨_, dp2, d2, V2, q1, q2, q3, _, q4, _⟩ := HQ.out
                exact ⟨x + 27, dp2, d2, V2, congrArg (Value.int .i64) (by omega), ⟨q1, by omega, by omega, by omega, rfl, by omega⟩, (belowN hb _).trans q4⟩
            · have hpn := hpc p (by omega)
              obtain ⟨n, hn⟩ : ∃ n, n = ptab.getD p 0 := ⟨_, rfl⟩
              rw [← hn] at hpn
              have hn1 : 1 ≤ n ∧ n ≤ 27 := by
                have key : ∀ p : Nat, p < 9 → 1 ≤ ptab.getD p 0 ∧ ptab.getD p 0 ≤ 27 := by decide
                rw [hn]; exact key p (by omega)
              have hS : ∀ m : Nat, Calls Tryz.prog 163 #[.pointer (some ⟨b, 0, none⟩), .int .i64 (-(n : Int))] (wr.drewN m) (ShPost b K L xx (p : Int) (-((x + n : Nat) : Int)) neg (-60) 0 (fun _ => True) B (wr.drewN m)) := fun m => by
                have e1 : -((x + n : Nat) : Int) = -(x : Int) - (n : Int) := by omega
                rw [e1]
                exact shr_walk b K L xx (p : Int) (-(x : Int)) neg d0' V' n (wr.drewN m) (by omega) (by omega) (HST.out.1.drewN m) B hB hK hL (by omega) (by omega) (by omega)
              have HS := Lib.hid hS
              clear hS
              have hn27 : (n : Int) ≤ 27 := by omega
              have hn0 : 1 ≤ (n : Int) := by omega
              have HN := Lib.hid hn1
              clear hpc hn hn1
              go_wp2_with fail
              go_quiet (fail)
              go_wp2_with fail
              go_quiet (fail)
              go_wp2_with fail
              refine (HS.out _).mono ?_
              intro e w' hq
              have HQ := Lib.hid hq
              rw [HQ.out.1]
              clear hq
              go_wp2_with fail
              go_roundg (1100 - (x + n))
              case measure => have := HST.out.2; have := HN.out; omega
              case rel =>
                obtain ⟨_, dp2, d2, V2, q1, q2, q3, _, q4, _⟩ := HQ.out
                exact ⟨x + n, dp2, d2, V2, congrArg (Value.int .i64) (by omega), ⟨q1, by omega, by omega, by omega, rfl, by omega⟩, (belowN hb _).trans q4⟩
          · have hnp : ¬ 0 < dp' := by omega
            go_wp2_with fail
            go_meet
            have := hA.out
            exact ⟨x, dp', d0', V', rfl, ⟨this.1, by omega, by omega, by omega, by omega⟩, hb⟩
      case rest =>
        obtain ⟨x, dp1, d1, V1, rfl, hA1, hb1⟩ := hcut
        go_upto_block 2 with (fail)
        go_cut [6, 9] (fun e n8 wd => ∃ (E : Int) (d0' V' : Nat), e = .int .i64 E ∧ Aside (StAt wd b K L xx 0 (-E) neg d0' V' ∧ 5 ≤ d0' ∧ E ≤ 1100 ∧ -1100 ≤ E) ∧ Below B w wd)
        case first =>
          go_wp2_with fail
          go_loopg [6, 9] (2202 : Nat) (fun m e n8 wr => ∃ (E : Int) (dp' : Int) (d0' V' : Nat), e = .int .i64 E ∧
            Aside (StAt wr b K L xx dp' (-E) neg d0' V' ∧ dp' ≤ 0 ∧ -330 ≤ dp' ∧ (-60 ≤ dp' ∨ E ≤ 0) ∧ E + 1101 ≤ m ∧ E ≤ 1100 ∧ -1100 ≤ E) ∧ Below B w wr)
          case atStart => exact ⟨x, dp1, d1, V1, rfl, ⟨hA1.out.1, by have := hA1.out; omega, by have := hA1.out; omega, by have := hA1.out; omega, by have := hA1.out; omega, by have := hA1.out; omega, by omega⟩, hb1⟩
          case round =>
            obtain ⟨E, dp', d0', V', rfl, hA, hb⟩ := hrel
            obtain ⟨a', g', nd', tr', hdec, hdig, hst, hg0, _⟩ := hA.out.1
            have cp' := hdec.dp
            have cd' := hdec.dig 0 (by have := hst.pos; omega)
            have hd0 : a' 0 = 48 + (d0' : Int) := by rw [← hg0]; exact (hdig 0 hst.pos).1
            have hd9 : d0' ≤ 9 := by rw [← hg0]; exact (hdig 0 hst.pos).2
            rw [hd0] at cd'
            have HST : Hid (StAt wr b K L xx dp' (-E) neg d0' V' ∧ dp' ≤ 0 ∧ -330 ≤ dp' ∧ (-60 ≤ dp' ∨ E ≤ 0) ∧ E + 1101 ≤ gk ∧ E ≤ 1100 ∧ -1100 ≤ E) := hA.out
            have hch' : ∀ m : Nat, CheatsAt (wr.drewN m) B := fun m => AI.out.2.1.below (belowN hb m)
            obtain ⟨hgp, pb, po, hpb, hpg, hpc⟩ := AI.out.2.2.below hb
            have hE1 : E ≤ 1100 := HST.out.2.2.2.2.2.1
            have hE2 : -1100 ≤ E := HST.out.2.2.2.2.2.2
            obtain ⟨p, rfl⟩ : ∃ p : Nat, dp' = -(p : Int) := ⟨(-dp').toNat, by have := HST.out; omega⟩
            have hp3 : (p : Int) ≤ 330 := by have := HST.out; omega
            have hd9i : (d0' : Int) ≤ 9 := by omega
            clear hdec hdig hst hg0 hd0 hA hd9
            have hch := Lib.hid hch'
            clear hch'
            by_cases hp1 : 1 ≤ p
            · have t1 : -(p : Int) < 0 := by omega
              by_cases h9 : 9 ≤ p
              · have hR : room (-(p : Int)) d0' 27 := Or.inl ⟨t1, by
                  have : 10 ^ 9 ≤ 10 ^ (-(-(p : Int))).toNat := Nat.pow_le_pow_right (by omega) (by omega)
                  exact Nat.le_trans (by decide) this⟩
                have HR := Lib.hid hR
                clear hR hpc
                have hS : ∀ m : Nat, Calls Tryz.prog 163 #[.pointer (some ⟨b, 0, none⟩), .int .i64 27] (wr.drewN m) (ShPost b K L xx (-(p : Int)) (-(E - 27)) neg 0 20 (· ≤ V') B (wr.drewN m)) := fun m => by
                  have e1 : -(E - 27) = -E + ((27 : Nat) : Int) := by omega
                  have hh := HST.out
                  rw [e1]
                  exact shl_walk b K L xx (-(p : Int)) (-E) neg d0' V' 27 (wr.drewN m) (by omega) (by omega) (hh.1.drewN m) B hB (hch.out _) hK hL (by omega) (by omega) (by omega) (by omega)
                have HS := Lib.hid hS
                clear hS
                go_wp2_with fail
                go_quiet (fail)
                go_wp2_with fail
                refine (HS.out _).mono ?_
                intro e w' hq
                have HQ := Lib.hid hq
                rw [HQ.out.1]
                clear hq
                go_wp2_with fail
                have hfin : ∃ dp2 d2 V2, StAt w' b K L xx dp2 (-(E - 27)) neg d2 V2 ∧ dp2 ≤ 0 ∧ -330 ≤ dp2 ∧ (-60 ≤ dp2 ∨ E - 27 ≤ 0) ∧ Below B wr w' ∧ -1100 ≤ E - 27 := by
                  obtain ⟨_, dp2, d2, V2, q1, q2, q3, q5, q4, _⟩ := HQ.out
                  have hh := HST.out
                  have hz := fun wx dpx dx vx (hx : StAt wx b K L xx dpx (-(E - 27)) neg dx vx) h1 h2 => hx.lt_one HJ.out.1 hL hK h1 h2 (by have := HJ.out; omega) (by have := HJ.out; omega)
                  have e1 : -(E - 27) = -E + ((27 : Nat) : Int) := by omega
                  have hd2 : dp2 ≤ 0 := hh.1.still (n := 27) (by rw [← e1]; exact q1) q5 hL hK (by omega) (HR.out) (by omega) (by omega)
                  have := hz _ _ _ _ q1 hd2 (by omega)
                  exact ⟨dp2, d2, V2, q1, hd2, by omega, by omega, (belowN (Below.refl _ _) _).trans q4, by have := HJ.out; omega⟩
                have HF := Lib.hid hfin
                clear hfin
                go_roundg (E - 27 + 1101).toNat
                case measure => have := HST.out; have := HF.out; obtain ⟨_, _, _, _, _, _, _, _, h9⟩ := HF.out; omega
                case rel =>
                  obtain ⟨dp2, d2, V2, q1, q2, q3, q4, q5, q6⟩ := HF.out
                  have hh := HST.out
                  exact ⟨E - 27, dp2, d2, V2, by go_num, ⟨q1, q2, q3, q4, by omega, by omega, q6⟩, hb.trans q5⟩
              · have hpn := hpc p (by omega)
                obtain ⟨n, hn⟩ : ∃ n, n = ptab.getD p 0 := ⟨_, rfl⟩
                rw [← hn] at hpn
                have hn1 : 1 ≤ n ∧ n ≤ 27 ∧ 2 ^ n ≤ 10 ^ p := by
                  have key : ∀ p : Nat, p < 9 → 1 ≤ p → 1 ≤ ptab.getD p 0 ∧ ptab.getD p 0 ≤ 27 ∧ 2 ^ ptab.getD p 0 ≤ 10 ^ p := by decide
                  rw [hn]; exact key p (by omega) hp1
                have hR : room (-(p : Int)) d0' n := Or.inl ⟨t1, by
                  have e : (-(-(p : Int))).toNat = p := by omega
                  rw [e]; exact hn1.2.2⟩
                have HR := Lib.hid hR
                have hn27 : (n : Int) ≤ 27 := by omega
                have hn0 : 1 ≤ (n : Int) := by omega
                clear hpc hn hn1 hR
                have hS : ∀ m : Nat, Calls Tryz.prog 163 #[.pointer (some ⟨b, 0, none⟩), .int .i64 n] (wr.drewN m) (ShPost b K L xx (-(p : Int)) (-(E - n)) neg 0 20 (· ≤ V') B (wr.drewN m)) := fun m => by
                  have e1 : -(E - n) = -E + ((n : Nat) : Int) := by omega
                  have hh := HST.out
                  rw [e1]
                  exact shl_walk b K L xx (-(p : Int)) (-E) neg d0' V' n (wr.drewN m) (by omega) (by omega) (hh.1.drewN m) B hB (hch.out _) hK hL (by omega) (by omega) (by omega) (by omega)
                have HS := Lib.hid hS
                clear hS
                go_wp2_with fail
                go_quiet (fail)
                go_wp2_with fail
                go_quiet (fail)
                go_wp2_with fail
                refine (HS.out _).mono ?_
                intro e w' hq
                have HQ := Lib.hid hq
                rw [HQ.out.1]
                clear hq
                go_wp2_with fail
                have hfin : ∃ dp2 d2 V2, StAt w' b K L xx dp2 (-(E - n)) neg d2 V2 ∧ dp2 ≤ 0 ∧ -330 ≤ dp2 ∧ (-60 ≤ dp2 ∨ E - n ≤ 0) ∧ Below B wr w' ∧ -1100 ≤ E - n := by
                  obtain ⟨_, dp2, d2, V2, q1, q2, q3, q5, q4, _⟩ := HQ.out
                  have hh := HST.out
                  have hz := fun wx dpx dx vx (hx : StAt wx b K L xx dpx (-(E - n)) neg dx vx) h1 h2 => hx.lt_one HJ.out.1 hL hK h1 h2 (by have := HJ.out; omega) (by have := HJ.out; omega)
                  have e1 : -(E - n) = -E + ((n : Nat) : Int) := by omega
                  have hd2 : dp2 ≤ 0 := hh.1.still (n := n) (by rw [← e1]; exact q1) q5 hL hK (by omega) (HR.out) (by omega) (by omega)
                  have := hz _ _ _ _ q1 hd2 (by omega)
                  exact ⟨dp2, d2, V2, q1, hd2, by omega, by omega, (belowN (Below.refl _ _) _).trans q4, by have := HJ.out; omega⟩
                have HF := Lib.hid hfin
                clear hfin
                go_roundg (E - n + 1101).toNat
                case measure => have := HST.out; have := HF.out; obtain ⟨_, _, _, _, _, _, _, _, h9⟩ := HF.out; omega
                case rel =>
                  obtain ⟨dp2, d2, V2, q1, q2, q3, q4, q5, q6⟩ := HF.out
                  have hh := HST.out
                  exact ⟨E - n, dp2, d2, V2, by go_num, ⟨q1, q2, q3, q4, by omega, by omega, q6⟩, hb.trans q5⟩
            · have hp0 : p = 0 := by omega
              subst hp0
              by_cases h5 : d0' < 5
              · have hpn := hpc 0 (by omega)
                rw [Nat.add_zero] at hpn
                obtain ⟨n, hn⟩ : ∃ n, n = ptab.getD 0 0 := ⟨_, rfl⟩
                rw [← hn] at hpn
                have hn1 : n = 1 := hn
                have hR : room (0 : Int) d0' n := Or.inr ⟨rfl, h5, hn1⟩
                have HR := Lib.hid hR
                have hn27 : (n : Int) ≤ 27 := by omega
                have hn0 : 1 ≤ (n : Int) := by omega
                have hi5 : (48 + (d0' : Int)) < 53 := by omega
                clear hpc hn hn1 hR h5 t1
                have HST : Hid (StAt wr b K L xx 0 (-E) neg d0' V' ∧ (0 : Int) ≤ 0 ∧ -330 ≤ (0 : Int) ∧ (-60 ≤ (0 : Int) ∨ E ≤ 0) ∧ E + 1101 ≤ gk ∧ E ≤ 1100 ∧ -1100 ≤ E) := Lib.hid (by simpa using HST.out)
                have hS : ∀ m : Nat, Calls Tryz.prog 163 #[.pointer (some ⟨b, 0, none⟩), .int .i64 n] (wr.drewN m) (ShPost b K L xx (0 : Int) (-(E - n)) neg 0 20 (· ≤ V') B (wr.drewN m)) := fun m => by
                  have e1 : -(E - n) = -E + ((n : Nat) : Int) := by omega
                  have hh := HST.out
                  rw [e1]
                  exact shl_walk b K L xx (0 : Int) (-E) neg d0' V' n (wr.drewN m) (by omega) (by omega) (hh.1.drewN m) B hB (hch.out _) hK hL (by omega) (by omega) (by omega) (by omega)
                have HS := Lib.hid hS
                clear hS
                go_wp2_with fail
                go_quiet (fail)
                go_wp2_with fail
                go_quiet (fail)
                go_wp2_with fail
                refine (HS.out _).mono ?_
                intro e w' hq
                have HQ := Lib.hid hq
                rw [HQ.out.1]
                clear hq
                go_wp2_with fail
                have hfin : ∃ dp2 d2 V2, StAt w' b K L xx dp2 (-(E - n)) neg d2 V2 ∧ dp2 ≤ 0 ∧ -330 ≤ dp2 ∧ (-60 ≤ dp2 ∨ E - n ≤ 0) ∧ Below B wr w' ∧ -1100 ≤ E - n := by
                  obtain ⟨_, dp2, d2, V2, q1, q2, q3, q5, q4, _⟩ := HQ.out
                  have hh := HST.out
                  have hz := fun wx dpx dx vx (hx : StAt wx b K L xx dpx (-(E - n)) neg dx vx) h1 h2 => hx.lt_one HJ.out.1 hL hK h1 h2 (by have := HJ.out; omega) (by have := HJ.out; omega)
                  have e1 : -(E - n) = -E + ((n : Nat) : Int) := by omega
                  have hd2 : dp2 ≤ 0 := hh.1.still (n := n) (by rw [← e1]; exact q1) q5 hL hK (by omega) (HR.out) (by omega) (by omega)
                  have := hz _ _ _ _ q1 hd2 (by omega)
                  exact ⟨dp2, d2, V2, q1, hd2, by omega, by omega, (belowN (Below.refl _ _) _).trans q4, by have := HJ.out; omega⟩
                have HF := Lib.hid hfin
                clear hfin
                go_roundg (E - n + 1101).toNat
                case measure => have := HST.out; have := HF.out; obtain ⟨_, _, _, _, _, _, _, _, h9⟩ := HF.out; omega
                case rel =>
                  obtain ⟨dp2, d2, V2, q1, q2, q3, q4, q5, q6⟩ := HF.out
                  have hh := HST.out
                  exact ⟨E - n, dp2, d2, V2, by go_num, ⟨q1, q2, q3, q4, by omega, by omega, q6⟩, hb.trans q5⟩
              · have hi5 : ¬ (48 + (d0' : Int)) < 53 := by omega
                go_wp2_with fail
                go_meet
                exact ⟨E, d0', V', rfl, ⟨by simpa using HST.out.1, by omega, hE1, hE2⟩, hb⟩
        case rest =>
          obtain ⟨E, d0', V', rfl, hA2, hb2⟩ := hcut
          obtain ⟨e0, rfl⟩ : ∃ e0, E = e0 + 1 := ⟨E - 1, by omega⟩
          have hE2 : e0 ≤ 1099 ∧ -1101 ≤ e0 := by have := hA2.out; omega
          obtain ⟨hE3, hE4⟩ := hE2
          have hJe : e0 = -J := by
            obtain ⟨⟨a', g', nd', tr', _, _, hst, hg0, _⟩, h5, _⟩ := hA2.out
            have := hst.half HJ.out.1 hL hK (by omega) (by omega) (by have := HJ.out; omega) (by have := HJ.out; omega)
            omega
          have HJe := Lib.hid hJe
          clear hJe
          obtain ⟨hi1, hi2, hi3, hi4⟩ := AI.out.1.below hb2
          have AC2 : Hid (StAt wc b K L xx 0 (-(e0 + 1)) neg d0' V' ∧ e0 ≤ 1099 ∧ -1101 ≤ e0) := ⟨hA2.out.1, hE3, hE4⟩
          go_upto_if 111 with (fail)
          go_cut [6] (fun ev wd => ∃ (e dpz : Int) (d2 V2 : Nat), ev = .int .i64 e ∧ Aside (StAt wd b K L xx dpz (-(e + 1)) neg d2 V2 ∧ e = max (-J) (-127 + 1) ∧ -60 ≤ dpz ∧ dpz ≤ 0 ∧ e ≤ 1099) ∧ Below B w wd)
          case first =>
            by_cases hsub : e0 < -127 + 1
            · obtain ⟨n, hn⟩ : ∃ n : Nat, e0 = -127 + 1 - n := ⟨(-127 + 1 - e0).toNat, by omega⟩
              have hn1 : 1 ≤ n ∧ n ≤ 60 := by have := HJ.out; have := HJe.out; omega
              have hS := shr_walk b K L xx 0 (-(e0 + 1)) neg d0' V' n wc (by omega) (by omega) AC2.out.1 B hB hK hL (by omega) (by omega) (by omega)
              have HS := Lib.hid hS
              have HN := Lib.hid hn1
              have HE := Lib.hid hn
              have hn60 : (n : Int) ≤ 60 := by omega
              have hn0 : 1 ≤ (n : Int) := by omega
              subst hn
              clear hS hn1
              go_wp2_with fail
              have earg : -(-126 - (-126 - (n : Int))) = -(n : Int) := by omega
              rw [earg]
              refine HS.out.mono ?_
              intro e w' hq
              have HQ := Lib.hid hq
              rw [HQ.out.1]
              clear hq
              go_wp2_with fail
              go_meet
              obtain ⟨_, dp2, d2, V2, q1, q2, q3, q5, q4, _⟩ := HQ.out
              have es : -(-127 + 1 - (n : Int) + 1) - (n : Int) = -(-126 + 1) := by omega
              rw [es] at q1
              exact ⟨-126, dp2, d2, V2, congrArg (Value.int .i64) (by omega), ⟨q1, by have := HJe.out; omega, by omega, by omega, by omega⟩, hb2.trans q4⟩
            · go_wp2_with fail
              go_meet
              have := AC2.out
              exact ⟨e0, 0, d0', V', rfl, ⟨this.1, by have := HJe.out; omega, by omega, by omega, by omega⟩, hb2⟩
          case rest =>
            obtain ⟨e, dpz, d2, V2, rfl, hA3, hb3⟩ := hcut
            obtain ⟨hi1, hi2, hi3, hi4⟩ := AI.out.1.below hb3
            have he1 : e ≤ 1099 := hA3.out.2.2.2.2
            have he2 : -127 + 1 ≤ e := by have := hA3.out.2.1; omega
            obtain ⟨a', g', nd', tr', hdec, _, _, _, _⟩ := hA3.out.1
            have cn' := hdec.neg
            clear hdec
            by_cases hover : 255 ≤ e - -127
            · have hfin : ∀ n : Nat, FbPost Ieee.single 149 K L xx neg B w (.returned (.tuple #[.int .u64 (fbits32 0 255 neg), .bool true])) (wc.drewN n) := fun n => by
                obtain ⟨r, hr⟩ := rn_exists (F := Ieee.single.fractionBits) (S := 2 ^ (149 + 1)) (n := xx) (d := 10 ^ K * 2 ^ L) (by decide) (Nat.mul_pos (Nat.pow_pos (by omega)) (Nat.two_pow_pos _))
                have hbig : 10 ^ K * 2 ^ (L + 128) ≤ xx := Nat.le_trans (Nat.mul_le_mul_left _ (pow2_mono (by have := hA3.out.2.1; have := HJ.out.1.1; omega))) HJ.out.1.2.1
                have hinf := rn_large (k := 128) fit32 hr hbig inf32
                exact ⟨r, hr, by rw [Nat.min_eq_right hinf, decide_eq_true hinf, fbits32_inf], belowN hb3 _⟩
              have HF := Lib.hid hfin
              clear hfin
              go_wp2_with fail
              go_quiet (fail)
              go_wp2_with fail
              go_step3
              refine Or.inr ⟨rfl, ?_⟩
              cases neg
              · go_wp2_with fail
                go_quiet (fail)
                go_wp2_with fail
                go_step3
                go_wp2_with fail
                go_quiet (fail)
                go_wp2_with fail
                rw [Exit.noGoto_ret]
                go_ret2
                first | exact HF.out _ | (simp only [drewN_add]; exact HF.out _)
              · go_wp2_with fail
                go_quiet (fail)
                go_wp2_with fail
                go_step3
                go_wp2_with fail
                go_quiet (fail)
                go_wp2_with fail
                go_quiet (fail)
                go_wp2_with fail
                rw [Exit.noGoto_ret]
                go_ret2
                first | exact HF.out _ | (simp only [drewN_add]; exact HF.out _)
            · have hL3 := last32 hL HJ.out.1 hA3.out.2.1
              obtain ⟨q, t, hq1, rfl, hrn, hq2, hq3⟩ := hL3
              have ht : (t : Int) ≤ 255 - 2 := by omega
              have HR := Lib.hid hrn
              have HQ3 : Hid ((t = 0 ∨ 8388608 ≤ q) ∧ ¬ 255 ≤ -126 + (t : Int) - -127) := ⟨hq3, hover⟩
              have hq8 : (q : Int) ≤ 16777216 := by omega
              have hch := AI.out.2.1.below hb3
              have HS := Lib.hid (fun m : Nat => shl_walk b K L xx dpz (-(-126 + (t : Int) + 1)) neg d2 V2 24 (wc.drewN m) (by omega) (by omega) (hA3.out.1.drewN m) B hB (hch.below (belowN (Below.refl _ _) _)) hK hL (by have := hA3.out; omega) (by have := hA3.out; omega) (by omega) (by have := hA3.out; omega))
              have hov : ¬ 255 ≤ -126 + (t : Int) - -127 := hover
              clear hrn hq3 hch hover he1 he2 hq2
              go_wp2_with fail
              go_quiet (fail)
              go_wp2_with fail
              refine (HS.out _).mono ?_
              intro e w' hq
              have HQ := Lib.hid hq
              rw [HQ.out.1]
              clear hq
              obtain ⟨dp3, d3, V3, p1', p2, p3', p3'', p3, p1⟩ := HQ.out.2
              have es : -(-126 + (t : Int) + 1) + ((24 : Nat) : Int) = 24 - 1 - (-126 + (t : Int)) := by omega
              rw [es] at p1
              have HRI := Lib.hid (ri_walk p1 HJ.out.1 hL hK (by have := hA3.out; omega) (by have := hA3.out; omega) (by omega) (by omega))
              rw [hq1] at HRI
              obtain ⟨a3, g3, nd3, tr3, hdec3, _⟩ := p1
              have cn3 := hdec3.neg
              have hb4 := (belowN hb3 _).trans p3
              obtain ⟨hj1, hj2, hj3, hj4⟩ := AI.out.1.below hb4
              clear hdec3 p1' p2 p3 p3' p3'' hq1
              go_wp2_with fail
              refine HRI.out.mono ?_
              rintro e w'' ⟨rfl, rfl⟩
              by_cases hfull : q = 16777216
              · have HX := Lib.hid hfull
                subst hfull
                by_cases hof : 255 ≤ -126 + (t : Int) + 1 - -127
                · have hfin : ∀ n : Nat, FbPost Ieee.single 149 K L xx neg B w (.returned (.tuple #[.int .u64 (fbits32 0 255 neg), .bool true])) (w''.drewN n) := fun n => by
                    refine ⟨_, HR.out, ?_, belowN hb4 _⟩
                    have hinf : Ieee.single.infRung ≤ t * 8388608 + 16777216 := by rw [consts32.2.1]; omega
                    rw [Nat.min_eq_right hinf, decide_eq_true hinf, fbits32_inf]
                  have HF := Lib.hid hfin
                  clear hfin
                  go_wp2_with fail
                  go_quiet (fail)
                  go_wp2_with fail
                  go_step3
                  refine Or.inr ⟨rfl, ?_⟩
                  cases neg
                  · go_wp2_with fail
                    go_quiet (fail)
                    go_wp2_with fail
                    go_step3
                    go_wp2_with fail
                    go_quiet (fail)
                    go_wp2_with fail
                    rw [Exit.noGoto_ret]
                    go_ret2
                    first | exact HF.out _ | (simp only [drewN_add]; exact HF.out _)
                  · go_wp2_with fail
                    go_quiet (fail)
                    go_wp2_with fail
                    go_step3
                    go_wp2_with fail
                    go_quiet (fail)
                    go_wp2_with fail
                    go_quiet (fail)
                    go_wp2_with fail
                    rw [Exit.noGoto_ret]
                    go_ret2
                    first | exact HF.out _ | (simp only [drewN_add]; exact HF.out _)
                · have hfin : ∀ (n : Nat) (E : Int), E = (t : Int) + 2 → FbPost Ieee.single 149 K L xx neg B w (.returned (.tuple #[.int .u64 (fbits32 8388608 E neg), .bool false])) (w''.drewN n) := fun n E hE => by
                    refine ⟨_, HR.out, ?_, belowN hb4 _⟩
                    have hninf : ¬ Ieee.single.infRung ≤ t * 8388608 + 16777216 := by rw [consts32.2.1]; omega
                    rw [Nat.min_eq_left (by omega), decide_eq_false hninf]
                    have := fbits32_rung (t := t + 1) (q := 8388608) (by omega) (by omega) (Or.inr (Nat.le_refl _)) neg
                    rw [if_neg (by omega)] at this
                    have e1 : E = ((t + 1 + 1 : Nat) : Int) := by omega
                    have e2 : (t + 1) * 8388608 + 8388608 = t * 8388608 + 16777216 := by omega
                    rw [e2] at this
                    rw [e1]
                    exact congrArg (fun z => Ending.returned (.tuple #[.int .u64 z, .bool false])) this
                  have HF := Lib.hid hfin
                  clear hfin
                  have hbit : (bits .and .u64 8388608 8388608 == 0) = false := by
                    have := bit32 (q := 8388608) (by omega)
                    rw [if_neg (by omega)] at this
                    rw [beq_eq_false_iff_ne]
                    intro hc
                    rw [show ((8388608 : Nat) : Int) = 8388608 from rfl] at this
                    omega
                  go_wp2_with fail
                  go_quiet (fail)
                  go_wp2_with fail
                  go_step3
                  refine Or.inl ⟨rfl, ?_⟩
                  cases neg
                  · go_wp2_with fail
                    go_quiet (fail)
                    go_wp2_with fail
                    rw [Exit.noGoto_ret]
                    go_ret2
                    first | exact HF.out _ _ (by omega) | (simp only [drewN_add]; exact HF.out _ _ (by omega))
                  · go_wp2_with fail
                    go_quiet (fail)
                    go_wp2_with fail
                    go_quiet (fail)
                    go_wp2_with fail
                    rw [Exit.noGoto_ret]
                    go_ret2
                    first | exact HF.out _ _ (by omega) | (simp only [drewN_add]; exact HF.out _ _ (by omega))
              · have hfi : ((q : Int) == 16777216) = false := by rw [beq_eq_false_iff_ne]; omega
                by_cases hden : q < 8388608
                · have ht0 : t = 0 := by have := HQ3.out; omega
                  subst ht0
                  have hfin : ∀ (n : Nat) (E : Int), E = 0 → FbPost Ieee.single 149 K L xx neg B w (.returned (.tuple #[.int .u64 (fbits32 (q : Int) E neg), .bool false])) (w''.drewN n) := fun n E hE => by
                    refine ⟨_, HR.out, ?_, belowN hb4 _⟩
                    have hninf : ¬ Ieee.single.infRung ≤ 0 * 8388608 + q := by rw [consts32.2.1]; omega
                    rw [Nat.min_eq_left (by omega), decide_eq_false hninf]
                    have := fbits32_rung (t := 0) (q := q) (by omega) (by omega) (Or.inl rfl) neg
                    rw [if_pos hden] at this
                    rw [hE]
                    exact congrArg (fun z => Ending.returned (.tuple #[.int .u64 z, .bool false])) this
                  have HF := Lib.hid hfin
                  clear hfin
                  have hbit : (bits .and .u64 (q : Int) 8388608 == 0) = true := by
                    rw [bit32 (by omega), if_pos hden]; rfl
                  go_wp2_with fail
                  go_step3
                  refine Or.inl ⟨rfl, ?_⟩
                  cases neg
                  · go_wp2_with fail
                    go_quiet (fail)
                    go_wp2_with fail
                    rw [Exit.noGoto_ret]
                    go_ret2
                    first | exact HF.out _ _ (by omega) | (simp only [drewN_add]; exact HF.out _ _ (by omega))
                  · go_wp2_with fail
                    go_quiet (fail)
                    go_wp2_with fail
                    go_quiet (fail)
                    go_wp2_with fail
                    rw [Exit.noGoto_ret]
                    go_ret2
                    first | exact HF.out _ _ (by omega) | (simp only [drewN_add]; exact HF.out _ _ (by omega))
                · have hfin : ∀ (n : Nat) (E : Int), E = (t : Int) + 1 → FbPost Ieee.single 149 K L xx neg B w (.returned (.tuple #[.int .u64 (fbits32 (q : Int) E neg), .bool false])) (w''.drewN n) := fun n E hE => by
                    refine ⟨_, HR.out, ?_, belowN hb4 _⟩
                    have hninf : ¬ Ieee.single.infRung ≤ t * 8388608 + q := by rw [consts32.2.1]; have := HQ3.out; omega
                    rw [Nat.min_eq_left (by omega), decide_eq_false hninf]
                    have := fbits32_rung (t := t) (q := q) (by omega) (by have := HQ3.out; omega) (Or.inr (by omega)) neg
                    rw [if_neg hden] at this
                    have e1 : E = ((t + 1 : Nat) : Int) := by omega
                    rw [e1]
                    exact congrArg (fun z => Ending.returned (.tuple #[.int .u64 z, .bool false])) this
                  have HF := Lib.hid hfin
                  clear hfin
                  have hbit : (bits .and .u64 (q : Int) 8388608 == 0) = false := by
                    rw [bit32 (by omega), if_neg hden]; rfl
                  go_wp2_with fail
                  go_step3
                  refine Or.inl ⟨rfl, ?_⟩
                  cases neg
                  · go_wp2_with fail
                    go_quiet (fail)
                    go_wp2_with fail
                    rw [Exit.noGoto_ret]
                    go_ret2
                    first | exact HF.out _ _ (by omega) | (simp only [drewN_add]; exact HF.out _ _ (by omega))
                  · go_wp2_with fail
                    go_quiet (fail)
                    go_wp2_with fail
                    go_quiet (fail)
                    go_wp2_with fail
                    rw [Exit.noGoto_ret]
                    go_ret2
                    first | exact HF.out _ _ (by omega) | (simp only [drewN_add]; exact HF.out _ _ (by omega))
end Go.Proofs.YtnpinogjajhlhaaGreatDoor.Fl
end
