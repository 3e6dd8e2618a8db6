/- A part of the proof that lexiconlaw03.NumsReads answers true at every kind and every text: DwAtof32, Cv. No condition. -/
import Derived.Test.YtnpinogjajhlhaaGreatDoorZ12
import Derived.Test.YtnpinogjajhlhaaGreatDoorZ13
import Derived.Test.YtnpinogjajhlhaaGreatDoorZ21
import Derived.Test.YtnpinogjajhlhaaGreatDoorZ22
import Derived.Test.YtnpinogjajhlhaaGreatDoorZ23
import Derived.Test.YtnpinogjajhlhaaGreatDoorZ19
import Derived.Test.YtnpinogjajhlhaaGreatDoorZ20
import Derived.Test.YtnpinogjajhlhaaGreatDoorZ06
import Derived.Laws.FloatArith
section
/- atof32, walked at a number's text. -/
namespace Go.Proofs.YtnpinogjajhlhaaGreatDoor.Fl
open Go.RowKit

/-- The package's tables, below B. -/
structure Tab32 (w : World) (B : Nat) : Prop where
  info : InfoAt w 8 B 23 8 (-127)
  cheats : CheatsAt w B
  ptab : PowtabAt w B
  ftab : F32At w B
  pow : PowAt w B
  opt : 7 < B ∧ w.cell? ⟨7, 0, none⟩ = some (.bool true)

theorem Tab32.below {w w' : World} {B : Nat} (h : Tab32 w B) (hb : Below B w w') : Tab32 w' B :=
  ⟨h.info.below hb, h.cheats.below hb, h.ptab.below hb, h.ftab.below hb, h.pow.below hb, h.opt.1, (hb.cell (p := ⟨_, 0, none⟩) h.opt.1).trans h.opt.2⟩

def At32Post (S : ByteArray) (n : Nat) (g : Nat → Nat) (x : Int) (neg : Bool) (B : Nat) (w : World) (e : Ending) (w' : World) : Prop :=
  ∃ r, RN Ieee.single.binade (2 ^ (149 + 1)) (vn (num g n) (ve n x)) (vd (ve n x)) r ∧
    e = .returned (.tuple #[.float .f32 (Ieee.single.word neg (min r Ieee.single.infRung)), .int .i64 (S.size : Nat), if Ieee.single.infRung ≤ r then errRange else .nilIface]) ∧ Below B w w'

theorem zero_dec32 : Tryz.zeroCells184 = (List.replicate 800 (Value.int .u8 0) ++ [Value.int .i64 0, Value.int .i64 0, Value.bool false, Value.bool false]).toArray := by kernel_rfl

theorem dec_new32 (w : World) : DecAt (w.alloc (Obj.cells Tryz.zeroCells184 184)) w.heap.size (fun _ => 0) 0 0 false false := by
  have hc : ∀ i, (w.alloc (Obj.cells Tryz.zeroCells184 184)).cell? ⟨w.heap.size, i, none⟩ = (List.replicate 800 (Value.int .u8 0) ++ [Value.int .i64 0, Value.int .i64 0, Value.bool false, Value.bool false])[i]? := fun i => by
    rw [World.cell?_alloc_at _ _ _ _ rfl, zero_dec32, List.getElem?_toArray]
  refine ⟨fun i hi => ?_, ?_, ?_, ?_, ?_, fun j => World.frozen?_alloc_at _ _ _ _ rfl⟩
  · rw [hc, List.getElem?_append_left (by rw [List.length_replicate]; exact hi), List.getElem?_replicate, if_pos hi]
  all_goals (rw [hc, List.getElem?_append_right (by rw [List.length_replicate]; decide), List.length_replicate]; rfl)

theorem bool2s32_walk (b : Bool) (w : World) : Calls Tryz.prog 169 #[.bool b] w (IntEndU .u32 (b.toNat : Nat) w) := by
  go_enter Tryz.func169, Tryz.ntmps169
  cases b <;> (go_wp2_with fail; go_ret; exact ⟨rfl, rfl⟩)

set_option maxHeartbeats 4000000 in
set_option maxRecDepth 100000 in
theorem atof32_walk (S : ByteArray) (neg : Bool) (n : Nat) (g : Nat → Nat) (en : Bool) (m : Nat) (h : Nat → Nat) (w : World) (hS : Txt S neg n g en m h) (hg0 : g 0 = 0 → n = 1) (B : Nat) (hB : B ≤ w.heap.size) (hT : Tab32 w B) :
    Calls Tryz.prog 145 #[.string S] w (At32Post S n g (ex h m en) neg B w) := by
  obtain ⟨x, hx⟩ : ∃ x, ex h m en = x := ⟨_, rfl⟩
  have hsp := fun w => special_walk S neg n g en m h w hS
  have hrd := fun w => read_walk S neg n g en m h w hS hg0
  rw [hx] at hrd ⊢
  have h9 := hS.g9
  have hn := hS.pos
  have hsz := hS.big
  have hxb : -99999 ≤ x ∧ x ≤ 99999 := by
    rw [← hx]; unfold ex; have := cl_le hS.h9; split <;> omega
  have HA : Hid (Txt S neg n g en m h ∧ (g 0 = 0 → n = 1) ∧ ex h m en = x ∧ (∀ w, Calls Tryz.prog 166 #[.string S] w (SpecPost w)) ∧ (∀ w, Calls Tryz.prog 167 #[.string S] w (ReadPost S n g x neg w)) ∧ Tab32 w B ∧ -99999 ≤ x ∧ x ≤ 99999) := ⟨hS, hg0, hx, hsp, hrd, hT, hxb.1, hxb.2⟩
  have ho := hT.opt.2
  clear hS hsp hrd hT hxb hx hn h9 hg0
  go_enter Tryz.func145, Tryz.ntmps145
  go_wp2_with fail
  refine (HA.out.2.2.2.1 _).mono ?_
  rintro e w' ⟨rfl, rfl⟩
  go_wp2_with fail
  refine (HA.out.2.2.2.2.1 _).mono ?_
  rintro e w' ⟨tr, p, rfl, hp, htr, rfl⟩
  obtain ⟨M, hM⟩ : ∃ M, mant g n = M := ⟨_, rfl⟩
  rw [hM]
  have HP : Hid (p = rexp g n x ∧ (tr = true ↔ ∃ i, 19 ≤ i ∧ i < n ∧ g i ≠ 0) ∧ mant g n = M) := ⟨hp, htr, hM⟩
  clear hp htr hM
  go_wp2_with fail
  obtain ⟨sg, hsg⟩ : ∃ sg, neg.toNat * 2147483648 = sg := ⟨_, rfl⟩
  have HSG := Lib.hid hsg
  refine (bool2s32_walk neg _).mono ?_
  rintro e w2 ⟨rfl, rfl⟩
  have hb1 : neg.toNat ≤ 1 := by cases neg <;> decide
  obtain ⟨bn, hbn⟩ : ∃ bn, neg.toNat = bn := ⟨_, rfl⟩
  rw [hbn] at hsg hb1 ⊢
  clear hbn
  have hsi : (bn : Int) * 2147483648 = (sg : Int) := by omega
  have hor0 : bits .or .u32 (sg : Int) 0 = (sg : Int) := by rw [← HSG.out]; cases neg <;> decide +kernel
  have horI : bits .or .u32 (sg : Int) 2139095040 = ((sg + 2139095040 : Nat) : Int) := by rw [← HSG.out]; exact pk_inf32 neg
  have hw : ∀ y, Ieee.single.word neg y = sg + y := fun y => by
    rw [← HSG.out]; unfold Ieee.Format.word; rw [consts32.2.2]; cases neg <;> simp
  have HW := Lib.hid hw
  have hf0 : ∀ w, (callFunc 170 #[.int .u32 (bits .or .u32 (sg : Int) 0)]).run Tryz.prog w = .ok (.value (.float .f32 sg)) w := fun w => by rw [hor0]; exact sfrom32 _ w
  have hfI : ∀ w, (callFunc 170 #[.int .u32 (bits .or .u32 (sg : Int) 2139095040)]).run Tryz.prog w = .ok (.value (.float .f32 (sg + 2139095040))) w := fun w => by rw [horI]; exact sfrom32 _ w
  have HF0 := Lib.hid hf0
  have HFI := Lib.hid hfI
  clear hor0 horI hw hsg hf0 hfI
  by_cases hM0 : M = 0
  · subst hM0
    have hf := HF0.out
    go_wp2_with fail
    go_ret3
    have hz := rn_nought (num g n) (ve n x) (num_zero_of_mant HA.out.1.pos HA.out.2.1 HP.out.2.2) (binade_pos Ieee.single) (S := 2 ^ (149 + 1))
    refine ⟨0, hz, ?_, Below.refl _ _⟩
    rw [Nat.zero_min, if_neg (by decide +kernel), HW.out]; rfl
  · have hM1 : ((M : Int) == 0) = false := by rw [beq_eq_false_iff_ne]; omega
    have HM : Hid (0 < M ∧ M < 10000000000000000000 ∧ p = 1 + x - (min n 19 : Nat)) := ⟨by omega, by rw [← HP.out.2.2]; exact mant_lt HA.out.1.g9, by rw [HP.out.1]; unfold rexp; rw [HP.out.2.2, if_neg hM0]⟩
    clear hM0
    by_cases hp1 : 40 < p
    · have hf := HFI.out
      go_wp2_with fail
      go_ret3
      obtain ⟨r, hr⟩ := rn_ex fit32 (num g n) (ve n x)
      have hinf := rd_over (k := 128) (T := 40 + 1) fit32 HA.out.1.g9 HM.out.2.2 (by rw [HP.out.2.2]; exact HM.out.1) (by omega) (by decide +kernel) inf32 hr
      refine ⟨r, hr, ?_, Below.refl _ _⟩
      rw [Nat.min_eq_right hinf, if_pos hinf, HW.out, consts32.2.1]; rfl
    · by_cases hp2 : p < -70
      · have hf := HF0.out
        go_wp2_with fail
        go_ret3
        have hz := rd_under (T := 70 + 1) (S := 2 ^ (149 + 1)) HA.out.1.g9 HM.out.2.2 (binade_pos Ieee.single) (by omega) (by decide +kernel)
        refine ⟨0, hz, ?_, Below.refl _ _⟩
        rw [Nat.zero_min, if_neg (by decide +kernel), HW.out]; rfl
      · obtain ⟨i, hi⟩ : ∃ i : Nat, p = (i : Int) - 348 := ⟨(p + 348).toNat, by omega⟩
        have hi6 : i < 696 := by omega
        have hpf : ∀ d, 0 < d → d < 18446744073709551616 → ∀ w3, Below B w2 w3 → Calls Tryz.prog 172 #[.int .u64 (d : Nat), .int .i64 p, .int .u32 (sg : Nat)] w3
            (fun e w' => ∃ r X ER, Hid (RN Ieee.single.binade (2 ^ (149 + 1)) (vn d p) (vd p) r ∧ Ieee.single.word neg (min r Ieee.single.infRung) = X ∧ (if Ieee.single.infRung ≤ r then errRange else .nilIface) = ER) ∧ e = .returned (.tuple #[.float .f32 X, ER]) ∧ Below B w3 w') := by
          intro d d0 d1 w3 hb3
          have := pf32_walk d i p d0 d1 hi6 hi neg w3 B (Nat.le_trans hB hb3.size) (HA.out.2.2.2.2.2.1.pow.below hb3)
          rw [HSG.out] at this
          refine this.mono ?_
          rintro e w' ⟨r, h1, h2, h3⟩
          obtain ⟨v1, v2⟩ := vn_tab d i hi
          exact ⟨r, _, _, ⟨by rw [v1, v2]; exact h1, rfl, rfl⟩, h2, h3⟩
        have HPF := Lib.hid hpf
        have hp3 : p ≤ 40 := by omega
        have hp4 : -70 ≤ p := by omega
        clear hi hi6 hpf hp1 hp2
        cases htr : tr with
        | false =>
          have hno : ¬ ∃ i, 19 ≤ i ∧ i < n ∧ g i ≠ 0 := fun h => by
            have := HP.out.2.1.2 h; rw [htr] at this; exact Bool.noConfusion this
          have HNO := Lib.hid hno
          clear hno htr
          go_wp2_with fail
          refine (exact32_walk M p neg _ B HA.out.2.2.2.2.2.1.info HA.out.2.2.2.2.2.1.ftab HM.out.1).mono ?_
          rintro e w3 ⟨fx, ok, rfl, rfl, hok⟩
          cases ok with
          | true =>
            obtain ⟨r, hr1, hr2, hr3⟩ := hok rfl
            have HR : Hid (r < Ieee.single.infRung ∧ fx = Ieee.single.word neg r ∧ RN Ieee.single.binade (2 ^ (149 + 1)) (vn M p) (vd p) r) := ⟨hr1, hr2, hr3⟩
            clear hok hr1 hr2 hr3
            go_wp2_with fail
            go_ret3
            refine ⟨r, rd_eq HA.out.1.g9 HNO.out HM.out.2.2 (by rw [HP.out.2.2]; exact HR.out.2.2), ?_, Below.refl _ _⟩
            rw [Nat.min_eq_left (Nat.le_of_lt HR.out.1), if_neg (Nat.not_le.2 HR.out.1), ← HR.out.2.1]; rfl
          | false =>
            clear hok
            go_wp2_with fail
            refine (HPF.out M HM.out.1 (by have := HM.out.2.1; omega) _ (Below.refl _ _)).mono ?_
            rintro e w4 ⟨r, X, ER, HR, rfl, hb4⟩
            go_wp2_with fail
            go_ret3
            refine ⟨r, rd_eq HA.out.1.g9 HNO.out HM.out.2.2 (by rw [HP.out.2.2]; exact HR.out.1), ?_, hb4⟩
            rw [HR.out.2.1, HR.out.2.2]; rfl
        | true =>
          have HTR := Lib.hid (HP.out.2.1.1 htr)
          clear htr
          go_wp2_with fail
          refine (HPF.out M HM.out.1 (by have := HM.out.2.1; omega) _ (Below.refl _ _)).mono ?_
          rintro e w4 ⟨r1, X1, ER1, HR1, rfl, hb4⟩
          obtain ⟨M1, hM1⟩ : ∃ M1, M + 1 = M1 := ⟨_, rfl⟩
          have hMw : IntKind.u64.wrap ((M : Int) + 1) = (M1 : Int) := by rw [IntKind.wrap_u64]; have := HM.out.2.1; omega
          have HM1 := Lib.hid hM1
          clear hM1
          go_wp2_with fail
          refine (HPF.out M1 (by have := HM1.out; omega) (by have := HM1.out; have := HM.out.2.1; omega) _ hb4).mono ?_
          rintro e w5 ⟨r2, X2, ER2, HR2, rfl, hb5⟩
          by_cases heq : min r1 Ieee.single.infRung = min r2 Ieee.single.infRung
          · have hoe : FloatKind.f32.format.order X1 X2 = some .eq := by
              rw [← HR1.out.2.1, ← HR2.out.2.1, heq]; exact order_same fit32 neg (Nat.min_le_right _ _)
            have HEQ := Lib.hid heq
            clear heq
            go_wp2_with fail
            go_ret3
            obtain ⟨r, hr⟩ := rn_ex fit32 (num g n) (ve n x)
            have hmid := rd_mid HA.out.1.g9 HM.out.2.2 (binade_pos Ieee.single) (by rw [HP.out.2.2]; exact HR1.out.1) (by rw [HP.out.2.2, HM1.out]; exact HR2.out.1) hr
            have hmin : min r Ieee.single.infRung = min r1 Ieee.single.infRung := by have := HEQ.out; omega
            have hif : (Ieee.single.infRung ≤ r) = (Ieee.single.infRung ≤ r1) := propext (by omega)
            refine ⟨r, hr, ?_, hb4.trans hb5⟩
            rw [hmin]
            simp only [hif]
            rw [HR1.out.2.1, HR1.out.2.2]; rfl
          · have hoe : (FloatKind.f32.format.order X1 X2 == some .eq) = false := by
              rw [beq_eq_false_iff_ne, ← HR1.out.2.1, ← HR2.out.2.1]; exact order_ne fit32 neg (Nat.min_le_right _ _) (Nat.min_le_right _ _) heq
            have HNE : Hid (r1 ≠ r2) := Lib.hid (fun h => heq (by rw [h]))
            clear heq
            go_wp2_with fail
            have hg0 : g 0 ≠ 0 := fun h => by
              obtain ⟨i, i1, i2, -⟩ := HTR.out
              have := HA.out.2.1 h; omega
            have hdec := dec_new32 w5
            have hb6 : Below B w2 (w5.alloc (Obj.cells Tryz.zeroCells184 184)) := (hb4.trans hb5).alloc (Nat.le_trans hB (hb4.trans hb5).size) _
            have hset := set_walk w5.heap.size _ false false S neg n g en m h _ HA.out.1 hg0 hdec B (Nat.le_trans hB (hb4.trans hb5).size)
            rw [HA.out.2.2.1] at hset
            have hBc : B ≤ w5.heap.size := Nat.le_trans hB (hb4.trans hb5).size
            clear hdec
            generalize w5.alloc (Obj.cells Tryz.zeroCells184 184) = w6 at *
            obtain ⟨c, hc⟩ : ∃ c, w5.heap.size = c := ⟨_, rfl⟩
            rw [hc] at hset hBc ⊢
            refine hset.mono ?_
            rintro e w7 ⟨rfl, a, tr8, hdec7, hdig7, htr7, hb7⟩
            have hKx : 0 ≤ ve n x + ((102000 + n : Nat) : Int) := by have := HA.out.2.2.2.2.2.2.1; unfold ve; omega
            have hdpu : 1 + x ≤ 700 := by have := HM.out.2.2; omega
            have hst := slow_st (K := 102000 + n) (L := 3000) (by omega) (by omega) hKx hdpu HA.out.1.pos HA.out.1.g9 hg0 htr7
            have hsta : StAt w7 c (102000 + n) 3000 (xxOf (102000 + n) 3000 g n x) (1 + x) 0 neg (g 0) (vv (102000 + n) 3000 (num g (min n 800)) (1 + x - (min n 800 : Nat)) 0) :=
              ⟨a, g, min n 800, tr8, hdec7, fun i hi => ⟨hdig7 i hi, HA.out.1.g9 i (by omega)⟩, hst, rfl, rfl⟩
            have hbb := hb6.trans hb7
            have hTb := HA.out.2.2.2.2.2.1.below hbb
            have hlow : ∀ J : Int, Size (102000 + n) 3000 (xxOf (102000 + n) 3000 g n x) J → J ≤ 149 + 2 := fun J hJ =>
              slow_size (c := 149 + 1) (binade_pos Ieee.single) hKx HA.out.1.g9 HM.out.2.2 (by rw [HP.out.2.2]; exact HM.out.1) (by rw [HP.out.2.2]; exact HR1.out.1) (by rw [HP.out.2.2, HM1.out]; exact HR2.out.1) HNE.out hJ
            have hfb := fb32_walk c 8 (102000 + n) 3000 _ (1 + x) neg _ _ w7 hsta B hBc hTb.info hTb.cheats hTb.ptab (by omega) (by omega) hlow (slow_lt HA.out.1.pos HA.out.1.g9 hKx) (by have := HA.out.2.2.2.2.2.2.1; omega) (by have := HA.out.2.2.2.2.2.2.2; omega)
            have hfin : Calls Tryz.prog 174 #[.pointer (some ⟨c, 0, none⟩), .pointer (some ⟨8, 0, none⟩)] w7 (fun e w' => ∃ r X ov, Hid (RN Ieee.single.binade (2 ^ (149 + 1)) (vn (num g n) (ve n x)) (vd (ve n x)) r ∧ Ieee.single.word neg (min r Ieee.single.infRung) = X ∧ decide (Ieee.single.infRung ≤ r) = ov) ∧ e = .returned (.tuple #[.int .u64 (X : Nat), .bool ov]) ∧ Below B w7 w') := by
              refine hfb.mono ?_
              rintro e w' ⟨r, h1, h2, h3⟩
              exact ⟨r, _, _, ⟨slow_rn hKx h1, rfl, rfl⟩, h2, h3⟩
            have HFI := Lib.hid hfin
            have HBB := Lib.hid hbb
            clear hset hst hsta hbb hTb hlow hfb hfin hdec7 hdig7 htr7 hb7 hb6 hKx hdpu hBc hg0 hc
            go_wp2_with fail
            refine HFI.out.mono ?_
            rintro e w8 ⟨r, X, ov, HR, rfl, hb8⟩
            have hfX : ∀ w, (callFunc 170 #[.int .u32 (X : Nat)]).run Tryz.prog w = .ok (.value (.float .f32 X)) w := fun w => sfrom32 _ w
            have hXl : X < 4294967296 := by
              rw [← HR.out.2.1, HW.out]
              have h1 := Nat.min_le_right r Ieee.single.infRung
              rw [consts32.2.1] at h1 ⊢
              have h2 := HSG.out
              have h3 : neg.toNat ≤ 1 := by cases neg <;> decide
              omega
            have hXw : IntKind.u32.wrap (X : Int) = (X : Int) % 4294967296 := IntKind.wrap_u32 _
            have hXm : (X : Int) % 4294967296 = X := by omega
            have HXM := Lib.hid hXm
            clear hXl
            cases hov : ov with
            | true =>
              have HOV : Hid (Ieee.single.infRung ≤ r) := Lib.hid (of_decide_eq_true (HR.out.2.2.trans hov))
              clear hov
              go_wp2_with fail
              go_ret3
              refine ⟨r, HR.out.1, ?_, HBB.out.trans hb8⟩
              rw [HR.out.2.1, if_pos HOV.out]; rfl
            | false =>
              have HOV : Hid (¬ Ieee.single.infRung ≤ r) := Lib.hid (of_decide_eq_false (HR.out.2.2.trans hov))
              clear hov
              go_wp2_with fail
              go_ret3
              refine ⟨r, HR.out.1, ?_, HBB.out.trans hb8⟩
              rw [HR.out.2.1, if_neg HOV.out]; rfl
end Go.Proofs.YtnpinogjajhlhaaGreatDoor.Fl
end
section
/- float64 of a float32, and back. -/
namespace Go.Proofs.YtnpinogjajhlhaaGreatDoor.Fl
open Ieee
variable {f : Format} {Lo : Nat}

/-- A number of few bits, times a power of two within the places, is a rung's very number. -/
theorem vis_scaled (hf : Fit f Lo) {m : Nat} {e : Int} (h0 : 0 < m) (h : m < 2 * f.binade) (he : -(Lo : Int) + f.fractionBits ≤ e) (he2 : e + Lo + 2 < 2 ^ f.exponentBits) :
    ∃ r, r < f.infRung ∧ vmag f r * 2 ^ (vplace f r).toNat * 2 ^ (-e).toNat = m * 2 ^ e.toNat * 2 ^ (-vplace f r).toNat := by
  have hb : f.binade = 2 ^ f.fractionBits := rfl
  have h1 : 2 ^ Nat.log2 m ≤ m := Nat.log2_self_le (by omega)
  have h2 : m < 2 ^ (Nat.log2 m + 1) := Nat.lt_log2_self
  have h3 : Nat.log2 m < f.fractionBits + 1 := (Nat.log2_lt (by omega)).2 (by rw [Nat.pow_succ, ← hb]; omega)
  obtain ⟨k, hk⟩ : ∃ k, f.fractionBits = Nat.log2 m + k := ⟨f.fractionBits - Nat.log2 m, by omega⟩
  have hq1 : f.binade ≤ m * 2 ^ k := by
    rw [hb, hk, Nat.pow_add]; exact Nat.mul_le_mul_right _ h1
  have hq2 : m * 2 ^ k < 2 * f.binade := by
    have := Nat.mul_lt_mul_of_pos_right h2 (Nat.two_pow_pos k)
    rw [← Nat.pow_add, show Nat.log2 m + 1 + k = f.fractionBits + 1 by omega, Nat.pow_succ, ← hb] at this
    omega
  obtain ⟨t, ht⟩ : ∃ t : Nat, (t : Int) = e - k + Lo := ⟨(e - k + Lo).toNat, by omega⟩
  have hv := vmag_vplace hf (t := t) hq2 (Or.inr hq1)
  refine ⟨t * f.binade + m * 2 ^ k, ?_, ?_⟩
  · unfold Format.infRung
    have h5 : t + 2 ≤ 2 ^ f.exponentBits - 1 := by
      have : ((2 ^ f.exponentBits : Nat) : Int) = 2 ^ f.exponentBits := by push_cast; rfl
      generalize 2 ^ f.exponentBits = z at *
      omega
    have := Nat.mul_le_mul_right f.binade h5
    rw [Nat.add_mul] at this
    omega
  · rw [hv.1, hv.2, ht]
    have e1 : e - (k : Int) + Lo - Lo = e - k := by omega
    rw [e1, Nat.mul_assoc, Nat.mul_assoc, Nat.mul_assoc, ← Nat.pow_add, ← Nat.pow_add, ← Nat.pow_add]
    congr 2
    omega

theorem read_write_32 (neg : Bool) {r : Nat} (hr : r < single.infRung) :
    ∃ y, y < double.infRung ∧ double.write (single.read (single.word neg r)) = double.word neg y ∧ single.write (double.read (double.word neg y)) = single.word neg r := by
  rw [read_word neg hr]
  by_cases hm : vmag single r = 0
  · -- a nought
    have h1 : double.write (.number neg (vmag single r) (vplace single r)) = double.word neg 0 := by
      rw [hm]; simp [Format.write, Format.nearest]
    have h2 : r = 0 := by
      unfold vmag at hm
      have hb := binade_pos single
      split at hm <;> omega
    refine ⟨0, by decide +kernel, h1, ?_⟩
    rw [read_word neg (by decide +kernel : 0 < double.infRung), h2]
    have h3 : vmag double 0 = 0 := by unfold vmag; rw [if_pos (binade_pos double)]
    rw [h3]; simp [Format.write, Format.nearest]
  · have hbs : single.binade = 8388608 := by decide +kernel
    have hbd : double.binade = 4503599627370496 := by decide +kernel
    have hls : single.leastPlace = -149 := by decide
    have his : single.infRung = 2139095040 := by decide +kernel
    have hml : vmag single r < 16777216 := by
      unfold vmag; rw [hbs]
      split
      · omega
      · have := Nat.mod_lt r (show 0 < 8388608 by decide); omega
    have hp1 : -149 ≤ vplace single r ∧ vplace single r ≤ 104 := by
      unfold vplace; rw [hls, hbs]
      rw [his] at hr
      have : r / 8388608 ≤ 254 := by omega
      omega
    have hx := rn_exact (f := single) (Lo := 149) fit32.least (by decide) r
    generalize vmag single r = m at *
    generalize vplace single r = e at *
    have hfb : -((1074 : Nat) : Int) + double.fractionBits ≤ e := by show -1074 + (52 : Int) ≤ e; omega
    have heb : e + (1074 : Nat) + 2 < 2 ^ double.exponentBits := by show e + 1074 + 2 < (2 : Int) ^ 11; omega
    obtain ⟨y, hy, hv⟩ := vis_scaled fit64 (m := m) (e := e) (by omega) (by rw [hbd]; omega) hfb heb
    obtain ⟨r1, h1, h2⟩ := nearest_rn (f := double) fit64.least (by decide) neg hm e
    have hxy := rn_exact (f := double) (Lo := 1074) fit64.least (by decide) y
    have e1 : r1 = y := h2.unique (binade_pos double) (Nat.two_pow_pos _) (Nat.two_pow_pos _) hxy hv.symm
    subst e1
    refine ⟨r1, hy, by show double.nearest neg m e = _; rw [h1, Nat.min_eq_left (Nat.le_of_lt hy)], ?_⟩
    rw [read_word neg hy]
    have hm2 : vmag double r1 ≠ 0 := fun hc => by
      rw [hc, Nat.zero_mul, Nat.zero_mul] at hv
      exact absurd hv.symm (Nat.ne_of_gt (Nat.mul_pos (Nat.mul_pos (by omega) (Nat.two_pow_pos _)) (Nat.two_pow_pos _)))
    obtain ⟨r2, h3, h4⟩ := nearest_rn (f := single) fit32.least (by decide) neg hm2 (vplace double r1)
    have e2 : r2 = r := h4.unique (binade_pos single) (Nat.two_pow_pos _) (Nat.two_pow_pos _) hx hv
    subst e2
    show single.nearest neg _ _ = _
    rw [h3, Nat.min_eq_left (Nat.le_of_lt hr)]

theorem conv_up (neg : Bool) {r : Nat} (hr : r ≤ single.infRung) : ∃ y, floatToFloatBits .f32 (single.word neg r) .f64 = some y ∧ (r < single.infRung → floatToFloatBits .f64 y .f32 = some (single.word neg r)) := by
  by_cases h : r < single.infRung
  · obtain ⟨y, h1, h2, h3⟩ := read_write_32 neg h
    have hr1 := read_word neg h
    have hr2 := read_word neg h1
    refine ⟨double.word neg y, ?_, fun _ => ?_⟩
    · unfold floatToFloatBits
      rw [if_neg (by decide)]
      show (match single.read (single.word neg r) with | .nan _ _ => none | .infinity s => some (double.write (.infinity s)) | .number s m e => if (double.read (double.write (.number s m e))).isInfinity then none else some (double.write (.number s m e))) = _
      rw [hr1] at h2 ⊢
      simp only [h2, hr2]
      rfl
    · unfold floatToFloatBits
      rw [if_neg (by decide)]
      show (match double.read (double.word neg y) with | .nan _ _ => none | .infinity s => some (single.write (.infinity s)) | .number s m e => if (single.read (single.write (.number s m e))).isInfinity then none else some (single.write (.number s m e))) = _
      rw [hr2] at h3 ⊢
      simp only [h3, hr1]
      rfl
  · have : r = single.infRung := by omega
    subst this
    refine ⟨double.word neg double.infRung, ?_, fun h => absurd h (Nat.lt_irrefl _)⟩
    unfold floatToFloatBits
    rw [if_neg (by decide)]
    show (match single.read (single.word neg single.infRung) with | .nan _ _ => none | .infinity s => some (double.write (.infinity s)) | .number s m e => if (double.read (double.write (.number s m e))).isInfinity then none else some (double.write (.number s m e))) = _
    rw [read_inf (by decide) neg]
    rfl

end Go.Proofs.YtnpinogjajhlhaaGreatDoor.Fl
end
