/- A part of the proof that lexiconlaw03.NumsReads answers true at every kind and every text: DwAtof64, DwEx32. No condition. -/
import Derived.Test.YtnpinogjajhlhaaGreatDoorZ12
import Derived.Test.YtnpinogjajhlhaaGreatDoorZ13
import Derived.Test.YtnpinogjajhlhaaGreatDoorZ16
import Derived.Test.YtnpinogjajhlhaaGreatDoorZ17
import Derived.Test.YtnpinogjajhlhaaGreatDoorZ18
import Derived.Test.YtnpinogjajhlhaaGreatDoorZ19
import Derived.Test.YtnpinogjajhlhaaGreatDoorZ20
import Derived.Test.YtnpinogjajhlhaaGreatDoorZ15
import Derived.Laws.FloatArith
import Derived.Deep.DeepCutAuto
import Derived.Deep.CutBlock
section
/- atof64, walked at a number's text. -/
namespace Go.Proofs.YtnpinogjajhlhaaGreatDoor.Fl
open Go.RowKit

/-- The package's tables, below B. -/
structure Tab64 (w : World) (B : Nat) : Prop where
  info : InfoAt w 9 B 52 11 (-1023)
  cheats : CheatsAt w B
  ptab : PowtabAt w B
  ftab : F64At w B
  pow : PowAt w B
  opt : 7 < B ∧ w.cell? ⟨7, 0, none⟩ = some (.bool true)

theorem Tab64.below {w w' : World} {B : Nat} (h : Tab64 w B) (hb : Below B w w') : Tab64 w' B :=
  ⟨h.info.below hb, h.cheats.below hb, h.ptab.below hb, h.ftab.below hb, h.pow.below hb, h.opt.1, (hb.cell (p := ⟨_, 0, none⟩) h.opt.1).trans h.opt.2⟩

def At64Post (S : ByteArray) (n : Nat) (g : Nat → Nat) (x : Int) (neg : Bool) (B : Nat) (w : World) (e : Ending) (w' : World) : Prop :=
  ∃ r, RN Ieee.double.binade (2 ^ (1074 + 1)) (vn (num g n) (ve n x)) (vd (ve n x)) r ∧
    e = .returned (.tuple #[.float .f64 (Ieee.double.word neg (min r Ieee.double.infRung)), .int .i64 (S.size : Nat), if Ieee.double.infRung ≤ r then errRange else .nilIface]) ∧ Below B w w'

theorem zero_dec64 : Tryz.zeroCells184 = (List.replicate 800 (Value.int .u8 0) ++ [Value.int .i64 0, Value.int .i64 0, Value.bool false, Value.bool false]).toArray := by kernel_rfl

theorem dec_new64 (w : World) : DecAt (w.alloc (Obj.cells Tryz.zeroCells184 184)) w.heap.size (fun _ => 0) 0 0 false false := by
  have hc : ∀ i, (w.alloc (Obj.cells Tryz.zeroCells184 184)).cell? ⟨w.heap.size, i, none⟩ = (List.replicate 800 (Value.int .u8 0) ++ [Value.int .i64 0, Value.int .i64 0, Value.bool false, Value.bool false])[i]? := fun i => by
    rw [World.cell?_alloc_at _ _ _ _ rfl, zero_dec64, List.getElem?_toArray]
  refine ⟨fun i hi => ?_, ?_, ?_, ?_, ?_, fun j => World.frozen?_alloc_at _ _ _ _ rfl⟩
  · rw [hc, List.getElem?_append_left (by rw [List.length_replicate]; exact hi), List.getElem?_replicate, if_pos hi]
  all_goals (rw [hc, List.getElem?_append_right (by rw [List.length_replicate]; decide), List.length_replicate]; rfl)

theorem bool2s64_walk (b : Bool) (w : World) : Calls Tryz.prog 175 #[.bool b] w (IntEndU .u64 (b.toNat : Nat) w) := by
  go_enter Tryz.func175, Tryz.ntmps175
  cases b <;> (go_wp2_with fail; go_ret; exact ⟨rfl, rfl⟩)

set_option maxHeartbeats 4000000 in
set_option maxRecDepth 100000 in
theorem atof64_walk (S : ByteArray) (neg : Bool) (n : Nat) (g : Nat → Nat) (en : Bool) (m : Nat) (h : Nat → Nat) (w : World) (hS : Txt S neg n g en m h) (hg0 : g 0 = 0 → n = 1) (B : Nat) (hB : B ≤ w.heap.size) (hT : Tab64 w B) :
    Calls Tryz.prog 146 #[.string S] w (At64Post S n g (ex h m en) neg B w) := by
  obtain ⟨x, hx⟩ : ∃ x, ex h m en = x := ⟨_, rfl⟩
  have hsp := fun w => special_walk S neg n g en m h w hS
  have hrd := fun w => read_walk S neg n g en m h w hS hg0
  rw [hx] at hrd ⊢
  have h9 := hS.g9
  have hn := hS.pos
  have hsz := hS.big
  have hxb : -99999 ≤ x ∧ x ≤ 99999 := by
    rw [← hx]; unfold ex; have := cl_le hS.h9; split <;> omega
  have HA : Hid (Txt S neg n g en m h ∧ (g 0 = 0 → n = 1) ∧ ex h m en = x ∧ (∀ w, Calls Tryz.prog 166 #[.string S] w (SpecPost w)) ∧ (∀ w, Calls Tryz.prog 167 #[.string S] w (ReadPost S n g x neg w)) ∧ Tab64 w B ∧ -99999 ≤ x ∧ x ≤ 99999) := ⟨hS, hg0, hx, hsp, hrd, hT, hxb.1, hxb.2⟩
  have ho := hT.opt.2
  clear hS hsp hrd hT hxb hx hn h9 hg0
  go_enter Tryz.func146, Tryz.ntmps146
  go_wp2_with fail
  refine (HA.out.2.2.2.1 _).mono ?_
  rintro e w' ⟨rfl, rfl⟩
  go_wp2_with fail
  refine (HA.out.2.2.2.2.1 _).mono ?_
  rintro e w' ⟨tr, p, rfl, hp, htr, rfl⟩
  obtain ⟨M, hM⟩ : ∃ M, mant g n = M := ⟨_, rfl⟩
  rw [hM]
  have HP : Hid (p = rexp g n x ∧ (tr = true ↔ ∃ i, 19 ≤ i ∧ i < n ∧ g i ≠ 0) ∧ mant g n = M) := ⟨hp, htr, hM⟩
  clear hp htr hM
  go_wp2_with fail
  obtain ⟨sg, hsg⟩ : ∃ sg, neg.toNat * 9223372036854775808 = sg := ⟨_, rfl⟩
  have HSG := Lib.hid hsg
  refine (bool2s64_walk neg _).mono ?_
  rintro e w2 ⟨rfl, rfl⟩
  have hb1 : neg.toNat ≤ 1 := by cases neg <;> decide
  obtain ⟨bn, hbn⟩ : ∃ bn, neg.toNat = bn := ⟨_, rfl⟩
  rw [hbn] at hsg hb1 ⊢
  clear hbn
  have hsi : (bn : Int) * 9223372036854775808 = (sg : Int) := by omega
  have hor0 : bits .or .u64 (sg : Int) 0 = (sg : Int) := by rw [← HSG.out]; cases neg <;> decide +kernel
  have horI : bits .or .u64 (sg : Int) 9218868437227405312 = ((sg + 9218868437227405312 : Nat) : Int) := by rw [← HSG.out]; exact pk_inf64 neg
  have hw : ∀ y, Ieee.double.word neg y = sg + y := fun y => by
    rw [← HSG.out]; unfold Ieee.Format.word; rw [consts64.2.2]; cases neg <;> simp
  have HW := Lib.hid hw
  have hf0 : ∀ w, (callFunc 176 #[.int .u64 (bits .or .u64 (sg : Int) 0)]).run Tryz.prog w = .ok (.value (.float .f64 sg)) w := fun w => by rw [hor0]; exact sfrom64 _ w
  have hfI : ∀ w, (callFunc 176 #[.int .u64 (bits .or .u64 (sg : Int) 9218868437227405312)]).run Tryz.prog w = .ok (.value (.float .f64 (sg + 9218868437227405312))) w := fun w => by rw [horI]; exact sfrom64 _ w
  have HF0 := Lib.hid hf0
  have HFI := Lib.hid hfI
  clear hor0 horI hw hsg hf0 hfI
  by_cases hM0 : M = 0
  · subst hM0
    have hf := HF0.out
    go_wp2_with fail
    go_ret3
    have hz := rn_nought (num g n) (ve n x) (num_zero_of_mant HA.out.1.pos HA.out.2.1 HP.out.2.2) (binade_pos Ieee.double) (S := 2 ^ (1074 + 1))
    refine ⟨0, hz, ?_, Below.refl _ _⟩
    rw [Nat.zero_min, if_neg (by decide +kernel), HW.out]; rfl
  · have hM1 : ((M : Int) == 0) = false := by rw [beq_eq_false_iff_ne]; omega
    have HM : Hid (0 < M ∧ M < 10000000000000000000 ∧ p = 1 + x - (min n 19 : Nat)) := ⟨by omega, by rw [← HP.out.2.2]; exact mant_lt HA.out.1.g9, by rw [HP.out.1]; unfold rexp; rw [HP.out.2.2, if_neg hM0]⟩
    clear hM0
    by_cases hp1 : 310 < p
    · have hf := HFI.out
      go_wp2_with fail
      go_ret3
      obtain ⟨r, hr⟩ := rn_ex fit64 (num g n) (ve n x)
      have hinf := rd_over (k := 1024) (T := 310 + 1) fit64 HA.out.1.g9 HM.out.2.2 (by rw [HP.out.2.2]; exact HM.out.1) (by omega) (by decide +kernel) inf64 hr
      refine ⟨r, hr, ?_, Below.refl _ _⟩
      rw [Nat.min_eq_right hinf, if_pos hinf, HW.out, consts64.2.1]; rfl
    · by_cases hp2 : p < -345
      · have hf := HF0.out
        go_wp2_with fail
        go_ret3
        have hz := rd_under (T := 345 + 1) (S := 2 ^ (1074 + 1)) HA.out.1.g9 HM.out.2.2 (binade_pos Ieee.double) (by omega) (by decide +kernel)
        refine ⟨0, hz, ?_, Below.refl _ _⟩
        rw [Nat.zero_min, if_neg (by decide +kernel), HW.out]; rfl
      · obtain ⟨i, hi⟩ : ∃ i : Nat, p = (i : Int) - 348 := ⟨(p + 348).toNat, by omega⟩
        have hi6 : i < 696 := by omega
        have hpf : ∀ d, 0 < d → d < 18446744073709551616 → ∀ w3, Below B w2 w3 → Calls Tryz.prog 178 #[.int .u64 (d : Nat), .int .i64 p, .int .u64 (sg : Nat)] w3
            (fun e w' => ∃ r X ER, Hid (RN Ieee.double.binade (2 ^ (1074 + 1)) (vn d p) (vd p) r ∧ Ieee.double.word neg (min r Ieee.double.infRung) = X ∧ (if Ieee.double.infRung ≤ r then errRange else .nilIface) = ER) ∧ e = .returned (.tuple #[.float .f64 X, ER]) ∧ Below B w3 w') := by
          intro d d0 d1 w3 hb3
          have := pf64_walk d i p d0 d1 hi6 hi neg w3 B (Nat.le_trans hB hb3.size) (HA.out.2.2.2.2.2.1.pow.below hb3)
          rw [HSG.out] at this
          refine this.mono ?_
          rintro e w' ⟨r, h1, h2, h3⟩
          obtain ⟨v1, v2⟩ := vn_tab d i hi
          exact ⟨r, _, _, ⟨by rw [v1, v2]; exact h1, rfl, rfl⟩, h2, h3⟩
        have HPF := Lib.hid hpf
        have hp3 : p ≤ 310 := by omega
        have hp4 : -345 ≤ p := by omega
        clear hi hi6 hpf hp1 hp2
        cases htr : tr with
        | false =>
          have hno : ¬ ∃ i, 19 ≤ i ∧ i < n ∧ g i ≠ 0 := fun h => by
            have := HP.out.2.1.2 h; rw [htr] at this; exact Bool.noConfusion this
          have HNO := Lib.hid hno
          clear hno htr
          go_wp2_with fail
          refine (exact64_walk M p neg _ B HA.out.2.2.2.2.2.1.info HA.out.2.2.2.2.2.1.ftab HM.out.1).mono ?_
          rintro e w3 ⟨fx, ok, rfl, rfl, hok⟩
          cases ok with
          | true =>
            obtain ⟨r, hr1, hr2, hr3⟩ := hok rfl
            have HR : Hid (r < Ieee.double.infRung ∧ fx = Ieee.double.word neg r ∧ RN Ieee.double.binade (2 ^ (1074 + 1)) (vn M p) (vd p) r) := ⟨hr1, hr2, hr3⟩
            clear hok hr1 hr2 hr3
            go_wp2_with fail
            go_ret3
            refine ⟨r, rd_eq HA.out.1.g9 HNO.out HM.out.2.2 (by rw [HP.out.2.2]; exact HR.out.2.2), ?_, Below.refl _ _⟩
            rw [Nat.min_eq_left (Nat.le_of_lt HR.out.1), if_neg (Nat.not_le.2 HR.out.1), ← HR.out.2.1]; rfl
          | false =>
            clear hok
            go_wp2_with fail
            refine (HPF.out M HM.out.1 (by have := HM.out.2.1; omega) _ (Below.refl _ _)).mono ?_
            rintro e w4 ⟨r, X, ER, HR, rfl, hb4⟩
            go_wp2_with fail
            go_ret3
            refine ⟨r, rd_eq HA.out.1.g9 HNO.out HM.out.2.2 (by rw [HP.out.2.2]; exact HR.out.1), ?_, hb4⟩
            rw [HR.out.2.1, HR.out.2.2]; rfl
        | true =>
          have HTR := Lib.hid (HP.out.2.1.1 htr)
          clear htr
          go_wp2_with fail
          refine (HPF.out M HM.out.1 (by have := HM.out.2.1; omega) _ (Below.refl _ _)).mono ?_
          rintro e w4 ⟨r1, X1, ER1, HR1, rfl, hb4⟩
          obtain ⟨M1, hM1⟩ : ∃ M1, M + 1 = M1 := ⟨_, rfl⟩
          have hMw : IntKind.u64.wrap ((M : Int) + 1) = (M1 : Int) := by rw [IntKind.wrap_u64]; have := HM.out.2.1; omega
          have HM1 := Lib.hid hM1
          clear hM1
          go_wp2_with fail
          refine (HPF.out M1 (by have := HM1.out; omega) (by have := HM1.out; have := HM.out.2.1; omega) _ hb4).mono ?_
          rintro e w5 ⟨r2, X2, ER2, HR2, rfl, hb5⟩
          by_cases heq : min r1 Ieee.double.infRung = min r2 Ieee.double.infRung
          · have hoe : FloatKind.f64.format.order X1 X2 = some .eq := by
              rw [← HR1.out.2.1, ← HR2.out.2.1, heq]; exact order_same fit64 neg (Nat.min_le_right _ _)
            have HEQ := Lib.hid heq
            clear heq
            go_wp2_with fail
            go_ret3
            obtain ⟨r, hr⟩ := rn_ex fit64 (num g n) (ve n x)
            have hmid := rd_mid HA.out.1.g9 HM.out.2.2 (binade_pos Ieee.double) (by rw [HP.out.2.2]; exact HR1.out.1) (by rw [HP.out.2.2, HM1.out]; exact HR2.out.1) hr
            have hmin : min r Ieee.double.infRung = min r1 Ieee.double.infRung := by have := HEQ.out; omega
            have hif : (Ieee.double.infRung ≤ r) = (Ieee.double.infRung ≤ r1) := propext (by omega)
            refine ⟨r, hr, ?_, hb4.trans hb5⟩
            rw [hmin]
            simp only [hif]
            rw [HR1.out.2.1, HR1.out.2.2]; rfl
          · have hoe : (FloatKind.f64.format.order X1 X2 == some .eq) = false := by
              rw [beq_eq_false_iff_ne, ← HR1.out.2.1, ← HR2.out.2.1]; exact order_ne fit64 neg (Nat.min_le_right _ _) (Nat.min_le_right _ _) heq
            have HNE : Hid (r1 ≠ r2) := Lib.hid (fun h => heq (by rw [h]))
            clear heq
            go_wp2_with fail
            have hg0 : g 0 ≠ 0 := fun h => by
              obtain ⟨i, i1, i2, -⟩ := HTR.out
              have := HA.out.2.1 h; omega
            have hdec := dec_new64 w5
            have hb6 : Below B w2 (w5.alloc (Obj.cells Tryz.zeroCells184 184)) := (hb4.trans hb5).alloc (Nat.le_trans hB (hb4.trans hb5).size) _
            have hset := set_walk w5.heap.size _ false false S neg n g en m h _ HA.out.1 hg0 hdec B (Nat.le_trans hB (hb4.trans hb5).size)
            rw [HA.out.2.2.1] at hset
            have hBc : B ≤ w5.heap.size := Nat.le_trans hB (hb4.trans hb5).size
            clear hdec
            generalize w5.alloc (Obj.cells Tryz.zeroCells184 184) = w6 at *
            obtain ⟨c, hc⟩ : ∃ c, w5.heap.size = c := ⟨_, rfl⟩
            rw [hc] at hset hBc ⊢
            refine hset.mono ?_
            rintro e w7 ⟨rfl, a, tr8, hdec7, hdig7, htr7, hb7⟩
            have hKx : 0 ≤ ve n x + ((102000 + n : Nat) : Int) := by have := HA.out.2.2.2.2.2.2.1; unfold ve; omega
            have hdpu : 1 + x ≤ 700 := by have := HM.out.2.2; omega
            have hst := slow_st (K := 102000 + n) (L := 3000) (by omega) (by omega) hKx hdpu HA.out.1.pos HA.out.1.g9 hg0 htr7
            have hsta : StAt w7 c (102000 + n) 3000 (xxOf (102000 + n) 3000 g n x) (1 + x) 0 neg (g 0) (vv (102000 + n) 3000 (num g (min n 800)) (1 + x - (min n 800 : Nat)) 0) :=
              ⟨a, g, min n 800, tr8, hdec7, fun i hi => ⟨hdig7 i hi, HA.out.1.g9 i (by omega)⟩, hst, rfl, rfl⟩
            have hbb := hb6.trans hb7
            have hTb := HA.out.2.2.2.2.2.1.below hbb
            have hlow : ∀ J : Int, Size (102000 + n) 3000 (xxOf (102000 + n) 3000 g n x) J → J ≤ 1074 + 2 := fun J hJ =>
              slow_size (c := 1074 + 1) (binade_pos Ieee.double) hKx HA.out.1.g9 HM.out.2.2 (by rw [HP.out.2.2]; exact HM.out.1) (by rw [HP.out.2.2]; exact HR1.out.1) (by rw [HP.out.2.2, HM1.out]; exact HR2.out.1) HNE.out hJ
            have hfb := fb64_walk c 9 (102000 + n) 3000 _ (1 + x) neg _ _ w7 hsta B hBc hTb.info hTb.cheats hTb.ptab (by omega) (by omega) hlow (slow_lt HA.out.1.pos HA.out.1.g9 hKx) (by have := HA.out.2.2.2.2.2.2.1; omega) (by have := HA.out.2.2.2.2.2.2.2; omega)
            have hfin : Calls Tryz.prog 174 #[.pointer (some ⟨c, 0, none⟩), .pointer (some ⟨9, 0, none⟩)] w7 (fun e w' => ∃ r X ov, Hid (RN Ieee.double.binade (2 ^ (1074 + 1)) (vn (num g n) (ve n x)) (vd (ve n x)) r ∧ Ieee.double.word neg (min r Ieee.double.infRung) = X ∧ decide (Ieee.double.infRung ≤ r) = ov) ∧ e = .returned (.tuple #[.int .u64 (X : Nat), .bool ov]) ∧ Below B w7 w') := by
              refine hfb.mono ?_
              rintro e w' ⟨r, h1, h2, h3⟩
              exact ⟨r, _, _, ⟨slow_rn hKx h1, rfl, rfl⟩, h2, h3⟩
            have HFI := Lib.hid hfin
            have HBB := Lib.hid hbb
            clear hset hst hsta hbb hTb hlow hfb hfin hdec7 hdig7 htr7 hb7 hb6 hKx hdpu hBc hg0 hc
            go_wp2_with fail
            refine HFI.out.mono ?_
            rintro e w8 ⟨r, X, ov, HR, rfl, hb8⟩
            have hfX : ∀ w, (callFunc 176 #[.int .u64 (X : Nat)]).run Tryz.prog w = .ok (.value (.float .f64 X)) w := fun w => sfrom64 _ w
            have hXl : X < 18446744073709551616 := by
              rw [← HR.out.2.1, HW.out]
              have h1 := Nat.min_le_right r Ieee.double.infRung
              rw [consts64.2.1] at h1 ⊢
              have h2 := HSG.out
              have h3 : neg.toNat ≤ 1 := by cases neg <;> decide
              omega
            have hXw : IntKind.u32.wrap (X : Int) = (X : Int) % 4294967296 := IntKind.wrap_u32 _
            have hXm : (X : Int) % 18446744073709551616 = X := by omega
            have HXM := Lib.hid hXm
            clear hXl
            cases hov : ov with
            | true =>
              have HOV : Hid (Ieee.double.infRung ≤ r) := Lib.hid (of_decide_eq_true (HR.out.2.2.trans hov))
              clear hov
              go_wp2_with fail
              go_ret3
              refine ⟨r, HR.out.1, ?_, HBB.out.trans hb8⟩
              rw [HR.out.2.1, if_pos HOV.out]; rfl
            | false =>
              have HOV : Hid (¬ Ieee.double.infRung ≤ r) := Lib.hid (of_decide_eq_false (HR.out.2.2.trans hov))
              clear hov
              go_wp2_with fail
              go_ret3
              refine ⟨r, HR.out.1, ?_, HBB.out.trans hb8⟩
              rw [HR.out.2.1, if_neg HOV.out]; rfl
end Go.Proofs.YtnpinogjajhlhaaGreatDoor.Fl
end
section
/- atof32exact, walked: what it gives as exact is the nearest rung. -/
namespace Go.Proofs.YtnpinogjajhlhaaGreatDoor.Fl
open Go.RowKit

@[go_sem] theorem unary_neg_f32 (b : Nat) : Op.unary .neg (.float .f32 b) = pure (.float .f32 (Op.negFloat .f32 b)) := rfl

def f32tab : List Nat := [1065353216, 1092616192, 1120403456, 1148846080, 1176256512, 1203982336, 1232348160, 1259902592, 1287568416, 1315859240, 1343554297]

def F32At (w : World) (B : Nat) : Prop :=
  12 < B ∧ ∃ pb po, pb < B ∧ w.cell? ⟨12, 0, none⟩ = some (.slice (some ⟨pb, po, none⟩) 11 11) ∧ ∀ k, k < 11 → w.cell? ⟨pb, po + k, none⟩ = some (.float .f32 (f32tab.getD k 0))

theorem F32At.below {w w' : World} {B : Nat} (h : F32At w B) (hb : Below B w w') : F32At w' B := by
  obtain ⟨h0, pb, po, h1, h2, h3⟩ := h
  exact ⟨h0, pb, po, h1, (hb.cell (p := ⟨_, 0, none⟩) h0).trans h2, fun k hk => (hb.cell (p := ⟨pb, _, none⟩) h1).trans (h3 k hk)⟩

theorem f32vis : ∀ k, k < 11 → f32tab.getD k 0 < Ieee.single.infRung ∧ Vis Ieee.single (f32tab.getD k 0) (10 ^ k) 1 := by decide +kernel

def Ex32Post (M : Nat) (p : Int) (neg : Bool) (w : World) (e : Ending) (w' : World) : Prop :=
  ∃ x ok, e = .returned (.tuple #[.float .f32 x, .bool ok]) ∧ w' = w ∧ (ok = true → ExOk Ieee.single 149 M p neg x)

set_option maxRecDepth 100000 in
theorem exact32_walk (M : Nat) (p : Int) (neg : Bool) (w : World) (B : Nat) (hi : InfoAt w 8 B 23 8 (-127)) (hp : F32At w B) (hM0 : 0 < M) :
    Calls Tryz.prog 171 #[.int .u64 M, .int .i64 p, .bool neg] w (Ex32Post M p neg w) := by
  obtain ⟨h0, i0, i1, i2⟩ := hi
  obtain ⟨t0, pb, po, t1, t2, t3⟩ := hp
  have H3 := Lib.hid t3
  clear t3 i1 i2
  by_cases hM : M < 8388608
  · have hd : ((M : Int) / 8388608 != 0) = false := by
      have : (M : Int) / 8388608 = 0 := Int.ediv_eq_zero_of_lt (by omega) (by omega)
      rw [this]; rfl
    obtain ⟨r0, hr0, hv0, hn0⟩ := nearest_vis fit32 (n := M) false hM0 (show M < 2 * 8388608 by omega)
    have hfo : floatOfInt .f32 (M : Int) = Ieee.single.word false r0 := by
      rw [← hn0]; unfold floatOfInt FloatKind.nearest FloatKind.encode; rw [decide_eq_false (by omega)]; rfl
    obtain ⟨z, hz⟩ : ∃ z, Ieee.single.word neg r0 = z := ⟨_, rfl⟩
    have AS : Hid (0 < M ∧ M < 8388608 ∧ r0 < Ieee.single.infRung ∧ Vis Ieee.single r0 M 1 ∧ floatOfInt .f32 (M : Int) = Ieee.single.word false r0 ∧ Ieee.single.word neg r0 = z) := ⟨hM0, hM, hr0, hv0, hfo, hz⟩
    clear hr0 hv0 hn0 hz hfo hM hM0
    go_enter Tryz.func171, Tryz.ntmps171
    go_upto_if 13 with (fail)
    go_cut [6] (fun f wd => f = .float .f32 z ∧ wd = w)
    case first =>
      go_wp2_with fail
      · rename_i hneg
        go_meet
        refine ⟨congrArg (Value.float .f32) ?_, rfl⟩
        have h := AS.out; rw [hneg] at h
        rw [← h.2.2.2.2.2, h.2.2.2.2.1]
        exact neg_word h.2.2.1
      · rename_i hneg
        go_meet
        exact ⟨congrArg (Value.float .f32) (by have h := AS.out; rw [hneg] at h; exact h.2.2.2.2.1.trans h.2.2.2.2.2), rfl⟩
    case rest =>
      obtain ⟨rfl, rfl⟩ := hcut
      by_cases hp0 : p = 0
      · subst hp0
        go_wp2_with fail
        go_ret2
        obtain ⟨a1, a2, a3, a4, a5, a6⟩ := AS.out
        exact ⟨_, _, rfl, rfl, fun _ => ⟨r0, a3, a6.symm, by show RN _ _ (M * 10 ^ 0) (10 ^ 0) r0; rw [Nat.pow_zero, Nat.mul_one]; exact a4.rn fit32 (by omega)⟩⟩
      · have hpb : (p == 0) = false := by rw [beq_eq_false_iff_ne]; exact hp0
        clear hp0
        by_cases hp1 : 0 < p
        · by_cases hp2 : p ≤ 17
          · by_cases hp3 : 10 < p
            · have hc := H3.out (p - 10).toNat (by omega)
              have hc2 := H3.out (10 : Int).toNat (by decide)
              obtain ⟨a1, a2, a3, a4, a5, a6⟩ := AS.out
              obtain ⟨b1, b2⟩ := f32vis (p - 10).toNat (by omega)
              obtain ⟨c1, c2⟩ := f32vis 10 (by decide)
              obtain ⟨d1, d2⟩ := f32vis 7 (by decide)
              have hN1 : M * 10 ^ (p - 10).toNat ≤ 2 ^ 47 := by
                have e1 : 10 ^ (p - 10).toNat ≤ 10 ^ 7 := Nat.pow_le_pow_right (by omega) (by omega)
                have e2 : 8388608 * 10 ^ 7 ≤ 2 ^ 47 := by decide
                exact Nat.le_trans (Nat.mul_le_mul (Nat.le_of_lt a2) e1) e2
              obtain ⟨r1, e1, e2, e3⟩ := ex_mul fit32 neg a1 a3 a4 b1 b2 hN1 (by decide)
              obtain ⟨c, hcc⟩ : ∃ c, f32tab.getD (p - 10).toNat 0 = c := ⟨_, rfl⟩
              obtain ⟨y, hy⟩ : ∃ y, Ieee.single.word neg r1 = y := ⟨_, rfl⟩
              have hm1 : ∀ t w, (binOp .mul t (.float .f32 z) (.float .f32 c)).run Tryz.prog w = .ok (.float .f32 y) w := fun t w => run_float_arith w .mul t .f32 z c y (by rw [← hcc, ← hy, ← a6]; exact e2)
              rw [hcc] at hc
              have hg : r1 ≤ f32tab.getD 7 0 → ∃ s, s < Ieee.single.infRung ∧ Ieee.single.mul y (f32tab.getD 10 0) = some (Ieee.single.word neg s) ∧ RN Ieee.single.binade (2 ^ (149 + 1)) (M * 10 ^ p.toNat) 1 s := by
                intro hle
                have hb := ex_bound fit32 (by decide +kernel) d2 e3 hle
                have hpos : 0 < M * 10 ^ (p - 10).toNat := Nat.mul_pos a1 (Nat.pow_pos (by omega))
                obtain ⟨g1, g2⟩ := ex_exact fit32 hpos (Nat.lt_of_le_of_lt hb (by decide +kernel)) e3
                have hN2 : M * 10 ^ (p - 10).toNat * 10 ^ 10 ≤ 2 ^ 60 := Nat.le_trans (Nat.mul_le_mul_right _ hb) (by decide +kernel)
                obtain ⟨s, s1, s2, s3⟩ := ex_mul fit32 neg hpos g1 g2 c1 c2 hN2 (by decide)
                refine ⟨s, s1, by rw [← hy]; exact s2, ?_⟩
                rw [Nat.mul_assoc, ← Nat.pow_add, show (p - 10).toNat + 10 = p.toNat by omega] at s3
                exact s3
              have hgt : ¬ r1 ≤ f32tab.getD 7 0 → (neg = false → Ieee.single.order y 1259902592 = some .gt) ∧ (neg = true → Ieee.single.order y 3407386240 = some .lt) := by
                intro hle
                have ho := order_gt fit32 e1 d1 (by omega)
                refine ⟨fun h => ?_, fun h => ?_⟩
                · rw [← hy, h]; exact ho.1
                · rw [← hy, h]; exact ho.2
              have HG := Lib.hid hg
              have HT := Lib.hid hgt
              obtain ⟨c22, hcc2⟩ : ∃ c, f32tab.getD 10 0 = c := ⟨_, rfl⟩
              have hc3 : wc.cell? ⟨pb, po + 10, none⟩ = some (.float .f32 c22) := by rw [← hcc2]; exact hc2
              have hcc2 := Lib.hid hcc2
              clear a1 a2 a3 a4 a5 a6 b1 b2 c1 c2 d1 d2 hN1 e1 e2 e3 hcc hy hg hgt hc2
              go_wp2_with fail
              · go_ret2
                exact ⟨_, _, rfl, rfl, fun h => by cases h⟩
              · go_ret2
                exact ⟨_, _, rfl, rfl, fun h => by cases h⟩
              · have hn1 : ¬ FloatKind.f32.format.order y 1259902592 = some Ordering.gt := by assumption
                have hn2 : ¬ FloatKind.f32.format.order y 3407386240 = some Ordering.lt := by
                  have h := (by assumption : (FloatKind.f32.format.order y 1259902592 == some Ordering.gt) = false ∧ (FloatKind.f32.format.order y 3407386240 == some Ordering.lt) = false)
                  intro e
                  rw [e] at h
                  exact absurd h.2 (by decide)
                have hle : r1 ≤ f32tab.getD 7 0 := by
                  refine Decidable.of_not_not fun hc => ?_
                  have h := HT.out hc
                  cases neg with
                  | false => exact hn1 (h.1 rfl)
                  | true => exact hn2 (h.2 rfl)
                obtain ⟨s, s1, s2, s3⟩ := HG.out hle
                obtain ⟨x, hx⟩ : ∃ x, Ieee.single.word neg s = x := ⟨_, rfl⟩
                have hm2 : ∀ t w, (binOp .mul t (.float .f32 y) (.float .f32 c22)).run Tryz.prog w = .ok (.float .f32 x) w := fun t w => run_float_arith w .mul t .f32 y _ x (by rw [← hx, ← hcc2.out]; exact s2)
                have HR : Hid (ExOk Ieee.single 149 M p neg x) := ⟨s, s1, hx.symm, by rw [show (-p).toNat = 0 by omega, Nat.pow_zero]; exact s3⟩
                clear s1 s2 s3 hx hle
                rw [hm2]
                go_wp2_with fail
                go_ret2
                exact ⟨_, _, rfl, rfl, fun _ => HR.out⟩
            · have hc := H3.out p.toNat (by omega)
              obtain ⟨a1, a2, a3, a4, a5, a6⟩ := AS.out
              obtain ⟨b1, b2⟩ := f32vis p.toNat (by omega)
              have hN1 : M * 10 ^ p.toNat ≤ 2 ^ 60 := by
                have e1 : 10 ^ p.toNat ≤ 10 ^ 10 := Nat.pow_le_pow_right (by omega) (by omega)
                have e2 : 8388608 * 10 ^ 10 ≤ 2 ^ 60 := by decide
                exact Nat.le_trans (Nat.mul_le_mul (Nat.le_of_lt a2) e1) e2
              obtain ⟨r1, e1, e2, e3⟩ := ex_mul fit32 neg a1 a3 a4 b1 b2 hN1 (by decide)
              obtain ⟨c, hcc⟩ : ∃ c, f32tab.getD p.toNat 0 = c := ⟨_, rfl⟩
              obtain ⟨y, hy⟩ : ∃ y, Ieee.single.word neg r1 = y := ⟨_, rfl⟩
              have hm1 : ∀ t w, (binOp .mul t (.float .f32 z) (.float .f32 c)).run Tryz.prog w = .ok (.float .f32 y) w := fun t w => run_float_arith w .mul t .f32 z c y (by rw [← hcc, ← hy, ← a6]; exact e2)
              rw [hcc] at hc
              have HR : Hid (ExOk Ieee.single 149 M p neg y) := ⟨r1, e1, hy.symm, by rw [show (-p).toNat = 0 by omega, Nat.pow_zero]; exact e3⟩
              clear a1 a2 a3 a4 a5 a6 b1 b2 hN1 e1 e2 e3 hcc hy
              go_wp2_with fail
              · go_ret2
                exact ⟨_, _, rfl, rfl, fun h => by cases h⟩
              · go_ret2
                exact ⟨_, _, rfl, rfl, fun h => by cases h⟩
              · go_ret2
                exact ⟨_, _, rfl, rfl, fun _ => HR.out⟩
          · go_wp2_with fail
            go_ret2
            exact ⟨_, _, rfl, rfl, fun h => by cases h⟩
        · have hp1' : p < 0 := by have := hpb; rw [beq_eq_false_iff_ne] at this; omega
          by_cases hp2 : -10 ≤ p
          · have hc := H3.out (-p).toNat (by omega)
            obtain ⟨a1, a2, a3, a4, a5, a6⟩ := AS.out
            obtain ⟨b1, b2⟩ := f32vis (-p).toNat (by omega)
            obtain ⟨r1, e1, e2, e3⟩ := ex_div (N := 24) fit32 neg a1 a3 a4 b1 b2 (Nat.le_trans (Nat.le_of_lt a2) (by decide)) (by decide)
            obtain ⟨c, hcc⟩ : ∃ c, f32tab.getD (-p).toNat 0 = c := ⟨_, rfl⟩
            obtain ⟨y, hy⟩ : ∃ y, Ieee.single.word neg r1 = y := ⟨_, rfl⟩
            have hm1 : ∀ t w, (binOp .quo t (.float .f32 z) (.float .f32 c)).run Tryz.prog w = .ok (.float .f32 y) w := fun t w => run_float_arith w .quo t .f32 z c y (by rw [← hcc, ← hy, ← a6]; exact e2)
            rw [hcc] at hc
            have HR : Hid (ExOk Ieee.single 149 M p neg y) := ⟨r1, e1, hy.symm, by rw [show p.toNat = 0 by omega, Nat.pow_zero, Nat.mul_one]; exact e3⟩
            clear a1 a2 a3 a4 a5 a6 b1 b2 e1 e2 e3 hcc hy
            go_wp2_with fail
            go_ret2
            exact ⟨_, _, rfl, rfl, fun _ => HR.out⟩
          · go_wp2_with fail
            go_ret2
            exact ⟨_, _, rfl, rfl, fun h => by cases h⟩
  · have hd : ((M : Int) / 8388608 != 0) = true := by
      have : ¬ (M : Int) / 8388608 = 0 := by omega
      simp [this]
    clear hM
    go_enter Tryz.func171, Tryz.ntmps171
    go_wp2_with fail
    go_ret2
    exact ⟨_, _, rfl, rfl, fun h => by cases h⟩
end Go.Proofs.YtnpinogjajhlhaaGreatDoor.Fl
end
