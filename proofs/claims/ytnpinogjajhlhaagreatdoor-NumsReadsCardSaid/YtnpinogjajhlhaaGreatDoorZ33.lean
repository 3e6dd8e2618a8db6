/- A part of the proof that lexiconlaw03.NumsReads answers true at every kind and every text: DwRf, DwFit. No condition. -/
import Derived.Test.YtnpinogjajhlhaaGreatDoorZ32
import Derived.Test.YtnpinogjajhlhaaGreatDoorZ29
section
/- readFloating, walked. -/
namespace Go.Proofs.YtnpinogjajhlhaaGreatDoor.Fl
open Go.RowKit

/-- What the reading of a floating number needs of the memory, below B. -/
structure FlAt (w : World) (B : Nat) : Prop where
  t64 : Tab64 w B
  t32 : Tab32 w B
  lib : LibAt w B

theorem FlAt.below {w w' : World} {B : Nat} (h : FlAt w B) (hb : Below B w w') : FlAt w' B := ⟨h.t64.below hb, h.t32.below hb, h.lib.below hb⟩

def NaNL : List UInt8 := [78, 97, 78]
def InfL : List UInt8 := [73, 110, 102, 105, 110, 105, 116, 121]
def MInfL : List UInt8 := [45, 73, 110, 102, 105, 110, 105, 116, 121]

/-- What a text is read as, a NUMBER's sign, digits and power of ten at hand: bits and an error. -/
def FlSpec (f : Ieee.Format) (Lo nan : Nat) (S : ByteArray) (neg : Bool) (V : Nat) (X : Int) (b : Nat) (err : Int) : Prop :=
  (S.toList = NaNL ∧ b = nan ∧ err = 0) ∨
  (S.toList ≠ NaNL ∧ S.toList = InfL ∧ b = f.infRung ∧ err = 0) ∨
  (S.toList ≠ NaNL ∧ S.toList ≠ InfL ∧ S.toList = MInfL ∧ b = f.signWeight + f.infRung ∧ err = 0) ∨
  (S.toList ≠ NaNL ∧ S.toList ≠ InfL ∧ S.toList ≠ MInfL ∧ (S.toList = [] ∨ numLen S ≠ S.size) ∧ b = 0 ∧ err = 30) ∨
  (S.toList ≠ NaNL ∧ S.toList ≠ InfL ∧ S.toList ≠ MInfL ∧ S.toList ≠ [] ∧ numLen S = S.size ∧
    ∃ r, RN f.binade (2 ^ (Lo + 1)) (vn V X) (vd X) r ∧ ((f.infRung ≤ r ∧ b = 0 ∧ err = 31) ∨ (r < f.infRung ∧ b = f.word neg r ∧ err = 0)))

theorem FlSpec.unique {f : Ieee.Format} {Lo nan : Nat} {S : ByteArray} {neg : Bool} {V : Nat} {X : Int} {b1 b2 : Nat} {e1 e2 : Int} (h1 : FlSpec f Lo nan S neg V X b1 e1) (h2 : FlSpec f Lo nan S neg V X b2 e2) : b1 = b2 ∧ e1 = e2 := by
  rcases h1 with ⟨a1, a2, a3⟩ | ⟨a1, a2, a3, a4⟩ | ⟨a1, a2, a3, a4, a5⟩ | ⟨a1, a2, a3, a4, a5, a6⟩ | ⟨a1, a2, a3, a4, a5, r, a6, a7⟩ <;>
  rcases h2 with ⟨c1, c2, c3⟩ | ⟨c1, c2, c3, c4⟩ | ⟨c1, c2, c3, c4, c5⟩ | ⟨c1, c2, c3, c4, c5, c6⟩ | ⟨c1, c2, c3, c4, c5, s, c6, c7⟩
  all_goals first
    | (exact ⟨by omega, by omega⟩)
    | (exact absurd ‹S.toList = NaNL› ‹S.toList ≠ NaNL›)
    | (exact absurd ‹S.toList = InfL› ‹S.toList ≠ InfL›)
    | (exact absurd ‹S.toList = MInfL› ‹S.toList ≠ MInfL›)
    | (rcases a4 with h | h; exact absurd h c4; exact absurd c5 h)
    | (rcases c4 with h | h; exact absurd h a4; exact absurd a5 h)
    | skip
  have e : r = s := a6.unique (binade_pos f) (vd_pos _) (vd_pos _) c6 rfl
  subst e
  rcases a7 with ⟨x1, x2, x3⟩ | ⟨x1, x2, x3⟩ <;> rcases c7 with ⟨y1, y2, y3⟩ | ⟨y1, y2, y3⟩
  · exact ⟨by rw [x2, y2], by rw [x3, y3]⟩
  · omega
  · omega
  · exact ⟨by rw [x2, y2], by rw [x3, y3]⟩

def RfPost (f : Ieee.Format) (Lo nan : Nat) (S : ByteArray) (neg : Bool) (V : Nat) (X : Int) (B : Nat) (w : World) (e : Ending) (w' : World) : Prop :=
  ∃ (b : Nat) (err : Int), FlSpec f Lo nan S neg V X b err ∧ e = .returned (.tuple #[.int .u64 b, .int .i64 err]) ∧ Below B w w'

theorem inf1_walk (w : World) : Calls Tryz.prog 48 #[.int .i64 1] w (fun e w' => e = .returned (.float .f64 9218868437227405312) ∧ w' = w) := by
  have h := fun w => mfrom64 9218868437227405312 w
  go_enter Tryz.func48, Tryz.ntmps48
  go_wp2_with fail
  go_ret
  exact ⟨rfl, rfl⟩

theorem inf2_walk (w : World) : Calls Tryz.prog 48 #[.int .i64 (-1)] w (fun e w' => e = .returned (.float .f64 18442240474082181120) ∧ w' = w) := by
  have h := fun w => mfrom64 18442240474082181120 w
  go_enter Tryz.func48, Tryz.ntmps48
  go_wp2_with fail
  go_ret
  exact ⟨rfl, rfl⟩

/-- The number's part: ParseFloat of leading's text. -/
theorem num64_walk (S T : ByteArray) {neg : Bool} {ds : List UInt8} {pt : Bool} {fs : List UInt8} {hx : Bool} {c : UInt8} {sg es : List UInt8} (hN : NumL S.data.toList neg ds pt fs hx c sg es) (hb : S.size ≤ 67108864)
    (hT : T.data.toList = leadL neg (leadD ds fs) (leadP ds fs hx sg es)) (w : World) (B : Nat) (hB : B ≤ w.heap.size) (hF : FlAt w B) :
    Calls Tryz.prog 49 #[.string T, .int .i64 64] w (fun e w' => ∃ r x er, RN Ieee.double.binade (2 ^ (1074 + 1)) (vn (valV ds fs) (valX fs hx sg es)) (vd (valX fs hx sg es)) r ∧
      e = .returned (.tuple #[.float .f64 x, er]) ∧ ((Ieee.double.infRung ≤ r ∧ ∃ t v, er = .iface t v) ∨ (r < Ieee.double.infRung ∧ er = .nilIface ∧ x = Ieee.double.word neg r)) ∧ Below B w w') := by
  have hlen : ds.length + fs.length ≤ 67108864 := by
    have h1 : S.data.toList.length = S.size := (size_list S).symm
    rw [hN.eq] at h1
    simp only [List.length_append] at h1
    by_cases hp : pt = true
    · rw [if_pos hp] at h1; simp only [List.length_cons] at h1; omega
    · rw [hN.fs0 (by simpa using hp)]; simp; omega
  have hD := leadD_allD hN.dsd hN.fsd
  have hDl := leadD_len hN.ds0 fs
  have hTs : T.size ≤ 281474976710656 := by
    rw [size_list, hT]; unfold leadL
    have hi := itoa_len (P := leadP ds fs hx sg es) (by unfold leadP cx; split <;> omega) (by unfold leadP cx; split <;> omega)
    have e1 : (if neg = true then [(45 : UInt8)] else []).length ≤ 1 := by cases neg <;> simp
    simp only [List.length_append, List.length_cons, List.length_take, List.length_drop]; omega
  have htx := txt_of T neg _ _ hT hD hDl.2 (by omega)
  obtain ⟨z1, z2, z3⟩ := leadD_size hN.dsd hN.fsd
  have hp := parse64_walk T neg _ _ _ _ _ w htx (fun h => leadD_first h hD) hTs B hB hF.t64 hF.lib.errs.range
  refine hp.mono ?_
  rintro e w' ⟨rc, er, h1, rfl, h3, h4⟩
  rw [z3] at h1
  obtain ⟨r, hr, hrr⟩ := rd_near (k := 1024) (T1 := 1000) (T2 := 500) fit64 hDl.2 z1 z2 (lead_near hN.ds0 hlen) (by decide) (by decide) pow10_1000 pow10_500 inf64 h1
  rw [ve_val] at hr
  refine ⟨r, _, er, hr, rfl, ?_, h4⟩
  rcases h3 with ⟨h5, h6⟩ | ⟨h5, h6⟩
  · exact Or.inl ⟨by rcases hrr with ⟨_, h⟩ | rfl <;> assumption, h6⟩
  · rcases hrr with ⟨h7, _⟩ | rfl
    · omega
    · exact Or.inr ⟨h5, h6, by rw [Nat.min_eq_left (Nat.le_of_lt h5)]⟩

set_option maxRecDepth 100000 in
theorem rf64_walk (S : ByteArray) {neg : Bool} {ds : List UInt8} {pt : Bool} {fs : List UInt8} {hx : Bool} {c : UInt8} {sg es : List UInt8} (hN : S.toList ≠ [] → numLen S = S.size → NumL S.data.toList neg ds pt fs hx c sg es) (hb : S.size ≤ 67108864)
    (w : World) (B : Nat) (hB : B ≤ w.heap.size) (hF : FlAt w B) :
    Calls Tryz.prog 18 #[.string S, .int .i64 64] w (RfPost Ieee.double 1074 9221120237041090560 S neg (valV ds fs) (valX fs hx sg es) B w) := by
  have HN := Lib.hid hN
  have HF := Lib.hid hF
  have HNUM := Lib.hid (pnum_walk S (by omega) w)
  clear hN hF
  by_cases c1 : S.toList = NaNL
  · have b1 : (S.toList == [78, 97, 78]) = true := by rw [beq_iff_eq]; exact c1
    have H1 := Lib.hid c1
    clear c1
    go_enter Tryz.func18, Tryz.ntmps18
    go_wp2_with fail
    go_ret2
    exact ⟨9221120237041090560, 0, Or.inl ⟨H1.out, rfl, rfl⟩, rfl, Below.refl _ _⟩
  · have b1 : (S.toList == [78, 97, 78]) = false := by rw [beq_eq_false_iff_ne]; exact c1
    have H1 := Lib.hid c1
    clear c1
    by_cases c2 : S.toList = InfL
    · have b2 : (S.toList == [73, 110, 102, 105, 110, 105, 116, 121]) = true := by rw [beq_iff_eq]; exact c2
      have H2 := Lib.hid c2
      have hbt := fun w => mbits64 9218868437227405312 w
      clear c2
      go_enter Tryz.func18, Tryz.ntmps18
      go_wp2_with fail
      refine (inf1_walk _).mono ?_
      rintro e w' ⟨rfl, rfl⟩
      go_wp2_with fail
      go_ret2
      exact ⟨9218868437227405312, 0, Or.inr (Or.inl ⟨H1.out, H2.out, consts64.2.1.symm, rfl⟩), rfl, Below.refl _ _⟩
    · have b2 : (S.toList == [73, 110, 102, 105, 110, 105, 116, 121]) = false := by rw [beq_eq_false_iff_ne]; exact c2
      have H2 := Lib.hid c2
      clear c2
      by_cases c3 : S.toList = MInfL
      · have b3 : (S.toList == [45, 73, 110, 102, 105, 110, 105, 116, 121]) = true := by rw [beq_iff_eq]; exact c3
        have H3 := Lib.hid c3
        have hbt := fun w => mbits64 18442240474082181120 w
        clear c3
        go_enter Tryz.func18, Tryz.ntmps18
        go_wp2_with fail
        refine (inf2_walk _).mono ?_
        rintro e w' ⟨rfl, rfl⟩
        go_wp2_with fail
        go_ret2
        exact ⟨18442240474082181120, 0, Or.inr (Or.inr (Or.inl ⟨H1.out, H2.out, H3.out, by rw [consts64.2.1, consts64.2.2], rfl⟩)), rfl, Below.refl _ _⟩
      · have b3 : (S.toList == [45, 73, 110, 102, 105, 110, 105, 116, 121]) = false := by rw [beq_eq_false_iff_ne]; exact c3
        have H3 := Lib.hid c3
        clear c3
        by_cases c4 : S.toList = []
        · have H4 := Lib.hid c4
          have b4 : S.toList.isEmpty = true := by rw [c4]; rfl
          clear c4
          go_enter Tryz.func18, Tryz.ntmps18
          go_wp2_with fail
          go_ret2
          exact ⟨0, 30, Or.inr (Or.inr (Or.inr (Or.inl ⟨H1.out, H2.out, H3.out, Or.inl H4.out, rfl, rfl⟩))), rfl, Below.refl _ _⟩
        · have H4 := Lib.hid c4
          have b4 : S.toList.isEmpty = false := by
            cases h : S.toList with
            | nil => exact absurd h c4
            | cons a l => rfl
          clear c4
          go_enter Tryz.func18, Tryz.ntmps18
          go_wp2_with fail
          refine HNUM.out.mono ?_
          rintro e w' ⟨rfl, rfl⟩
          by_cases hnum : numLen S = S.size
          · have hq : (((numLen S : Nat) : Int) != (S.size : Int)) = false := by rw [hnum]; simp
            have hsh := HN.out H4.out hnum
            have HS := Lib.hid hsh
            have HE := Lib.hid hnum
            have hld := lead_walk S hsh hb w' B hB HF.out.lib
            have HLD := Lib.hid hld
            clear hnum hsh hld
            go_wp2_with fail
            refine HLD.out.mono ?_
            rintro e w2 ⟨T, rfl, hT, hb2⟩
            have hpf := num64_walk S T HS.out hb hT w2 B (Nat.le_trans hB hb2.size) (HF.out.below hb2)
            have HPF := Lib.hid hpf
            have HB2 := Lib.hid hb2
            clear hT hpf hb2
            go_wp2_with fail
            refine HPF.out.mono ?_
            rintro e w3 ⟨r, x, er, hr, rfl, hcase, hb3⟩
            have hbb := HB2.out.trans hb3
            clear hb3
            rcases hcase with ⟨h5, t, v, rfl⟩ | ⟨h5, rfl, hxx⟩
            · have HR : Hid (RN Ieee.double.binade (2 ^ (1074 + 1)) (vn (valV ds fs) (valX fs hx sg es)) (vd (valX fs hx sg es)) r ∧ Ieee.double.infRung ≤ r) := ⟨hr, h5⟩
              clear hr h5
              go_wp2_with fail
              go_ret2
              exact ⟨0, 31, Or.inr (Or.inr (Or.inr (Or.inr ⟨H1.out, H2.out, H3.out, H4.out, HE.out, r, HR.out.1, Or.inl ⟨HR.out.2, rfl, rfl⟩⟩))), rfl, hbb⟩
            · have HR : Hid (RN Ieee.double.binade (2 ^ (1074 + 1)) (vn (valV ds fs) (valX fs hx sg es)) (vd (valX fs hx sg es)) r ∧ r < Ieee.double.infRung ∧ x = Ieee.double.word neg r) := ⟨hr, h5, hxx⟩
              have hbt := fun w => mbits64 x w
              clear hr h5 hxx
              go_wp2_with fail
              go_ret2
              exact ⟨x, 0, Or.inr (Or.inr (Or.inr (Or.inr ⟨H1.out, H2.out, H3.out, H4.out, HE.out, r, HR.out.1, Or.inr ⟨HR.out.2.1, HR.out.2.2, rfl⟩⟩))), rfl, hbb⟩
          · have hq : (((numLen S : Nat) : Int) != (S.size : Int)) = true := by simp; exact_mod_cast hnum
            have HE := Lib.hid hnum
            clear hnum
            go_wp2_with fail
            go_ret2
            exact ⟨0, 30, Or.inr (Or.inr (Or.inr (Or.inl ⟨H1.out, H2.out, H3.out, Or.inr HE.out, rfl, rfl⟩))), rfl, Below.refl _ _⟩
/-- The number's part: ParseFloat of leading's text. -/
theorem num32_walk (S T : ByteArray) {neg : Bool} {ds : List UInt8} {pt : Bool} {fs : List UInt8} {hx : Bool} {c : UInt8} {sg es : List UInt8} (hN : NumL S.data.toList neg ds pt fs hx c sg es) (hb : S.size ≤ 67108864)
    (hT : T.data.toList = leadL neg (leadD ds fs) (leadP ds fs hx sg es)) (w : World) (B : Nat) (hB : B ≤ w.heap.size) (hF : FlAt w B) :
    Calls Tryz.prog 49 #[.string T, .int .i64 32] w (fun e w' => ∃ r x er, RN Ieee.single.binade (2 ^ (149 + 1)) (vn (valV ds fs) (valX fs hx sg es)) (vd (valX fs hx sg es)) r ∧
      e = .returned (.tuple #[.float .f64 x, er]) ∧ ((Ieee.single.infRung ≤ r ∧ ∃ t v, er = .iface t v) ∨ (r < Ieee.single.infRung ∧ er = .nilIface ∧ floatToFloatBits .f64 x .f32 = some (Ieee.single.word neg r))) ∧ Below B w w') := by
  have hlen : ds.length + fs.length ≤ 67108864 := by
    have h1 : S.data.toList.length = S.size := (size_list S).symm
    rw [hN.eq] at h1
    simp only [List.length_append] at h1
    by_cases hp : pt = true
    · rw [if_pos hp] at h1; simp only [List.length_cons] at h1; omega
    · rw [hN.fs0 (by simpa using hp)]; simp; omega
  have hD := leadD_allD hN.dsd hN.fsd
  have hDl := leadD_len hN.ds0 fs
  have hTs : T.size ≤ 281474976710656 := by
    rw [size_list, hT]; unfold leadL
    have hi := itoa_len (P := leadP ds fs hx sg es) (by unfold leadP cx; split <;> omega) (by unfold leadP cx; split <;> omega)
    have e1 : (if neg = true then [(45 : UInt8)] else []).length ≤ 1 := by cases neg <;> simp
    simp only [List.length_append, List.length_cons, List.length_take, List.length_drop]; omega
  have htx := txt_of T neg _ _ hT hD hDl.2 (by omega)
  obtain ⟨z1, z2, z3⟩ := leadD_size hN.dsd hN.fsd
  have hp := parse32_walk T neg _ _ _ _ _ w htx (fun h => leadD_first h hD) hTs B hB hF.t32 hF.lib.errs.range
  refine hp.mono ?_
  rintro e w' ⟨rc, y, er, h1, rfl, h3, h4⟩
  rw [z3] at h1
  obtain ⟨r, hr, hrr⟩ := rd_near (k := 128) (T1 := 1000) (T2 := 500) fit32 hDl.2 z1 z2 (lead_near hN.ds0 hlen) (by decide) (by decide) pow10_1000' pow10_500' inf32 h1
  rw [ve_val] at hr
  refine ⟨r, _, er, hr, rfl, ?_, h4⟩
  rcases h3 with ⟨h5, h6⟩ | ⟨h5, h6, h8⟩
  · exact Or.inl ⟨by rcases hrr with ⟨_, h⟩ | rfl <;> assumption, h6⟩
  · rcases hrr with ⟨h7, _⟩ | rfl
    · omega
    · exact Or.inr ⟨h5, h6, h8⟩

set_option maxRecDepth 100000 in
theorem rf32_walk (S : ByteArray) {neg : Bool} {ds : List UInt8} {pt : Bool} {fs : List UInt8} {hx : Bool} {c : UInt8} {sg es : List UInt8} (hN : S.toList ≠ [] → numLen S = S.size → NumL S.data.toList neg ds pt fs hx c sg es) (hb : S.size ≤ 67108864)
    (w : World) (B : Nat) (hB : B ≤ w.heap.size) (hF : FlAt w B) :
    Calls Tryz.prog 18 #[.string S, .int .i64 32] w (RfPost Ieee.single 149 2143289344 S neg (valV ds fs) (valX fs hx sg es) B w) := by
  have HN := Lib.hid hN
  have HF := Lib.hid hF
  have HNUM := Lib.hid (pnum_walk S (by omega) w)
  clear hN hF
  by_cases c1 : S.toList = NaNL
  · have b1 : (S.toList == [78, 97, 78]) = true := by rw [beq_iff_eq]; exact c1
    have H1 := Lib.hid c1
    clear c1
    go_enter Tryz.func18, Tryz.ntmps18
    go_wp2_with fail
    go_ret2
    exact ⟨2143289344, 0, Or.inl ⟨H1.out, rfl, rfl⟩, rfl, Below.refl _ _⟩
  · have b1 : (S.toList == [78, 97, 78]) = false := by rw [beq_eq_false_iff_ne]; exact c1
    have H1 := Lib.hid c1
    clear c1
    by_cases c2 : S.toList = InfL
    · have b2 : (S.toList == [73, 110, 102, 105, 110, 105, 116, 121]) = true := by rw [beq_iff_eq]; exact c2
      have H2 := Lib.hid c2
      have hcv : ∀ w, (convert 58 59 (.float .f64 9218868437227405312)).run Tryz.prog w = .ok (.float .f32 2139095040) w := fun w => run_convert_float_float w 58 59 .f64 .f32 _ _ (by kernel_rfl) (by kernel_rfl) (by decide +kernel)
      have hbt := fun w => mbits32 2139095040 w
      clear c2
      go_enter Tryz.func18, Tryz.ntmps18
      go_wp2_with fail
      refine (inf1_walk _).mono ?_
      rintro e w' ⟨rfl, rfl⟩
      go_wp2_with fail
      go_ret2
      exact ⟨2139095040, 0, Or.inr (Or.inl ⟨H1.out, H2.out, consts32.2.1.symm, rfl⟩), rfl, Below.refl _ _⟩
    · have b2 : (S.toList == [73, 110, 102, 105, 110, 105, 116, 121]) = false := by rw [beq_eq_false_iff_ne]; exact c2
      have H2 := Lib.hid c2
      clear c2
      by_cases c3 : S.toList = MInfL
      · have b3 : (S.toList == [45, 73, 110, 102, 105, 110, 105, 116, 121]) = true := by rw [beq_iff_eq]; exact c3
        have H3 := Lib.hid c3
        have hcv : ∀ w, (convert 58 59 (.float .f64 18442240474082181120)).run Tryz.prog w = .ok (.float .f32 4286578688) w := fun w => run_convert_float_float w 58 59 .f64 .f32 _ _ (by kernel_rfl) (by kernel_rfl) (by decide +kernel)
        have hbt := fun w => mbits32 4286578688 w
        clear c3
        go_enter Tryz.func18, Tryz.ntmps18
        go_wp2_with fail
        refine (inf2_walk _).mono ?_
        rintro e w' ⟨rfl, rfl⟩
        go_wp2_with fail
        go_ret2
        exact ⟨4286578688, 0, Or.inr (Or.inr (Or.inl ⟨H1.out, H2.out, H3.out, by rw [consts32.2.1, consts32.2.2], rfl⟩)), rfl, Below.refl _ _⟩
      · have b3 : (S.toList == [45, 73, 110, 102, 105, 110, 105, 116, 121]) = false := by rw [beq_eq_false_iff_ne]; exact c3
        have H3 := Lib.hid c3
        clear c3
        by_cases c4 : S.toList = []
        · have H4 := Lib.hid c4
          have b4 : S.toList.isEmpty = true := by rw [c4]; rfl
          clear c4
          go_enter Tryz.func18, Tryz.ntmps18
          go_wp2_with fail
          go_ret2
          exact ⟨0, 30, Or.inr (Or.inr (Or.inr (Or.inl ⟨H1.out, H2.out, H3.out, Or.inl H4.out, rfl, rfl⟩))), rfl, Below.refl _ _⟩
        · have H4 := Lib.hid c4
          have b4 : S.toList.isEmpty = false := by
            cases h : S.toList with
            | nil => exact absurd h c4
            | cons a l => rfl
          clear c4
          go_enter Tryz.func18, Tryz.ntmps18
          go_wp2_with fail
          refine HNUM.out.mono ?_
          rintro e w' ⟨rfl, rfl⟩
          by_cases hnum : numLen S = S.size
          · have hq : (((numLen S : Nat) : Int) != (S.size : Int)) = false := by rw [hnum]; simp
            have hsh := HN.out H4.out hnum
            have HS := Lib.hid hsh
            have HE := Lib.hid hnum
            have hld := lead_walk S hsh hb w' B hB HF.out.lib
            have HLD := Lib.hid hld
            clear hnum hsh hld
            go_wp2_with fail
            refine HLD.out.mono ?_
            rintro e w2 ⟨T, rfl, hT, hb2⟩
            have hpf := num32_walk S T HS.out hb hT w2 B (Nat.le_trans hB hb2.size) (HF.out.below hb2)
            have HPF := Lib.hid hpf
            have HB2 := Lib.hid hb2
            clear hT hpf hb2
            go_wp2_with fail
            refine HPF.out.mono ?_
            rintro e w3 ⟨r, x, er, hr, rfl, hcase, hb3⟩
            have hbb := HB2.out.trans hb3
            clear hb3
            rcases hcase with ⟨h5, t, v, rfl⟩ | ⟨h5, rfl, hxx⟩
            · have HR : Hid (RN Ieee.single.binade (2 ^ (149 + 1)) (vn (valV ds fs) (valX fs hx sg es)) (vd (valX fs hx sg es)) r ∧ Ieee.single.infRung ≤ r) := ⟨hr, h5⟩
              clear hr h5
              go_wp2_with fail
              go_ret2
              exact ⟨0, 31, Or.inr (Or.inr (Or.inr (Or.inr ⟨H1.out, H2.out, H3.out, H4.out, HE.out, r, HR.out.1, Or.inl ⟨HR.out.2, rfl, rfl⟩⟩))), rfl, hbb⟩
            · have HR : Hid (RN Ieee.single.binade (2 ^ (149 + 1)) (vn (valV ds fs) (valX fs hx sg es)) (vd (valX fs hx sg es)) r ∧ r < Ieee.single.infRung) := ⟨hr, h5⟩
              obtain ⟨y, hy⟩ : ∃ y, Ieee.single.word neg r = y := ⟨_, rfl⟩
              rw [hy] at hxx
              have hcv : ∀ w, (convert 58 59 (.float .f64 x)).run Tryz.prog w = .ok (.float .f32 y) w := fun w => run_convert_float_float w 58 59 .f64 .f32 _ _ (by kernel_rfl) (by kernel_rfl) hxx
              have hyl : (y : Int) < 4294967296 := by
                have h1 := consts32.2.1
                have h2 := consts32.2.2
                rw [← hy]; unfold Ieee.Format.word; rw [h2]; rw [h1] at h5; split <;> omega
              have HY := Lib.hid hy
              have hbt := fun w => mbits32 y w
              clear hr h5 hxx hy
              go_wp2_with fail
              go_ret2
              exact ⟨y, 0, Or.inr (Or.inr (Or.inr (Or.inr ⟨H1.out, H2.out, H3.out, H4.out, HE.out, r, HR.out.1, Or.inr ⟨HR.out.2, HY.out.symm, rfl⟩⟩))), rfl, hbb⟩
          · have hq : (((numLen S : Nat) : Int) != (S.size : Int)) = true := by simp; exact_mod_cast hnum
            have HE := Lib.hid hnum
            clear hnum
            go_wp2_with fail
            go_ret2
            exact ⟨0, 30, Or.inr (Or.inr (Or.inr (Or.inl ⟨H1.out, H2.out, H3.out, Or.inr HE.out, rfl, rfl⟩))), rfl, Below.refl _ _⟩
end Go.Proofs.YtnpinogjajhlhaaGreatDoor.Fl
end
section
/- sortOf, Fits, fit, walked. -/
namespace Go.Proofs.YtnpinogjajhlhaaGreatDoor.Fl
open Go.RowKit

/-- What a kind's numbers are: 0 none, 1 truth, 2 and 3 signed, 4 and 5 unsigned, 6 and 7 floating. -/
def sortK (k : Int) : Int :=
  if k = 8 then 1 else if k = 5 ∨ k = 17 ∨ k = 15 ∨ k = 14 then 2 else if k = 3 ∨ k = 18 ∨ k = 16 then 3 else if k = 13 ∨ k = 7 then 4 else if k = 4 ∨ k = 6 then 5 else if k = 2 then 6 else if k = 1 then 7 else 0

set_option maxRecDepth 100000 in
theorem sort_walk (k : Int) (w : World) : Calls Tryz.prog 17 #[.int .u8 k] w (IntEndU .i64 (sortK k) w) := by
  by_cases h : k = 8 ∨ k = 5 ∨ k = 17 ∨ k = 15 ∨ k = 14 ∨ k = 3 ∨ k = 18 ∨ k = 16 ∨ k = 13 ∨ k = 7 ∨ k = 4 ∨ k = 6 ∨ k = 2 ∨ k = 1
  · rcases h with rfl | rfl | rfl | rfl | rfl | rfl | rfl | rfl | rfl | rfl | rfl | rfl | rfl | rfl <;>
      (go_enter Tryz.func17, Tryz.ntmps17
       go_wp2_with fail
       go_ret
       exact ⟨rfl, rfl⟩)
  · have b1 : (k == 8) = false := by rw [beq_eq_false_iff_ne]; omega
    have b2 : (k == 5) = false := by rw [beq_eq_false_iff_ne]; omega
    have b3 : (k == 17) = false := by rw [beq_eq_false_iff_ne]; omega
    have b4 : (k == 15) = false := by rw [beq_eq_false_iff_ne]; omega
    have b5 : (k == 14) = false := by rw [beq_eq_false_iff_ne]; omega
    have b6 : (k == 3) = false := by rw [beq_eq_false_iff_ne]; omega
    have b7 : (k == 18) = false := by rw [beq_eq_false_iff_ne]; omega
    have b8 : (k == 16) = false := by rw [beq_eq_false_iff_ne]; omega
    have b9 : (k == 13) = false := by rw [beq_eq_false_iff_ne]; omega
    have b10 : (k == 7) = false := by rw [beq_eq_false_iff_ne]; omega
    have b11 : (k == 4) = false := by rw [beq_eq_false_iff_ne]; omega
    have b12 : (k == 6) = false := by rw [beq_eq_false_iff_ne]; omega
    have b13 : (k == 2) = false := by rw [beq_eq_false_iff_ne]; omega
    have b14 : (k == 1) = false := by rw [beq_eq_false_iff_ne]; omega
    have HE : Hid (sortK k = 0) := Lib.hid (by unfold sortK; repeat (rw [if_neg (by omega)]))
    clear h
    go_enter Tryz.func17, Tryz.ntmps17
    go_wp2_with fail
    all_goals
      go_ret
      exact ⟨by rw [HE.out]; rfl, rfl⟩

/-- Are bits a number of the kind? -/
def fitsS (s : Int) (n : Nat) : Bool :=
  if s = 0 then false else if s = 1 then decide (n ≤ 1) else if s = 2 then decide (n < 2147483648 ∨ 18446744071562067968 ≤ n) else if s = 4 ∨ s = 6 then decide (n < 4294967296) else true

theorem sortK_cases (k : Int) : sortK k = 0 ∨ sortK k = 1 ∨ sortK k = 2 ∨ sortK k = 3 ∨ sortK k = 4 ∨ sortK k = 5 ∨ sortK k = 6 ∨ sortK k = 7 := by
  unfold sortK
  repeat (split; · omega)
  omega

theorem fits_s32 (n : Nat) (hn : n < 18446744073709551616) : (wrap64 (n : Int) == wrap64 (wrap32 (n : Int))) = decide (n < 2147483648 ∨ 18446744071562067968 ≤ n) := by
  by_cases h : n < 2147483648 ∨ 18446744071562067968 ≤ n
  · rw [decide_eq_true h, beq_iff_eq]; unfold wrap64 wrap32; omega
  · rw [decide_eq_false h, beq_eq_false_iff_ne]; unfold wrap64 wrap32; omega

set_option maxRecDepth 100000 in
theorem fits_walk (k : Int) (n : Nat) (hn : n < 18446744073709551616) (w : World) : Calls Tryz.prog 15 #[.int .u8 k, .int .u64 n] w (BoolEndR (fitsS (sortK k) n) w) := by
  have HS := Lib.hid (sort_walk k)
  have HN := Lib.hid hn
  clear hn
  rcases sortK_cases k with h | h | h | h | h | h | h | h <;>
    (rw [h] at HS ⊢
     clear h
     go_enter Tryz.func15, Tryz.ntmps15
     go_wp2_with fail
     refine (HS.out _).mono ?_
     rintro e w' ⟨rfl, rfl⟩
     go_wp2_with fail
     go_ret
     refine ⟨congrArg (fun b => Ending.returned (.bool b)) ?_, rfl⟩)
  · rfl
  · show decide ((n : Int) ≤ 1) = decide (n ≤ 1)
    exact decide_eq_decide.2 (by omega)
  · exact fits_s32 n HN.out
  · rfl
  · trace_state
    show decide ((n : Int) ≤ 4294967295) = decide (n < 4294967296)
    exact decide_eq_decide.2 (by omega)
  · rfl
  · show decide ((n : Int) ≤ 4294967295) = decide (n < 4294967296)
    exact decide_eq_decide.2 (by omega)
  · rfl
end Go.Proofs.YtnpinogjajhlhaaGreatDoor.Fl
end
