/- A part of the proof that lexiconlaw03.NumsReads answers true at every kind and every text: DwParse, Nl, Nb. No condition. -/
import Derived.Test.YtnpinogjajhlhaaGreatDoorZ21
import Derived.Test.YtnpinogjajhlhaaGreatDoorZ24
import Derived.Test.YtnpinogjajhlhaaGreatDoorZ25
import Derived.Test.YtnpinogjajhlhaaGreatDoorZ08
import Derived.Lib.AtoiAll
import Derived.Lib.AtoiAllCases
import Derived.Lib.ParseIntBCases
import Derived.Lib.ItoaNum
section
/- strconv.ParseFloat, walked at a number's text. -/
namespace Go.Proofs.YtnpinogjajhlhaaGreatDoor.Fl
open Go.RowKit

def RangeAt (w : World) (B : Nat) : Prop := 4 < B ∧ ∃ te pe, w.cell? ⟨4, 0, none⟩ = some (.iface te pe)

theorem RangeAt.below {w w' : World} {B : Nat} (h : RangeAt w B) (hb : Below B w w') : RangeAt w' B := by
  obtain ⟨h0, te, pe, h1⟩ := h
  exact ⟨h0, te, pe, (hb.cell (p := ⟨_, 0, none⟩) h0).trans h1⟩

/-- What ParseFloat gives: the nearest one, or an error. -/
def PF64Post (n : Nat) (g : Nat → Nat) (x : Int) (neg : Bool) (B : Nat) (w : World) (e : Ending) (w' : World) : Prop :=
  ∃ r er, RN Ieee.double.binade (2 ^ (1074 + 1)) (vn (num g n) (ve n x)) (vd (ve n x)) r ∧ e = .returned (.tuple #[.float .f64 (Ieee.double.word neg (min r Ieee.double.infRung)), er]) ∧
    ((Ieee.double.infRung ≤ r ∧ ∃ t v, er = .iface t v) ∨ (r < Ieee.double.infRung ∧ er = .nilIface)) ∧ Below B w w'

def PF32Post (n : Nat) (g : Nat → Nat) (x : Int) (neg : Bool) (B : Nat) (w : World) (e : Ending) (w' : World) : Prop :=
  ∃ r y er, RN Ieee.single.binade (2 ^ (149 + 1)) (vn (num g n) (ve n x)) (vd (ve n x)) r ∧ e = .returned (.tuple #[.float .f64 y, er]) ∧
    ((Ieee.single.infRung ≤ r ∧ ∃ t v, er = .iface t v) ∨ (r < Ieee.single.infRung ∧ er = .nilIface ∧ floatToFloatBits .f64 y .f32 = some (Ieee.single.word neg r))) ∧ Below B w w'

/-- The same, its numbers under names. -/
def At64N (n : Nat) (g : Nat → Nat) (x : Int) (neg : Bool) (B : Nat) (w : World) (k : Value → Value → Value) (e : Ending) (w' : World) : Prop :=
  ∃ r X er, Hid (RN Ieee.double.binade (2 ^ (1074 + 1)) (vn (num g n) (ve n x)) (vd (ve n x)) r ∧ X = Ieee.double.word neg (min r Ieee.double.infRung) ∧ ((Ieee.double.infRung ≤ r ∧ er = errRange) ∨ (r < Ieee.double.infRung ∧ er = .nilIface))) ∧
    e = .returned (k (.float .f64 X) er) ∧ Below B w w'

theorem prefix64_walk (S : ByteArray) (neg : Bool) (n : Nat) (g : Nat → Nat) (en : Bool) (m : Nat) (h : Nat → Nat) (w : World) (hS : Txt S neg n g en m h) (hg0 : g 0 = 0 → n = 1) (B : Nat) (hB : B ≤ w.heap.size) (hT : Tab64 w B) :
    Calls Tryz.prog 116 #[.string S, .int .i64 64] w (At64N n g (ex h m en) neg B w (fun X er => .tuple #[X, .int .i64 (S.size : Nat), er])) := by
  have HA := Lib.hid (atof64_walk S neg n g en m h w hS hg0 B hB hT)
  clear hT hS hg0
  go_enter Tryz.func116, Tryz.ntmps116
  go_wp2_with fail
  refine HA.out.mono ?_
  rintro e w' ⟨r, hrn, rfl, hb⟩
  obtain ⟨X, hX⟩ : ∃ X, Ieee.double.word neg (min r Ieee.double.infRung) = X := ⟨_, rfl⟩
  obtain ⟨er, her⟩ : ∃ er, (if Ieee.double.infRung ≤ r then errRange else .nilIface) = er := ⟨_, rfl⟩
  have HX : Hid (X = Ieee.double.word neg (min r Ieee.double.infRung) ∧ ((Ieee.double.infRung ≤ r ∧ er = errRange) ∨ (r < Ieee.double.infRung ∧ er = .nilIface))) := ⟨hX.symm, by
    rw [← her]; by_cases h : Ieee.double.infRung ≤ r
    · exact Or.inl ⟨h, if_pos h⟩
    · exact Or.inr ⟨by omega, if_neg h⟩⟩
  have HR := Lib.hid hrn
  rw [hX, her]
  clear hX her hrn
  go_wp2_with fail
  go_ret3
  exact ⟨r, X, er, ⟨HR.out, HX.out.1, HX.out.2⟩, rfl, hb⟩

theorem inner64_walk (S : ByteArray) (neg : Bool) (n : Nat) (g : Nat → Nat) (en : Bool) (m : Nat) (h : Nat → Nat) (w : World) (hS : Txt S neg n g en m h) (hg0 : g 0 = 0 → n = 1) (B : Nat) (hB : B ≤ w.heap.size) (hT : Tab64 w B) :
    Calls Tryz.prog 85 #[.string S, .int .i64 64] w (At64N n g (ex h m en) neg B w (fun X er => .tuple #[X, er])) := by
  have HA := Lib.hid (prefix64_walk S neg n g en m h w hS hg0 B hB hT)
  have hq : ((S.size : Int) != S.size) = false := by simp
  clear hT hS hg0
  go_enter Tryz.func85, Tryz.ntmps85
  go_wp2_with fail
  refine HA.out.mono ?_
  rintro e w' ⟨r, X, er, HX, rfl, hb⟩
  go_wp2_with fail
  go_ret2
  exact ⟨r, X, er, HX, rfl, hb⟩

theorem parse64_walk (S : ByteArray) (neg : Bool) (n : Nat) (g : Nat → Nat) (en : Bool) (m : Nat) (h : Nat → Nat) (w : World) (hS : Txt S neg n g en m h) (hg0 : g 0 = 0 → n = 1) (hlim : S.size ≤ 281474976710656) (B : Nat) (hB : B ≤ w.heap.size) (hT : Tab64 w B) (hR : RangeAt w B) :
    Calls Tryz.prog 49 #[.string S, .int .i64 64] w (PF64Post n g (ex h m en) neg B w) := by
  have HA := Lib.hid (inner64_walk S neg n g en m h w hS hg0 B hB hT)
  have HR := Lib.hid hR
  clear hR hT hS hg0
  go_enter Tryz.func49, Tryz.ntmps49
  go_wp2_with fail
  refine HA.out.mono ?_
  rintro e w' ⟨r, X, er, HX, rfl, hb⟩
  rcases HX.out.2.2 with ⟨hi, rfl⟩ | ⟨hi, rfl⟩
  · have HI := Lib.hid hi
    clear hi
    unfold errRange
    go_wp2_with fail
    obtain ⟨-, te, pe, hc⟩ := HR.out.below hb
    refine (Tryz.strconv_toError_range _ S _ _ (.iface te pe) w' hlim hc (Or.inr ⟨te, pe, rfl⟩)).mono ?_
    rintro e w2 ⟨N, rfl, -, -, hb2⟩
    have hb3 := hb.trans (hb2.mono (Nat.le_trans hB hb.size))
    clear hb2 hc
    go_wp2_with fail
    go_ret2
    exact ⟨r, _, HX.out.1, by rw [← HX.out.2.1]; rfl, Or.inl ⟨HI.out, _, _, rfl⟩, hb3⟩
  · have HI := Lib.hid hi
    clear hi
    go_wp2_with fail
    go_ret2
    exact ⟨r, _, HX.out.1, by rw [← HX.out.2.1]; rfl, Or.inr ⟨HI.out, rfl⟩, hb⟩

def At32N (n : Nat) (g : Nat → Nat) (x : Int) (neg : Bool) (B : Nat) (w : World) (k : Value → Value → Value) (e : Ending) (w' : World) : Prop :=
  ∃ r y er, Hid (RN Ieee.single.binade (2 ^ (149 + 1)) (vn (num g n) (ve n x)) (vd (ve n x)) r ∧ ((Ieee.single.infRung ≤ r ∧ er = errRange) ∨ (r < Ieee.single.infRung ∧ er = .nilIface ∧ floatToFloatBits .f64 y .f32 = some (Ieee.single.word neg r)))) ∧
    e = .returned (k (.float .f64 y) er) ∧ Below B w w'

theorem prefix32_walk (S : ByteArray) (neg : Bool) (n : Nat) (g : Nat → Nat) (en : Bool) (m : Nat) (h : Nat → Nat) (w : World) (hS : Txt S neg n g en m h) (hg0 : g 0 = 0 → n = 1) (B : Nat) (hB : B ≤ w.heap.size) (hT : Tab32 w B) :
    Calls Tryz.prog 116 #[.string S, .int .i64 32] w (At32N n g (ex h m en) neg B w (fun X er => .tuple #[X, .int .i64 (S.size : Nat), er])) := by
  have HA := Lib.hid (atof32_walk S neg n g en m h w hS hg0 B hB hT)
  clear hT hS hg0
  go_enter Tryz.func116, Tryz.ntmps116
  go_wp2_with fail
  refine HA.out.mono ?_
  rintro e w' ⟨r, hrn, rfl, hb⟩
  obtain ⟨y, hy1, hy2⟩ := conv_up neg (r := min r Ieee.single.infRung) (Nat.min_le_right _ _)
  obtain ⟨X, hX⟩ : ∃ X, Ieee.single.word neg (min r Ieee.single.infRung) = X := ⟨_, rfl⟩
  obtain ⟨er, her⟩ : ∃ er, (if Ieee.single.infRung ≤ r then errRange else .nilIface) = er := ⟨_, rfl⟩
  have HX : Hid ((Ieee.single.infRung ≤ r ∧ er = errRange) ∨ (r < Ieee.single.infRung ∧ er = .nilIface ∧ floatToFloatBits .f64 y .f32 = some (Ieee.single.word neg r))) := by
    refine Lib.hid ?_
    rw [← her]; by_cases h : Ieee.single.infRung ≤ r
    · exact Or.inl ⟨h, if_pos h⟩
    · rw [Nat.min_eq_left (by omega)] at hy2
      exact Or.inr ⟨by omega, if_neg h, hy2 (by omega)⟩
  have HR := Lib.hid hrn
  rw [hX] at hy1
  rw [hX, her]
  have hcv : ∀ w, (convert 59 58 (.float .f32 X)).run Tryz.prog w = .ok (.float .f64 y) w := fun w => run_convert_float_float w 59 58 .f32 .f64 X y (by kernel_rfl) (by kernel_rfl) hy1
  clear hX her hrn hy1 hy2
  go_wp2_with fail
  go_ret3
  exact ⟨r, y, er, ⟨HR.out, HX.out⟩, rfl, hb⟩

theorem inner32_walk (S : ByteArray) (neg : Bool) (n : Nat) (g : Nat → Nat) (en : Bool) (m : Nat) (h : Nat → Nat) (w : World) (hS : Txt S neg n g en m h) (hg0 : g 0 = 0 → n = 1) (B : Nat) (hB : B ≤ w.heap.size) (hT : Tab32 w B) :
    Calls Tryz.prog 85 #[.string S, .int .i64 32] w (At32N n g (ex h m en) neg B w (fun X er => .tuple #[X, er])) := by
  have HA := Lib.hid (prefix32_walk S neg n g en m h w hS hg0 B hB hT)
  have hq : ((S.size : Int) != S.size) = false := by simp
  clear hT hS hg0
  go_enter Tryz.func85, Tryz.ntmps85
  go_wp2_with fail
  refine HA.out.mono ?_
  rintro e w' ⟨r, X, er, HX, rfl, hb⟩
  go_wp2_with fail
  go_ret2
  exact ⟨r, X, er, HX, rfl, hb⟩

theorem parse32_walk (S : ByteArray) (neg : Bool) (n : Nat) (g : Nat → Nat) (en : Bool) (m : Nat) (h : Nat → Nat) (w : World) (hS : Txt S neg n g en m h) (hg0 : g 0 = 0 → n = 1) (hlim : S.size ≤ 281474976710656) (B : Nat) (hB : B ≤ w.heap.size) (hT : Tab32 w B) (hR : RangeAt w B) :
    Calls Tryz.prog 49 #[.string S, .int .i64 32] w (PF32Post n g (ex h m en) neg B w) := by
  have HA := Lib.hid (inner32_walk S neg n g en m h w hS hg0 B hB hT)
  have HR := Lib.hid hR
  clear hR hT hS hg0
  go_enter Tryz.func49, Tryz.ntmps49
  go_wp2_with fail
  refine HA.out.mono ?_
  rintro e w' ⟨r, X, er, HX, rfl, hb⟩
  rcases HX.out.2 with ⟨hi, rfl⟩ | ⟨hi, rfl, hc⟩
  · have HI := Lib.hid hi
    clear hi
    unfold errRange
    go_wp2_with fail
    obtain ⟨-, te, pe, hc⟩ := HR.out.below hb
    refine (Tryz.strconv_toError_range _ S _ _ (.iface te pe) w' hlim hc (Or.inr ⟨te, pe, rfl⟩)).mono ?_
    rintro e w2 ⟨N, rfl, -, -, hb2⟩
    have hb3 := hb.trans (hb2.mono (Nat.le_trans hB hb.size))
    clear hb2 hc
    go_wp2_with fail
    go_ret2
    exact ⟨r, _, _, HX.out.1, rfl, Or.inl ⟨HI.out, _, _, rfl⟩, hb3⟩
  · have HI : Hid (r < Ieee.single.infRung ∧ floatToFloatBits .f64 X .f32 = some (Ieee.single.word neg r)) := ⟨hi, hc⟩
    clear hi hc
    go_wp2_with fail
    go_ret2
    exact ⟨r, _, _, HX.out.1, rfl, Or.inr ⟨HI.out.1, rfl, HI.out.2⟩, hb⟩
end Go.Proofs.YtnpinogjajhlhaaGreatDoor.Fl
end
section
/- Digits in a list of bytes: what they are worth; what the library's parsers make of them. No program here. -/
namespace Go.Proofs.YtnpinogjajhlhaaGreatDoor.Fl

def allD (l : List UInt8) : Prop := ∀ c, c ∈ l → 48 ≤ c.toNat ∧ c.toNat ≤ 57

def nvA (a : Nat) : List UInt8 → Nat
  | [] => a
  | c :: r => nvA (a * 10 + (c.toNat - 48)) r

/-- What digits are worth. -/
def nv (l : List UInt8) : Nat := nvA 0 l

theorem nvA_ge (l : List UInt8) : ∀ a, a ≤ nvA a l := by
  induction l with
  | nil => intro a; exact Nat.le_refl _
  | cons c r ih =>
    intro a
    have h1 : a ≤ a * 10 + (c.toNat - 48) := by omega
    exact Nat.le_trans h1 (ih _)

theorem nvA_append (l r : List UInt8) : ∀ a, nvA a (l ++ r) = nvA (nvA a l) r := by
  induction l with
  | nil => intro a; rfl
  | cons c l ih => intro a; exact ih _

theorem parse_digits (l : List UInt8) : ∀ a, allD l → a < 18446744073709551616 →
    (nvA a l < 18446744073709551616 ∧ Lib.parseUint10 a l = .ok (nvA a l)) ∨ (18446744073709551616 ≤ nvA a l ∧ Lib.parseUint10 a l = .range) := by
  induction l with
  | nil => intro a _ ha; exact Or.inl ⟨ha, rfl⟩
  | cons c r ih =>
    intro a hd ha
    have hc := hd c (List.mem_cons_self ..)
    have hr : allD r := fun x hx => hd x (List.mem_cons_of_mem _ hx)
    have hge := nvA_ge r (a * 10 + (c.toNat - 48))
    have e : nvA a (c :: r) = nvA (a * 10 + (c.toNat - 48)) r := rfl
    rw [e, Lib.parseUint10, if_pos hc]
    have key := ih (a * 10 + (c.toNat - 48)) hr
    generalize nvA (a * 10 + (c.toNat - 48)) r = z at *
    by_cases h1 : 1844674407370955162 ≤ a
    · rw [if_pos h1]; exact Or.inr ⟨by omega, rfl⟩
    · rw [if_neg h1]
      by_cases h2 : 18446744073709551616 ≤ a * 10 + (c.toNat - 48)
      · rw [if_pos h2]; exact Or.inr ⟨by omega, rfl⟩
      · rw [if_neg h2]
        exact key (by omega)

theorem parseMag_digits {l : List UInt8} (hd : allD l) (hne : l ≠ []) : (nv l < 18446744073709551616 ∧ Lib.parseMag l = .ok (nv l)) ∨ (18446744073709551616 ≤ nv l ∧ Lib.parseMag l = .range) := by
  unfold Lib.parseMag
  rw [if_neg hne]
  exact parse_digits l 0 hd (by omega)

/-- The value of an exponent: a sign, or none, and digits. -/
def ev (sg es : List UInt8) : Int := if sg = [45] then -(nv es : Int) else nv es

def SignL (sg : List UInt8) : Prop := sg = [] ∨ sg = [43] ∨ sg = [45]

theorem atoi_ev {sg es : List UInt8} (hs : SignL sg) (hd : allD es) (hne : es ≠ []) :
    (Lib.atoiAll (sg ++ es) = .ok (ev sg es) ∧ -9223372036854775808 ≤ ev sg es ∧ ev sg es ≤ 9223372036854775807) ∨
    (Lib.atoiAll (sg ++ es) = .range ∧ ((sg = [45] ∧ ev sg es < -9223372036854775808) ∨ (sg ≠ [45] ∧ 9223372036854775807 < ev sg es))) := by
  have hp := parseMag_digits hd hne
  have hplain : ∀ c r, es = c :: r → c.toNat ≠ 43 ∧ c.toNat ≠ 45 := fun c r h => by have := hd c (by rw [h]; exact List.mem_cons_self ..); omega
  have hless : (Lib.signless (Lib.parseMag es) = .ok (nv es : Int) ∧ nv es ≤ 9223372036854775807) ∨ (Lib.signless (Lib.parseMag es) = .range ∧ 9223372036854775807 < nv es) := by
    rcases hp with ⟨h, hp⟩ | ⟨h, hp⟩
    · rw [hp]
      unfold Lib.signless
      by_cases h2 : 9223372036854775808 ≤ nv es
      · right; exact ⟨if_pos h2, by omega⟩
      · left; exact ⟨if_neg h2, by omega⟩
    · rw [hp]
      exact Or.inr ⟨rfl, by omega⟩
  rcases hs with rfl | rfl | rfl
  · obtain ⟨c, r, hcr⟩ : ∃ c r, es = c :: r := by cases es with | nil => exact absurd rfl hne | cons c r => exact ⟨c, r, rfl⟩
    have he : Lib.atoiAll ([] ++ es) = Lib.signless (Lib.parseMag es) := by
      rw [List.nil_append, hcr]; exact Lib.atoiAll_plain c r (hplain c r hcr).1 (hplain c r hcr).2
    have hv : ev [] es = nv es := by unfold ev; rw [if_neg (by decide)]
    rw [he, hv]
    rcases hless with ⟨h1, h2⟩ | ⟨h1, h2⟩
    · exact Or.inl ⟨h1, by omega, by omega⟩
    · exact Or.inr ⟨h1, Or.inr ⟨by decide, by omega⟩⟩
  · have he : Lib.atoiAll ([43] ++ es) = Lib.signless (Lib.parseMag es) := Lib.atoiAll_plus es
    have hv : ev [43] es = nv es := by unfold ev; rw [if_neg (by decide)]
    rw [he, hv]
    rcases hless with ⟨h1, h2⟩ | ⟨h1, h2⟩
    · exact Or.inl ⟨h1, by omega, by omega⟩
    · exact Or.inr ⟨h1, Or.inr ⟨by decide, by omega⟩⟩
  · have he : Lib.atoiAll ([45] ++ es) = Lib.signed (Lib.parseMag es) := Lib.atoiAll_minus es
    have hv : ev [45] es = -(nv es : Int) := by unfold ev; rw [if_pos rfl]
    rw [he, hv]
    rcases hp with ⟨h, hp⟩ | ⟨h, hp⟩
    · rw [hp]
      unfold Lib.signed
      by_cases h2 : 9223372036854775808 < nv es
      · right; exact ⟨if_pos h2, Or.inl ⟨rfl, by omega⟩⟩
      · left; exact ⟨if_neg h2, by omega, by omega⟩
    · rw [hp]
      exact Or.inr ⟨rfl, Or.inl ⟨rfl, by omega⟩⟩

/-- The exponent as the program keeps it: no farther than two to the 40. -/
def cx (sg es : List UInt8) : Int := min (max (ev sg es) (-1099511627776)) 1099511627776

end Go.Proofs.YtnpinogjajhlhaaGreatDoor.Fl
end
section
/- Bytes of a text; runs of digits; the length of the NUMBER at its front. No program here. -/
namespace Go.Proofs.YtnpinogjajhlhaaGreatDoor.Fl

/-- The byte at a place; 256 behind the end. -/
def bt (S : ByteArray) (i : Nat) : Nat := if h : i < S.size then S[i].toNat else 256

theorem bt_of {S : ByteArray} {i : Nat} (h : i < S.size) : S[i].toNat = bt S i := by unfold bt; rw [dif_pos h]
theorem bt_int {S : ByteArray} {i : Nat} (h : i < S.size) : (S[i].toNat : Int) = (bt S i : Int) := by rw [bt_of h]
theorem bt_out {S : ByteArray} {i : Nat} (h : S.size ≤ i) : bt S i = 256 := by unfold bt; rw [dif_neg (by omega)]
theorem bt_in {S : ByteArray} {i : Nat} (h : bt S i ≠ 256) : i < S.size := Nat.lt_of_not_le fun hc => h (bt_out hc)
theorem bt_lt {S : ByteArray} {i : Nat} (h : i < S.size) : bt S i < 256 := by rw [← bt_of h]; exact S[i].toNat_lt

def dgt (S : ByteArray) (i : Nat) : Prop := 48 ≤ bt S i ∧ bt S i ≤ 57
instance (S : ByteArray) (i : Nat) : Decidable (dgt S i) := by unfold dgt; exact inferInstance

theorem dgt_in {S : ByteArray} {i : Nat} (h : dgt S i) : i < S.size := bt_in (by have := h.2; omega)

/-- The place behind the digits from a place on. -/
def run (S : ByteArray) (i : Nat) : Nat := if _h : dgt S i then run S (i + 1) else i
termination_by S.size - i
decreasing_by have := dgt_in _h; omega

theorem run_unique {S : ByteArray} {j : Nat} (h2 : ¬ dgt S j) : ∀ i, i ≤ j → (∀ k, i ≤ k → k < j → dgt S k) → run S i = j := by
  suffices h : ∀ m i, j - i = m → i ≤ j → (∀ k, i ≤ k → k < j → dgt S k) → run S i = j from fun i => h _ i rfl
  intro m
  induction m with
  | zero =>
    intro i hm hij _
    have : i = j := by omega
    subst this
    rw [run, dif_neg h2]
  | succ m ih =>
    intro i hm hij hk
    rw [run, dif_pos (hk i (Nat.le_refl _) (by omega))]
    exact ih (i + 1) (by omega) (by omega) fun k h1 h3 => hk k (by omega) h3

theorem run_props (S : ByteArray) : ∀ i, i ≤ run S i ∧ (∀ k, i ≤ k → k < run S i → dgt S k) ∧ ¬ dgt S (run S i) := by
  suffices h : ∀ m i, S.size - i ≤ m → i ≤ run S i ∧ (∀ k, i ≤ k → k < run S i → dgt S k) ∧ ¬ dgt S (run S i) from fun i => h _ i (Nat.le_refl _)
  intro m
  induction m with
  | zero =>
    intro i hm
    have hn : ¬ dgt S i := fun h => by have := dgt_in h; omega
    rw [run, dif_neg hn]
    exact ⟨Nat.le_refl _, fun k h1 h2 => by omega, hn⟩
  | succ m ih =>
    intro i hm
    rw [run]
    by_cases h : dgt S i
    · rw [dif_pos h]
      have := dgt_in h
      obtain ⟨h1, h2, h3⟩ := ih (i + 1) (by omega)
      refine ⟨by omega, fun k hk1 hk2 => ?_, h3⟩
      by_cases hki : k = i
      · subst hki; exact h
      · exact h2 k (by omega) hk2
    · rw [dif_neg h]
      exact ⟨Nat.le_refl _, fun k h1 h2 => by omega, h⟩

theorem run_ge (S : ByteArray) (i : Nat) : i ≤ run S i := (run_props S i).1
theorem run_le {S : ByteArray} {i : Nat} (h : i ≤ S.size) : run S i ≤ S.size := by
  refine Nat.le_of_not_lt fun hc => ?_
  have := dgt_in ((run_props S i).2.1 (run S i - 1) (by omega) (by omega))
  omega

theorem extract_size {S : ByteArray} {n : Nat} : (S.extract n S.size).size = S.size - n := by rw [ByteArray.size_extract]; omega

theorem bt_extract {S : ByteArray} {n : Nat} (i : Nat) : bt (S.extract n S.size) i = bt S (n + i) := by
  unfold bt
  by_cases h : n + i < S.size
  · have h2 : i < (S.extract n S.size).size := by rw [extract_size]; omega
    rw [dif_pos h, dif_pos h2, ByteArray.getElem_extract]
  · have h2 : ¬ i < (S.extract n S.size).size := by rw [extract_size]; omega
    rw [dif_neg h, dif_neg h2]

theorem run_extract {S : ByteArray} {n : Nat} (i : Nat) : n + run (S.extract n S.size) i = run S (n + i) := by
  obtain ⟨h1, h2, h3⟩ := run_props (S.extract n S.size) i
  refine (run_unique ?_ _ (by omega) fun k hk1 hk2 => ?_).symm
  · unfold dgt at h3 ⊢; rw [bt_extract] at h3; exact h3
  · have := h2 (k - n) (by omega) (by omega)
    unfold dgt at this ⊢
    rw [bt_extract, show n + (k - n) = k by omega] at this
    exact this

/-- Where a number's digits begin: behind its sign. -/
def nSign (S : ByteArray) : Nat := if bt S 0 = 45 then 1 else 0
/-- The end of the digits ahead of the point: a nought stands alone. -/
def nInt (S : ByteArray) : Nat := if bt S (nSign S) = 48 then nSign S + 1 else run S (nSign S)
def nFrac (S : ByteArray) (e : Nat) : Nat := if bt S e = 46 ∧ e + 1 < run S (e + 1) then run S (e + 1) else e
/-- Where the exponent's digits begin, if there is one. -/
def nFrom (S : ByteArray) (e : Nat) : Nat := if bt S (e + 1) = 43 ∨ bt S (e + 1) = 45 then e + 2 else e + 1
def nExp (S : ByteArray) (e : Nat) : Nat := if (bt S e = 101 ∨ bt S e = 69) ∧ nFrom S e < run S (nFrom S e) then run S (nFrom S e) else e
/-- The length of the NUMBER at the front; 0: there is none. -/
def numLen (S : ByteArray) : Nat := if run S (nSign S) = nSign S then 0 else nExp S (nFrac S (nInt S))

end Go.Proofs.YtnpinogjajhlhaaGreatDoor.Fl
end
