/- A part of the proof that lexiconlaw03.NumsReads answers true at every kind and every text: DwPk32, DwPf32. No condition. -/
import Derived.Test.YtnpinogjajhlhaaGreatDoorZ06
import Derived.Test.YtnpinogjajhlhaaGreatDoorZ16
import Derived.Test.YtnpinogjajhlhaaGreatDoorZ17
import Derived.Laws.BitsAllLaws
import Derived.Laws.NewBlocks
import Derived.Deep.DeepCutAuto
import Derived.Deep.CutBlock
section
/- pack32, walked: a sign, a whole number of at most 24 bits and its power of two, as a float. -/
namespace Go.Proofs.YtnpinogjajhlhaaGreatDoor.Fl
open Go.RowKit

theorem lo_and32 {lo m : Nat} (h : lo < 8388608) : lo &&& m = lo &&& (m % 8388608) := by
  have e : lo = lo &&& 8388607 := by have := Nat.and_two_pow_sub_one_eq_mod lo 23; rw [Nat.mod_eq_of_lt h] at this; exact this.symm
  have e2 : 8388607 &&& m = m % 8388608 := by rw [Nat.and_comm]; exact Nat.and_two_pow_sub_one_eq_mod m 23
  rw [e, Nat.and_assoc, Nat.and_assoc, e2]
  congr 1
  rw [Nat.and_comm]
  exact (Nat.and_two_pow_sub_one_eq_mod (m % 8388608) 23).trans (Nat.mod_mod _ _) |>.symm

theorem split32 {lo : Nat} (h : lo < 8388608) (s t : Bool) : s.toNat * 2147483648 + (t.toNat * 8388608 + lo) = (s.toNat * 2147483648) ||| ((t.toNat * 8388608) ||| lo) := by
  have h1 := Nat.two_pow_add_eq_or_of_lt (i := 23) h t.toNat
  have h2 := Nat.two_pow_add_eq_or_of_lt (i := 31) (b := t.toNat * 8388608 + lo) (by cases t <;> simp <;> omega) s.toNat
  rw [show 2 ^ 23 * t.toNat = t.toNat * 8388608 by rw [Nat.mul_comm]] at h1
  rw [show 2 ^ 31 * s.toNat = s.toNat * 2147483648 by rw [Nat.mul_comm]] at h2
  rw [h2, h1]

theorem and_bit32 {lo : Nat} (h : lo < 8388608) (s t : Bool) : bits .and .u32 ((s.toNat * 2147483648 + (t.toNat * 8388608 + lo) : Nat) : Int) 8388608 = ((t.toNat * 8388608 : Nat) : Int) := by
  have hl : s.toNat * 2147483648 + (t.toNat * 8388608 + lo) < 2 ^ 32 := by cases s <;> cases t <;> simp [Bool.toNat] <;> omega
  have e := (bits_nat .u32 32 (by decide) (fun n h0 h1 => IntWalk.u32_in n ⟨h0, by omega⟩) _ 8388608 hl (by decide)).1
  refine e.trans ?_
  rw [split32 h, Nat.and_or_distrib_right, Nat.and_or_distrib_right, lo_and32 h]
  cases s <;> cases t <;> simp

theorem and_top32 {lo : Nat} (h : lo < 8388608) (s t : Bool) : bits .and .u32 ((s.toNat * 2147483648 + (t.toNat * 8388608 + lo) : Nat) : Int) 2147483648 = ((s.toNat * 2147483648 : Nat) : Int) := by
  have hl : s.toNat * 2147483648 + (t.toNat * 8388608 + lo) < 2 ^ 32 := by cases s <;> cases t <;> simp [Bool.toNat] <;> omega
  have e := (bits_nat .u32 32 (by decide) (fun n h0 h1 => IntWalk.u32_in n ⟨h0, by omega⟩) _ 2147483648 hl (by decide)).1
  refine e.trans ?_
  rw [split32 h, Nat.and_or_distrib_right, Nat.and_or_distrib_right, lo_and32 h]
  cases s <;> cases t <;> simp

theorem andNot_bit32 {lo : Nat} (h : lo < 8388608) (s t : Bool) : bits .andNot .u32 ((s.toNat * 2147483648 + (t.toNat * 8388608 + lo) : Nat) : Int) 8388608 = ((s.toNat * 2147483648 + lo : Nat) : Int) := by
  have hl : s.toNat * 2147483648 + (t.toNat * 8388608 + lo) < 2 ^ 32 := by cases s <;> cases t <;> simp [Bool.toNat] <;> omega
  have e := u32_andNot_nat (s.toNat * 2147483648 + (t.toNat * 8388608 + lo)) 8388608 hl (by decide)
  refine e.trans ?_
  have h0 := split32 h s false
  simp only [Bool.toNat_false, Nat.zero_mul, Nat.zero_add, Nat.zero_or] at h0
  rw [h0, split32 h, Nat.and_or_distrib_right, Nat.and_or_distrib_right, lo_and32 h]
  have h1 := Nat.and_two_pow_sub_one_eq_mod lo 23
  rw [Nat.mod_eq_of_lt h] at h1
  cases s <;> cases t <;> simp [h1]

def pkr32 (q : Nat) (e : Int) : Nat := if q < 8388608 then q else (e + 149).toNat * 8388608 + q

def Pk32Post (neg : Bool) (r : Nat) (w : World) (e : Ending) (w' : World) : Prop :=
  e = .returned (.tuple #[.float .f32 (Ieee.single.word neg (min r Ieee.single.infRung)), if Ieee.single.infRung ≤ r then errRange else .nilIface]) ∧ ∃ k, w' = w.drewN k

theorem pk_lt32 {e : Int} {lo : Nat} (h : lo < 8388608) (he : e < 105) (he1 : -149 ≤ e) : (e + 149).toNat * 8388608 + (8388608 + lo) < 2139095040 := by
  obtain ⟨k, hk⟩ : ∃ k : Nat, e + 149 = k := ⟨(e + 149).toNat, by omega⟩
  rw [hk, Int.toNat_natCast]
  have : k + 1 ≤ 255 - 1 := by omega
  have := Nat.mul_le_mul_right 8388608 this
  omega

theorem pk_ge32 {e : Int} {lo : Nat} (he : 105 ≤ e) : 2139095040 ≤ (e + 149).toNat * 8388608 + (8388608 + lo) := by
  obtain ⟨k, hk⟩ : ∃ k : Nat, e + 149 = k := ⟨(e + 149).toNat, by omega⟩
  rw [hk, Int.toNat_natCast]
  have : 255 - 1 ≤ k := by omega
  have := Nat.mul_le_mul_right 8388608 this
  omega

/-- The exponent's field. -/
theorem pk_field32 {e : Int} (he : e < 105) (he1 : -149 ≤ e) : ∃ E : Nat, 150 + e = E ∧ E * 8388608 < 2139095040 ∧ ∀ lo, (e + 149).toNat * 8388608 + (8388608 + lo) = 8388608 * E + lo := by
  obtain ⟨k, hk⟩ : ∃ k : Nat, e + 149 = k := ⟨(e + 149).toNat, by omega⟩
  refine ⟨k + 1, by omega, ?_, fun lo => ?_⟩
  · have : k + 1 ≤ 255 - 1 := by omega
    have := Nat.mul_le_mul_right 8388608 this
    omega
  · rw [hk, Int.toNat_natCast]; omega

set_option maxRecDepth 100000 in
theorem pk_ef32 {e : Int} {E : Nat} (hE : 150 + e = E) : (150 + e) * 8388608 = ((E * 8388608 : Nat) : Int) := by
  rw [hE]; exact (Int.natCast_mul E 8388608).symm

set_option maxRecDepth 100000 in
theorem pk_or32 {E lo : Nat} (hl : lo < 8388608) (hE2 : E * 8388608 + lo < 2139095040) (neg : Bool) : bits .or .u32 ((neg.toNat * 2147483648 + lo : Nat) : Int) ((E * 8388608 : Nat) : Int) = ((neg.toNat * 2147483648 + (8388608 * E + lo) : Nat) : Int) := by
  have h5 : neg.toNat * 2147483648 + lo < 4294967296 := by
    have : neg.toNat ≤ 1 := by cases neg <;> decide
    clear hE2
    omega
  have h6 : E * 8388608 < 4294967296 := Nat.lt_of_le_of_lt (Nat.le_add_right _ lo) (Nat.lt_trans hE2 (by decide))
  have h7 : 8388608 * E + lo < 2 ^ 31 := by rw [Nat.mul_comm]; exact Nat.lt_trans hE2 (by decide)
  have h1 := Nat.two_pow_add_eq_or_of_lt (i := 23) hl E
  have h2 := Nat.two_pow_add_eq_or_of_lt (i := 31) (b := 8388608 * E + lo) h7 neg.toNat
  have h4 := Nat.two_pow_add_eq_or_of_lt (i := 31) (b := lo) (Nat.lt_trans hl (by decide)) neg.toNat
  rw [show 2 ^ 31 * neg.toNat = neg.toNat * 2147483648 by rw [Nat.mul_comm]] at h2 h4
  rw [show 2 ^ 23 * E = 8388608 * E from rfl] at h1
  have h3 := (bits_nat .u32 32 (by decide) (fun n h0 h1 => IntWalk.u32_in n ⟨h0, by omega⟩) (neg.toNat * 2147483648 + lo) (E * 8388608) h5 h6).2
  rw [h3, h2, h1, h4, Nat.mul_comm E, Nat.or_assoc, Nat.or_comm lo]

theorem pk_inf32 (neg : Bool) : bits .or .u32 ((neg.toNat * 2147483648 : Nat) : Int) 2139095040 = ((neg.toNat * 2147483648 + 2139095040 : Nat) : Int) := by cases neg <;> decide +kernel

set_option maxHeartbeats 1000000 in
set_option maxRecDepth 100000 in
theorem pack32_walk (neg : Bool) (q : Nat) (hq : q < 16777216) (e : Int) (he1 : -149 ≤ e) (he2 : e ≤ 5000) (w : World) :
    Calls Tryz.prog 200 #[.int .u32 (neg.toNat * 2147483648 + q : Nat), .int .i64 e] w (Pk32Post neg (pkr32 q e) w) := by
  have hI : Ieee.single.infRung = 2139095040 := consts32.2.1
  have hS : Ieee.single.signWeight = 2147483648 := consts32.2.2
  have hword : ∀ x : Nat, Ieee.single.word neg x = neg.toNat * 2147483648 + x := fun x => by
    unfold Ieee.Format.word; rw [hS]; cases neg <;> simp
  unfold Pk32Post
  rw [hI]
  by_cases h : q < 8388608
  · have b1 := and_bit32 h neg false
    simp only [Bool.toNat_false, Nat.zero_mul, Nat.zero_add] at b1
    have hr : pkr32 q e = q := by unfold pkr32; rw [if_pos h]
    rw [hr, Nat.min_eq_left (by omega), if_neg (by omega), hword]
    obtain ⟨m, hm⟩ : ∃ m, neg.toNat * 2147483648 + q = m := ⟨_, rfl⟩
    rw [hm] at b1 ⊢
    have b2 : (bits .and .u32 (m : Int) 8388608 == 0) = true := by rw [b1]; rfl
    have hf := fun w => sfrom32 (m : Int) w
    clear b1 hm hword hS hI hr h
    go_enter Tryz.func200, Tryz.ntmps200
    go_wp2_with fail
    go_ret2
    exact ⟨rfl, 0, rfl⟩
  · obtain ⟨lo, hlo⟩ : ∃ lo, q = 8388608 + lo := ⟨q - 8388608, by omega⟩
    have hl : lo < 8388608 := by omega
    subst hlo
    have hr : pkr32 (8388608 + lo) e = (e + 149).toNat * 8388608 + (8388608 + lo) := by unfold pkr32; rw [if_neg (by omega)]
    have b1 := and_bit32 hl neg true
    have b3 := and_top32 hl neg true
    have b4 := andNot_bit32 hl neg true
    simp only [Bool.toNat_true, Nat.one_mul] at b1 b3 b4
    rw [hr, hword]
    have hw32 : neg.toNat * 2147483648 + (8388608 + lo) < 4294967296 := by cases neg <;> simp <;> omega
    obtain ⟨m, hm⟩ : ∃ m, neg.toNat * 2147483648 + (8388608 + lo) = m := ⟨_, rfl⟩
    rw [hm] at b1 b3 b4 ⊢
    have b2 : (bits .and .u32 (m : Int) 8388608 == 0) = false := by rw [b1]; rfl
    by_cases hlim : 105 ≤ e
    · have hge := pk_ge32 (lo := lo) hlim
      rw [Nat.min_eq_right hge, if_pos hge]
      have b5 : bits .or .u32 (bits .and .u32 (m : Int) 2147483648) 2139095040 = ((neg.toNat * 2147483648 + 2139095040 : Nat) : Int) := by rw [b3]; exact pk_inf32 neg
      have hf : ∀ w, (callFunc 170 #[.int .u32 (bits .or .u32 (bits .and .u32 (m : Int) 2147483648) 2139095040)]).run Tryz.prog w = .ok (.value (.float .f32 (neg.toNat * 2147483648 + 2139095040))) w := fun w => by rw [b5]; exact sfrom32 _ w
      obtain ⟨x, hx⟩ : ∃ x, neg.toNat * 2147483648 + 2139095040 = x := ⟨_, rfl⟩
      rw [hx] at hf ⊢
      clear b1 b3 b4 b5 hm hword hS hI hr h hl hx hw32 hge
      go_enter Tryz.func200, Tryz.ntmps200
      go_wp2_with fail
      go_ret2
      exact ⟨rfl, 0, rfl⟩
    · have hlim' : e < 105 := Int.not_le.1 hlim
      have hlt := pk_lt32 hl hlim' he1
      rw [Nat.min_eq_left (Nat.le_of_lt hlt), if_neg (Nat.not_le.2 hlt)]
      obtain ⟨E, hE, hE2, hE3⟩ := pk_field32 hlim' he1
      rw [hE3 lo] at hlt ⊢
      have hef : (150 + e) * 8388608 = ((E * 8388608 : Nat) : Int) := pk_ef32 hE
      have hlt2 : E * 8388608 + lo < 2139095040 := by rw [Nat.mul_comm]; exact hlt
      have b5 : bits .or .u32 (bits .andNot .u32 (m : Int) 8388608) ((150 + e) * 8388608) = ((neg.toNat * 2147483648 + (8388608 * E + lo) : Nat) : Int) := by
        rw [b4, hef]; exact pk_or32 hl hlt2 neg
      have hf : ∀ w, (callFunc 170 #[.int .u32 (bits .or .u32 (bits .andNot .u32 (m : Int) 8388608) ((150 + e) * 8388608))]).run Tryz.prog w = .ok (.value (.float .f32 (neg.toNat * 2147483648 + (8388608 * E + lo)))) w := fun w => by rw [b5]; exact sfrom32 _ w
      obtain ⟨x, hx⟩ : ∃ x, neg.toNat * 2147483648 + (8388608 * E + lo) = x := ⟨_, rfl⟩
      rw [hx] at hf ⊢
      have HE : Hid (150 + e = E ∧ E * 8388608 < 2139095040) := ⟨hE, hE2⟩
      clear b1 b3 b4 b5 hm hword hS hI hr h hl hx hw32 hlt hE2 hlim hE hE3 hef hlt2
      go_enter Tryz.func200, Tryz.ntmps200
      go_wp2_with fail
      go_ret2
      exact ⟨rfl, 0, rfl⟩
end Go.Proofs.YtnpinogjajhlhaaGreatDoor.Fl
end
section
/- parseFloat32, walked: the nearest rung of d times a power of ten. -/
namespace Go.Proofs.YtnpinogjajhlhaaGreatDoor.Fl
open Go.RowKit

theorem lp_bounds32 : ∀ i : Nat, i < 696 → -1157 ≤ lp ((i : Int) - 348) ∧ lp ((i : Int) - 348) ≤ 1155 := fun i hi => by unfold lp; omega

theorem us_le32 {x hi lo s : Nat} (hx : x < 18446744073709551616) (hh : hi < 18446744073709551616) (hs : 8 ≤ s) : us x hi lo s ≤ 72057594037927936 := by
  have h1 : x * hi < 18446744073709551616 * 18446744073709551616 := Nat.mul_lt_mul'' hx hh
  have h2 : x * hi / 18446744073709551616 < 18446744073709551616 := by omega
  have hp : 2 ^ 8 ≤ 2 ^ s := Nat.pow_le_pow_right (by omega) hs
  have key : ∀ H : Nat, H < 18446744073709551616 → H / 2 ^ s ≤ 72057594037927935 := fun H hH => by
    have : H / 2 ^ s ≤ H / 2 ^ 8 := Nat.div_le_div_left hp (by decide)
    omega
  have st_le : ∀ a b, a ≤ 72057594037927935 → st a b ≤ 72057594037927936 := fun a b ha => by unfold st; split <;> omega
  unfold us
  split
  · exact st_le _ _ (key _ h2)
  · exact st_le _ _ (key _ (by omega))

theorem or_sign32 {q : Nat} (hq : q < 16777216) (neg : Bool) : bits .or .u32 ((neg.toNat * 2147483648 : Nat) : Int) (q : Int) = ((neg.toNat * 2147483648 + q : Nat) : Int) := by
  have h2 := Nat.two_pow_add_eq_or_of_lt (i := 31) (b := q) (Nat.lt_trans hq (by decide)) neg.toNat
  rw [show 2 ^ 31 * neg.toNat = neg.toNat * 2147483648 by rw [Nat.mul_comm]] at h2
  have h3 := (bits_nat .u32 32 (by decide) (fun n h0 h1 => IntWalk.u32_in n ⟨h0, by omega⟩) (neg.toNat * 2147483648) q (by cases neg <;> decide) (Nat.lt_trans hq (by decide))).2
  rw [h2]; exact h3

def Pf32Post (d i : Nat) (neg : Bool) (B : Nat) (w : World) (e : Ending) (w' : World) : Prop :=
  ∃ r, RN Ieee.single.binade (2 ^ (149 + 1)) (d * 10 ^ (i - 348)) (10 ^ (348 - i)) r ∧
    e = .returned (.tuple #[.float .f32 (Ieee.single.word neg (min r Ieee.single.infRung)), if Ieee.single.infRung ≤ r then errRange else .nilIface]) ∧ Below B w w'

set_option maxHeartbeats 1000000 in
set_option maxRecDepth 100000 in
theorem pf32_walk (d i : Nat) (p : Int) (h0 : 0 < d) (hd : d < 18446744073709551616) (hi : i < 696) (hp : p = (i : Int) - 348) (neg : Bool) (w : World) (B : Nat) (hB : B ≤ w.heap.size) (hP : PowAt w B) :
    Calls Tryz.prog 172 #[.int .u64 d, .int .i64 p, .int .u32 (neg.toNat * 2147483648 : Nat)] w (Pf32Post d i neg B w) := by
  have hlen := fun w => Tryz.bits_Len64 (d : Int) w (by omega) (by omega)
  rw [Int.toNat_natCast] at hlen
  obtain ⟨b1, b2, b3, b4⟩ := bl_shift h0 hd
  obtain ⟨l1, l2⟩ := lp_bounds32 i hi
  have hlp := fun w => lp_walk p (by omega) (by omega) w
  rw [hp] at hlp
  obtain ⟨b, hb⟩ : ∃ b, Lib.bitLen d = b := ⟨_, rfl⟩
  obtain ⟨l, hl⟩ : ∃ l, lp ((i : Int) - 348) = l := ⟨_, rfl⟩
  obtain ⟨S, hS⟩ : ∃ S, neg.toNat * 2147483648 = S := ⟨_, rfl⟩
  rw [hb] at hlen b1 b2 b3 b4
  rw [hl] at hlp l1 l2
  rw [← hp] at hlp
  rw [hS]
  have HA : Hid ((∀ w : World, Calls Tryz.prog 137 #[.int .u64 d] w fun e w' => e = .returned (.int .i64 b) ∧ w' = w) ∧ (∀ w : World, Calls Tryz.prog 183 #[.int .i64 p] w (IntEndU .i64 l w)) ∧
    2 ^ 63 ≤ d * 2 ^ (64 - b) ∧ d * 2 ^ (64 - b) < 2 ^ 64 ∧ lp ((i : Int) - 348) = l ∧ neg.toNat * 2147483648 = S ∧ p = (i : Int) - 348 ∧ 0 < d ∧ d < 18446744073709551616 ∧ i < 696 ∧ PowAt w B) := ⟨hlen, hlp, b3, b4, hl, hS, hp, h0, hd, hi, hP⟩
  have b1' : 1 ≤ (b : Int) := by omega
  have b2' : (b : Int) ≤ 64 := by omega
  have hp1 : -348 ≤ p := by omega
  have hp2 : p ≤ 347 := by omega
  clear hlen hlp b1 b2 b3 b4 hb hl hS h0 hd hi hP hp
  go_enter Tryz.func172, Tryz.ntmps172
  go_wp2_with fail
  refine (HA.out.1 _).mono ?_
  rintro e w' ⟨rfl, rfl⟩
  go_wp2_with fail
  refine (HA.out.2.1 _).mono ?_
  rintro e w' ⟨rfl, rfl⟩
  go_upto_region 3 with (fail)
  go_cut [10] (fun ev wd => (∃ e0 : Int, ev = .int .i64 e0 ∧ Aside (e0 = min (149 : Int) (24 - b - l))) ∧ wd = w')
  case first =>
    go_wp2_with fail
    all_goals
      go_meet
      exact ⟨⟨_, rfl, (by omega : _ = min (149 : Int) (24 - b - l))⟩, rfl⟩
  case rest =>
    obtain ⟨⟨e0, rfl, he0⟩, rfl⟩ := hcut
    have e1 : e0 ≤ 149 := by rw [he0.out]; omega
    have e2 : -1200 ≤ e0 := by rw [he0.out]; omega
    go_wp2_with fail
    have hsc : ScI (wc.alloc (Obj.cells #[Value.int IntKind.u64 0, Value.int IntKind.u64 0, Value.int IntKind.i64 0] 211)) wc.heap.size 0 0 0 :=
      ⟨World.cell?_alloc_at _ _ _ _ rfl, World.cell?_alloc_at _ _ _ _ rfl, World.cell?_alloc_at _ _ _ _ rfl, fun j => World.frozen?_alloc_at _ _ _ _ rfl⟩
    have hbw : Below B wc (wc.alloc (Obj.cells #[Value.int IntKind.u64 0, Value.int IntKind.u64 0, Value.int IntKind.i64 0] 211)) := (Below.refl B wc).alloc hB _
    have hpre := prescale_walk wc.heap.size (e0 - (64 - b)) p l i HA.out.2.2.2.2.2.2.2.2.2.1 HA.out.2.2.2.2.2.2.1 (by omega) (by omega) (by omega) (by omega) _ B hB (HA.out.2.2.2.2.2.2.2.2.2.2.below hbw) 0 0 0 hsc
    refine hpre.mono ?_
    rintro e w2 ⟨rfl, hs2, hb2⟩
    have hbw2 := hbw.trans hb2
    clear hpre hsc hbw hb2
    generalize wc.alloc (Obj.cells #[Value.int IntKind.u64 0, Value.int IntKind.u64 0, Value.int IntKind.i64 0] 211) = w1 at *
    obtain ⟨s, hs⟩ : ∃ s, -(e0 - (64 - (b : Int)) + l + 3) = s := ⟨_, rfl⟩
    rw [hs] at hs2
    obtain ⟨c, hc⟩ : ∃ c, wc.heap.size = c := ⟨_, rfl⟩
    rw [hc] at hs2 hB ⊢
    have HS : Hid (s = pfs 24 149 b i ∧ ScI w2 c (pw i).1 (pw i).2 s ∧ Below B wc w2) := ⟨by rw [← hs, he0.out]; unfold pfs; rw [HA.out.2.2.2.2.1]; rfl, hs2, hbw2⟩
    obtain ⟨-, -, h2, -⟩ := hs2
    clear hs hbw2
    by_cases hs64 : 64 ≤ s
    · have hor : bits .or .u32 (S : Int) 0 = S := by
        rw [← HA.out.2.2.2.2.2.1]; cases neg <;> decide +kernel
      have hf : ∀ w, (callFunc 170 #[.int .u32 (bits .or .u32 (S : Int) 0)]).run Tryz.prog w = .ok (.value (.float .f32 S)) w := fun w => by rw [hor]; exact sfrom32 _ w
      clear hor
      go_wp2_with fail
      go_ret2
      obtain ⟨-, -, a3, a4, a5, a6, a7, a8, a9, a10, -⟩ := HA.out
      have hz := pf_zero (P := 24) (Lo := 149) (b := b) a10 (by omega) (by decide) a4 (by rw [← HS.out.1]; exact hs64)
      refine ⟨0, hz, ?_, HS.out.2.2⟩
      rw [Nat.zero_min, if_neg (by decide +kernel)]
      have hword : Ieee.single.word neg 0 = S := by
        unfold Ieee.Format.word; rw [consts32.2.2, ← a6]; cases neg <;> rfl
      rw [hword]; rfl
    · have hs8 : 8 ≤ s := by rw [HS.out.1]; unfold pfs; omega
      obtain ⟨t, ht⟩ : ∃ t : Nat, s = t := ⟨s.toNat, by omega⟩
      subst ht
      obtain ⟨x, hx⟩ : ∃ x, d * 2 ^ (64 - b) = x := ⟨_, rfl⟩
      have hxw : IntKind.u64.wrap ((d : Int) * 2 ^ (64 - b)) = ((x : Nat) : Int) := by
        have h4 := HA.out.2.2.2.1
        have e : ((d : Int) * 2 ^ (64 - b)) = ((d * 2 ^ (64 - b) : Nat) : Int) := by push_cast; rfl
        rw [e, hx, IntKind.wrap_u64]; rw [hx] at h4; omega
      have hok := table_ok HA.out.2.2.2.2.2.2.2.2.2.1
      unfold tableOk at hok
      simp only [Bool.and_eq_true, decide_eq_true_eq] at hok
      obtain ⟨⟨⟨⟨⟨⟨hh1, hh2⟩, hlo⟩, -⟩, -⟩, -⟩, -⟩ := hok
      have hx1 : 2 ^ 63 ≤ x := by rw [← hx]; exact HA.out.2.2.1
      have hx2 : x < 2 ^ 64 := by rw [← hx]; exact HA.out.2.2.2.1
      have hH1 : 1 ≤ x * (pw i).1 / 18446744073709551616 := by
        have := Nat.mul_le_mul hx1 hh1
        omega
      have hus := uscale_walk x (pw i).1 (pw i).2 t c w2 hx2 hh2 hlo (by omega) hH1 ⟨HS.out.2.1.1, HS.out.2.1.2.1, HS.out.2.1.2.2.1⟩
      have hul := us_le32 (lo := (pw i).2) hx2 hh2 (show 8 ≤ t by omega)
      have hpu : pfu 24 149 d b i = us x (pw i).1 (pw i).2 t := by unfold pfu; rw [hx, ← HS.out.1, Int.toNat_natCast]
      obtain ⟨u, hu⟩ : ∃ u, us x (pw i).1 (pw i).2 t = u := ⟨_, rfl⟩
      rw [hu] at hus hul hpu
      have HU := Lib.hid hus
      have HPU := Lib.hid hpu
      clear hx hh1 hh2 hlo hx1 hx2 hH1 hus hu hpu
      go_wp2_with fail
      refine HU.out.mono ?_
      rintro e w3 ⟨rfl, q, rfl⟩
      have hbw : Below B wc (w2.drewN q) := belowN HS.out.2.2 q
      have HB := Lib.hid hbw
      clear h2 hxw hbw HU
      generalize w2.drewN q = w3 at *
      have hm : ∀ w, Calls Tryz.prog 189 #[.int .u64 16777216] w (IntEndU .u64 67108862 w) := fun w => unmin_walk 16777216 (by decide) (by decide) w
      have hT : ∀ w, Calls Tryz.prog 138 #[.bool true] w (IntEndU .i64 1 w) := bool2i_walk true
      have hF : ∀ w, Calls Tryz.prog 138 #[.bool false] w (IntEndU .i64 0 w) := bool2i_walk false
      go_wp2_with fail
      refine (hm _).mono ?_
      rintro e w' ⟨rfl, rfl⟩
      obtain ⟨ed, hed⟩ : ∃ ed : Int, pfe 24 149 d b i = ed := ⟨_, rfl⟩
      obtain ⟨qd, hqd⟩ : ∃ qd, pfq 24 149 d b i = qd := ⟨_, rfl⟩
      have hpf := pf_rn (P := 24) (Lo := 149) (d := d) (b := b) (i := i) (by decide) (by decide) HA.out.2.2.2.2.2.2.2.2.2.1 (by omega) HA.out.2.2.1 HA.out.2.2.2.1 (by rw [← HS.out.1]; omega)
      rw [hed, hqd] at hpf
      obtain ⟨g1, g2, g3, g4⟩ := hpf
      have hr : pkr32 qd (-ed) = (((149 : Nat) : Int) - ed).toNat * 8388608 + qd := by
        unfold pkr32
        by_cases hh : qd < 8388608
        · have := g3 hh; subst this; rw [if_pos hh]; simp
        · rw [if_neg hh, show -ed + 149 = ((149 : Nat) : Int) - ed by omega]
      have HP : Hid (RN Ieee.single.binade (2 ^ (149 + 1)) (d * 10 ^ (i - 348)) (10 ^ (348 - i)) (pkr32 qd (-ed)) ∧ qd < 16777216 ∧ ed ≤ 149) := ⟨by rw [hr]; exact g1, g4, g2⟩
      unfold pfe at hed
      unfold pfq at hqd
      rw [HPU.out] at hed hqd
      have he0' := he0.out
      rw [HA.out.2.2.2.2.1] at hed
      change min (149 : Int) (24 - b - l) - (if 67108862 ≤ u then 1 else 0) = ed at hed
      rw [← he0'] at hed
      change rnd (if 67108862 ≤ u then st (u / 2) (decide (u % 2 = 1)) else u) = qd at hqd
      have hsor : bits .or .u32 (S : Int) (qd : Int) = ((neg.toNat * 2147483648 + qd : Nat) : Int) := by
        rw [← HA.out.2.2.2.2.2.1]; exact or_sign32 g4 neg
      have hpk := fun w => pack32_walk neg qd g4 (-ed) (by omega) (by omega) w
      obtain ⟨m, hm'⟩ : ∃ m, neg.toNat * 2147483648 + qd = m := ⟨_, rfl⟩
      rw [hm'] at hpk hsor
      obtain ⟨X, hX⟩ : ∃ X, Ieee.single.word neg (min (pkr32 qd (-ed)) Ieee.single.infRung) = X := ⟨_, rfl⟩
      obtain ⟨ER, hER⟩ : ∃ E, (if Ieee.single.infRung ≤ pkr32 qd (-ed) then errRange else .nilIface) = E := ⟨_, rfl⟩
      have hpk2 : ∀ w, Calls Tryz.prog 200 #[.int .u32 (m : Nat), .int .i64 (-ed)] w (fun e w' => e = .returned (.tuple #[.float .f32 X, ER]) ∧ ∃ k, w' = w.drewN k) := fun w => by rw [← hX, ← hER]; exact hpk w
      have HK := Lib.hid hpk2
      have HX : Hid (Ieee.single.word neg (min (pkr32 qd (-ed)) Ieee.single.infRung) = X ∧ (if Ieee.single.infRung ≤ pkr32 qd (-ed) then errRange else .nilIface) = ER) := ⟨hX, hER⟩
      clear hX hER hpk2
      clear g1 g2 g3 hr he0' hpk hm'
      by_cases hge : 67108862 ≤ u
      · have hgi : (67108862 : Int) ≤ u := by omega
        rw [if_pos hge] at hed hqd
        obtain ⟨v, hv⟩ : ∃ v, st (u / 2) (decide (u % 2 = 1)) = v := ⟨_, rfl⟩
        have hvl : v < 4611686018427387904 := by rw [← hv]; unfold st; split <;> omega
        have hu2 : bits .or .u64 ((u : Int) / 2) (bits .and .u64 (u : Int) 1) = (v : Int) := by rw [← hv]; exact half_or (by omega)
        rw [hv] at hqd
        have hrd := fun w => round_walk v hvl w
        rw [hqd] at hrd
        have HR := Lib.hid hrd
        have HE := Lib.hid hed
        have hed2 : e0 - 1 = ed := hed
        clear hrd hqd hv hvl hge hed
        go_wp2_with fail
        refine (hT _).mono ?_
        rintro e w' ⟨rfl, rfl⟩
        go_wp2_with fail
        refine (HR.out _).mono ?_
        rintro e w' ⟨rfl, rfl⟩
        go_wp2_with fail
        refine (HK.out _).mono ?_
        rintro e w' ⟨rfl, k, rfl⟩
        go_wp2_with fail
        go_ret2
        exact ⟨_, HP.out.1, by rw [HX.out.1, HX.out.2]; rfl, belowN HB.out k⟩
      · have hgi : (u : Int) < 67108862 := by omega
        rw [if_neg hge] at hed hqd
        have hvl : u < 4611686018427387904 := by omega
        have hu2 : bits .or .u64 (u : Int) (bits .and .u64 (u : Int) 1) = (u : Int) := same_or (by omega)
        have hrd := fun w => round_walk u hvl w
        rw [hqd] at hrd
        have HR := Lib.hid hrd
        have hed2 : e0 = ed := by omega
        have HE := Lib.hid hed2
        clear hrd hqd hvl hge hed hed2
        go_wp2_with fail
        rw [decide_eq_false (show ¬ (67108862 : Int) ≤ u by omega)]
        refine (hF _).mono ?_
        rintro e w' ⟨rfl, rfl⟩
        go_wp2_with fail
        refine (HR.out _).mono ?_
        rintro e w' ⟨rfl, rfl⟩
        have d1 : ed ≤ 149 := by rw [← HE.out]; exact e1
        have d2 : -1200 ≤ ed := by rw [← HE.out]; exact e2
        rw [HE.out]
        go_wp2_with fail
        refine (HK.out _).mono ?_
        rintro e w' ⟨rfl, k, rfl⟩
        go_wp2_with fail
        go_ret2
        exact ⟨_, HP.out.1, by rw [HX.out.1, HX.out.2]; rfl, belowN HB.out k⟩
end Go.Proofs.YtnpinogjajhlhaaGreatDoor.Fl
end
