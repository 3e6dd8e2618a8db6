/- A part of the proof that lexiconlaw03.NumsReads answers true at every kind and every text: RnCut, RfKind, RfVal. No condition. -/
import Derived.Test.YtnpinogjajhlhaaGreatDoorZ32
import Derived.Test.YtnpinogjajhlhaaGreatDoorZ37
import Derived.Test.YtnpinogjajhlhaaGreatDoorZ34
import Derived.Test.YtnpinogjajhlhaaGreatDoorZ36
import Derived.Test.YtnpinogjajhlhaaGreatDoorZ28
section
/- The reference's rounding: the place that it finds; digits behind the 900th only tell that there is more. No program here. -/
namespace Go.Proofs.YtnpinogjajhlhaaGreatDoor.Fl
open Ieee

/-- The ratio at a place: numerator and denominator of n / (d 2^k). -/
def na (n : Nat) (k : Int) : Nat := n * 2 ^ (-k).toNat
def nc (d : Nat) (k : Int) : Nat := d * 2 ^ k.toNat

theorem nc_pos {d : Nat} (hd : 0 < d) (k : Int) : 0 < nc d k := Nat.mul_pos hd (Nat.two_pow_pos _)

theorem near_hi {n d P : Nat} {k : Int} (hd : 0 < d) (hk : (blen n : Int) - blen d - P ≤ k) : na n k / nc d k < 2 ^ (P + 1) := by
  refine (Nat.div_lt_iff_lt_mul (nc_pos hd k)).2 ?_
  unfold na nc
  have h1 := Nat.mul_lt_mul_of_pos_right (blen_lt n) (Nat.two_pow_pos (-k).toNat)
  have hd0 : d ≠ 0 := by omega
  have h2 := Nat.mul_le_mul_right (2 ^ k.toNat) (blen_le hd0)
  have h3 := blen_pos hd0
  refine Nat.lt_of_lt_of_le h1 (Nat.le_trans ?_ (Nat.mul_le_mul_left _ h2))
  rw [← Nat.pow_add, ← Nat.pow_add, ← Nat.pow_add]
  exact Nat.pow_le_pow_right (by decide) (by omega)

theorem near_lo {n d P : Nat} {k : Int} (hP : 1 ≤ P) (hn : n ≠ 0) (hd : 0 < d) (hk : k = (blen n : Int) - blen d - P) : 2 ^ (P - 1) ≤ na n k / nc d k := by
  refine (Nat.le_div_iff_mul_le (nc_pos hd k)).2 ?_
  unfold na nc
  have h1 := Nat.mul_le_mul_right (2 ^ (-k).toNat) (blen_le hn)
  have h3 := blen_pos hn
  have h2 := Nat.mul_le_mul_right (2 ^ k.toNat) (Nat.le_of_lt (blen_lt d))
  refine Nat.le_trans (Nat.mul_le_mul_left _ h2) (Nat.le_trans ?_ h1)
  rw [← Nat.pow_add, ← Nat.pow_add, ← Nat.pow_add]
  exact Nat.pow_le_pow_right (by decide) (by omega)

theorem near_next (n : Nat) {d : Nat} (hd : 0 < d) (k : Int) : na n (k + 1) / nc d (k + 1) = na n k / nc d k / 2 := by
  have hp := nc_pos hd k
  by_cases h : 0 ≤ k
  · have e1 : na n (k + 1) = na n k := by unfold na; congr 2; omega
    have e2 : nc d (k + 1) = nc d k * 2 := by unfold nc; rw [show (k + 1).toNat = k.toNat + 1 by omega, Nat.pow_succ, Nat.mul_assoc]
    rw [e1, e2, Nat.div_div_eq_div_mul]
  · have e1 : na n k = na n (k + 1) * 2 := by unfold na; rw [show (-k).toNat = (-(k + 1)).toNat + 1 by omega, Nat.pow_succ, Nat.mul_assoc]
    have e2 : nc d (k + 1) = nc d k := by unfold nc; congr 2; omega
    rw [e1, e2, Nat.div_div_eq_div_mul, Nat.mul_div_mul_right _ _ (by decide)]

theorem near_rn {P Lo n d : Nat} {k : Int} (hP : 2 ≤ P) (hd : 0 < d) (hk : -(Lo : Int) ≤ k) (hq : na n k / nc d k < 2 ^ P) (hl : k = -(Lo : Int) ∨ 2 ^ (P - 1) ≤ na n k / nc d k) :
    RN (2 ^ (P - 1)) (2 ^ (Lo + 1)) n d ((k + Lo).toNat * 2 ^ (P - 1) + rhe (na n k) (nc d k)) := by
  have hB2 : 2 ^ (P - 1) % 2 = 0 := by
    obtain ⟨u, hu⟩ : ∃ u, P - 1 = u + 1 := ⟨P - 2, by omega⟩
    rw [hu, Nat.pow_succ, Nat.mul_mod_left]
  have h2 : 2 ^ P = 2 * 2 ^ (P - 1) := by rw [← Nat.pow_succ']; congr 1; omega
  refine rn_of hB2 (Nat.two_pow_pos _) (nc_pos hd k) ?_ (by rw [← h2]; exact hq) (by rcases hl with h | h; exact Or.inl (by omega); exact Or.inr h) hd
  unfold na nc
  have e : 2 ^ (Lo + 1) * 2 ^ k.toNat = 2 * 2 ^ (-k).toNat * 2 ^ (k + Lo).toNat := by
    rw [← Nat.pow_succ', ← Nat.pow_add, ← Nat.pow_add]; congr 1; omega
  calc n * 2 ^ (Lo + 1) * (d * 2 ^ k.toNat) = n * d * (2 ^ (Lo + 1) * 2 ^ k.toNat) := by ac_rfl
    _ = d * (2 * (n * 2 ^ (-k).toNat) * 2 ^ (k + Lo).toNat) := by rw [e]; ac_rfl

theorem eight_ten (m : Nat) : 2 ^ (3 * m) ≤ 10 ^ m := by rw [Nat.pow_mul]; exact Nat.pow_le_pow_left (by decide) m

/-- A midpoint lies on no place between a number of 900 digits and the next. -/
theorem cut_mid {P Lo c E T : Nat} (hP : 2 ≤ P) (hP2 : P ≤ 53) (hLo : Lo ≤ 1074) (hc : c = 899) (hT : 10 ^ c ≤ T) (r : Nat) :
    mid (2 ^ (P - 1)) r * 10 ^ E ≤ T * 2 ^ (Lo + 1) ∨ (T + 1) * 2 ^ (Lo + 1) ≤ mid (2 ^ (P - 1)) r * 10 ^ E := by
  obtain ⟨t, q, rfl, hq, ht⟩ := rung_form (Nat.two_pow_pos (P - 1)) r
  rw [mid_tq (Nat.two_pow_pos _) hq ht]
  have h2 : 2 ^ P = 2 * 2 ^ (P - 1) := by rw [← Nat.pow_succ']; congr 1; omega
  by_cases h : Lo + 1 ≤ E + t
  · have e : (2 * q + 1) * 2 ^ t * 10 ^ E = (2 * q + 1) * 5 ^ E * 2 ^ (E + t - (Lo + 1)) * 2 ^ (Lo + 1) := by
      have e1 : 10 ^ E = 5 ^ E * 2 ^ E := by rw [← Nat.mul_pow]
      have e2 : 2 ^ E * 2 ^ t = 2 ^ (E + t - (Lo + 1)) * 2 ^ (Lo + 1) := by rw [← Nat.pow_add, ← Nat.pow_add]; congr 1; omega
      calc (2 * q + 1) * 2 ^ t * 10 ^ E = (2 * q + 1) * 5 ^ E * (2 ^ E * 2 ^ t) := by rw [e1]; ac_rfl
        _ = _ := by rw [e2]; ac_rfl
    rw [e]
    by_cases hg : (2 * q + 1) * 5 ^ E * 2 ^ (E + t - (Lo + 1)) ≤ T
    · exact Or.inl (Nat.mul_le_mul_right _ hg)
    · exact Or.inr (Nat.mul_le_mul_right _ (by omega))
  · left
    have hq2 : 2 * q + 1 ≤ 2 ^ 54 := by
      have h3 : 2 ^ (P + 1) ≤ 2 ^ 54 := Nat.pow_le_pow_right (by decide) (by omega)
      rw [Nat.pow_succ] at h3; omega
    by_cases hE : E ≤ c
    · have e1 : 10 ^ c = 10 ^ (c - E) * 10 ^ E := by rw [← Nat.pow_add]; congr 1; omega
      have e2 := eight_ten (c - E)
      have h4 : 2 ^ 54 * 2 ^ t ≤ 10 ^ (c - E) * 2 ^ (Lo + 1) := by
        refine Nat.le_trans ?_ (Nat.mul_le_mul_right _ e2)
        rw [← Nat.pow_add, ← Nat.pow_add]
        exact Nat.pow_le_pow_right (by decide) (by omega)
      calc (2 * q + 1) * 2 ^ t * 10 ^ E ≤ 2 ^ 54 * 2 ^ t * 10 ^ E := Nat.mul_le_mul_right _ (Nat.mul_le_mul_right _ hq2)
        _ ≤ 10 ^ (c - E) * 2 ^ (Lo + 1) * 10 ^ E := Nat.mul_le_mul_right _ h4
        _ = 10 ^ c * 2 ^ (Lo + 1) := by rw [e1]; ac_rfl
        _ ≤ T * 2 ^ (Lo + 1) := Nat.mul_le_mul_right _ hT
    · have e1 : 10 ^ E = 10 ^ c * 10 ^ (E - c) := by rw [← Nat.pow_add]; congr 1; omega
      have e2 := ten_le (E - c)
      have h4 : 2 ^ 54 * 2 ^ t * 10 ^ (E - c) ≤ 2 ^ (Lo + 1) := by
        refine Nat.le_trans (Nat.mul_le_mul_left _ e2) ?_
        rw [← Nat.pow_add, ← Nat.pow_add]
        exact Nat.pow_le_pow_right (by decide) (by omega)
      calc (2 * q + 1) * 2 ^ t * 10 ^ E ≤ 2 ^ 54 * 2 ^ t * 10 ^ E := Nat.mul_le_mul_right _ (Nat.mul_le_mul_right _ hq2)
        _ = 10 ^ c * (2 ^ 54 * 2 ^ t * 10 ^ (E - c)) := by rw [e1]; ac_rfl
        _ ≤ 10 ^ c * 2 ^ (Lo + 1) := Nat.mul_le_mul_left _ h4
        _ ≤ T * 2 ^ (Lo + 1) := Nat.mul_le_mul_right _ hT

theorem cut_below {S E T n d m : Nat} (hS : 0 < S) (h1 : m * 10 ^ E ≤ T * S) (h2 : T * d < n * 10 ^ E) : d * m < n * S := by
  refine Nat.lt_of_mul_lt_mul_right (a := 10 ^ E) ?_
  have e1 : d * (m * 10 ^ E) ≤ d * (T * S) := Nat.mul_le_mul_left _ h1
  have e2 : T * d * S < n * 10 ^ E * S := Nat.mul_lt_mul_of_pos_right h2 hS
  calc d * m * 10 ^ E = d * (m * 10 ^ E) := Nat.mul_assoc ..
    _ ≤ d * (T * S) := e1
    _ = T * d * S := by ac_rfl
    _ < n * 10 ^ E * S := e2
    _ = n * S * 10 ^ E := Nat.mul_right_comm ..

theorem cut_above {S E T n d m : Nat} (hS : 0 < S) (h1 : (T + 1) * S ≤ m * 10 ^ E) (h2 : n * 10 ^ E < (T + 1) * d) : n * S < d * m := by
  refine Nat.lt_of_mul_lt_mul_right (a := 10 ^ E) ?_
  have e1 : d * ((T + 1) * S) ≤ d * (m * 10 ^ E) := Nat.mul_le_mul_left _ h1
  have e2 : n * 10 ^ E * S < (T + 1) * d * S := Nat.mul_lt_mul_of_pos_right h2 hS
  calc n * S * 10 ^ E = n * 10 ^ E * S := Nat.mul_right_comm ..
    _ < (T + 1) * d * S := e2
    _ = d * ((T + 1) * S) := by ac_rfl
    _ ≤ d * (m * 10 ^ E) := e1
    _ = d * m * 10 ^ E := (Nat.mul_assoc ..).symm

/-- Two ratios between the same two neighbours of 900 digits have the same nearest rung. -/
theorem rn_cut {P Lo c E T n1 d1 n2 d2 r : Nat} (hP : 2 ≤ P) (hP2 : P ≤ 53) (hLo : Lo ≤ 1074) (hc : c = 899) (hT : 10 ^ c ≤ T)
    (a1 : T * d1 < n1 * 10 ^ E) (a2 : n1 * 10 ^ E < (T + 1) * d1) (b1 : T * d2 < n2 * 10 ^ E) (b2 : n2 * 10 ^ E < (T + 1) * d2) (h : RN (2 ^ (P - 1)) (2 ^ (Lo + 1)) n1 d1 r) :
    RN (2 ^ (P - 1)) (2 ^ (Lo + 1)) n2 d2 r := by
  have hS := Nat.two_pow_pos (Lo + 1)
  have lo : ∀ s, d1 * mid (2 ^ (P - 1)) s ≤ n1 * 2 ^ (Lo + 1) → d2 * mid (2 ^ (P - 1)) s < n2 * 2 ^ (Lo + 1) := fun s hs => by
    rcases cut_mid (E := E) hP hP2 hLo hc hT s with h1 | h1
    · exact cut_below hS h1 b1
    · have := cut_above hS h1 a2; omega
  have hi : ∀ s, n1 * 2 ^ (Lo + 1) ≤ d1 * mid (2 ^ (P - 1)) s → n2 * 2 ^ (Lo + 1) < d2 * mid (2 ^ (P - 1)) s := fun s hs => by
    rcases cut_mid (E := E) hP hP2 hLo hc hT s with h1 | h1
    · have := cut_below hS h1 a1; omega
    · exact cut_above hS h1 b2
  exact ⟨fun p => Nat.le_of_lt (lo _ (h.lo p)), fun o => lo _ (Nat.le_of_lt (h.lo' o)), Nat.le_of_lt (hi _ h.hi), fun o => hi _ (Nat.le_of_lt (h.hi' o))⟩
end Go.Proofs.YtnpinogjajhlhaaGreatDoor.Fl
end
section
/- The reference's Signed, Unsigned and Fits, walked. -/
namespace Go.Proofs.YtnpinogjajhlhaaGreatDoor.Fl
open Go.RowKit

def sgnS (s : Int) : Int := if s = 2 then 32 else if s = 3 then 64 else 0
def unsS (s : Int) : Int := if s = 4 then 32 else if s = 5 then 64 else 0

theorem sortK_else {k : Int} (h : ¬ (k = 8 ∨ k = 5 ∨ k = 17 ∨ k = 15 ∨ k = 14 ∨ k = 3 ∨ k = 18 ∨ k = 16 ∨ k = 13 ∨ k = 7 ∨ k = 4 ∨ k = 6 ∨ k = 2 ∨ k = 1)) : sortK k = 0 := by
  unfold sortK; repeat (rw [if_neg (by omega)])

set_option maxRecDepth 100000 in
theorem signed_walk (k : Int) (w : World) : Calls Tryz.prog 29 #[.int .u8 k] w (IntEndU .i64 (sgnS (sortK k)) w) := by
  by_cases h : k = 8 ∨ k = 5 ∨ k = 17 ∨ k = 15 ∨ k = 14 ∨ k = 3 ∨ k = 18 ∨ k = 16 ∨ k = 13 ∨ k = 7 ∨ k = 4 ∨ k = 6 ∨ k = 2 ∨ k = 1
  · rcases h with rfl | rfl | rfl | rfl | rfl | rfl | rfl | rfl | rfl | rfl | rfl | rfl | rfl | rfl <;>
      (go_enter Tryz.func29, Tryz.ntmps29
       go_wp2_with fail
       go_ret
       exact ⟨rfl, rfl⟩)
  · have b2 : (k == 5) = false := by rw [beq_eq_false_iff_ne]; omega
    have b3 : (k == 17) = false := by rw [beq_eq_false_iff_ne]; omega
    have b4 : (k == 15) = false := by rw [beq_eq_false_iff_ne]; omega
    have b5 : (k == 14) = false := by rw [beq_eq_false_iff_ne]; omega
    have b6 : (k == 3) = false := by rw [beq_eq_false_iff_ne]; omega
    have b7 : (k == 18) = false := by rw [beq_eq_false_iff_ne]; omega
    have b8 : (k == 16) = false := by rw [beq_eq_false_iff_ne]; omega
    rw [sortK_else h]
    clear h
    go_enter Tryz.func29, Tryz.ntmps29
    go_wp2_with fail
    all_goals
      go_ret
      exact ⟨rfl, rfl⟩

set_option maxRecDepth 100000 in
theorem unsigned_walk (k : Int) (w : World) : Calls Tryz.prog 30 #[.int .u8 k] w (IntEndU .i64 (unsS (sortK k)) w) := by
  by_cases h : k = 8 ∨ k = 5 ∨ k = 17 ∨ k = 15 ∨ k = 14 ∨ k = 3 ∨ k = 18 ∨ k = 16 ∨ k = 13 ∨ k = 7 ∨ k = 4 ∨ k = 6 ∨ k = 2 ∨ k = 1
  · rcases h with rfl | rfl | rfl | rfl | rfl | rfl | rfl | rfl | rfl | rfl | rfl | rfl | rfl | rfl <;>
      (go_enter Tryz.func30, Tryz.ntmps30
       go_wp2_with fail
       go_ret
       exact ⟨rfl, rfl⟩)
  · have b9 : (k == 13) = false := by rw [beq_eq_false_iff_ne]; omega
    have b10 : (k == 7) = false := by rw [beq_eq_false_iff_ne]; omega
    have b11 : (k == 4) = false := by rw [beq_eq_false_iff_ne]; omega
    have b12 : (k == 6) = false := by rw [beq_eq_false_iff_ne]; omega
    rw [sortK_else h]
    clear h
    go_enter Tryz.func30, Tryz.ntmps30
    go_wp2_with fail
    all_goals
      go_ret
      exact ⟨rfl, rfl⟩

/-- The kinds of each sort that is no integer one. -/
theorem sortK_one {k : Int} : (sortK k = 1 ↔ k = 8) ∧ (sortK k = 6 ↔ k = 2) ∧ (sortK k = 7 ↔ k = 1) := by
  by_cases h : k = 8 ∨ k = 5 ∨ k = 17 ∨ k = 15 ∨ k = 14 ∨ k = 3 ∨ k = 18 ∨ k = 16 ∨ k = 13 ∨ k = 7 ∨ k = 4 ∨ k = 6 ∨ k = 2 ∨ k = 1
  · rcases h with rfl | rfl | rfl | rfl | rfl | rfl | rfl | rfl | rfl | rfl | rfl | rfl | rfl | rfl <;> decide
  · rw [sortK_else h]; omega

set_option maxRecDepth 100000 in
theorem rfits_walk (k : Int) (n : Nat) (hn : n < 18446744073709551616) (w : World) : Calls Tryz.prog 73 #[.int .u8 k, .int .u64 n] w (BoolEndR (fitsS (sortK k) n) w) := by
  have HS := Lib.hid (signed_walk k)
  have HU := Lib.hid (unsigned_walk k)
  obtain ⟨k1, k2, k3⟩ := @sortK_one k
  obtain ⟨q1, g1⟩ : ∃ q : Bool, decide ((n : Int) ≤ 1) = q := ⟨_, rfl⟩
  obtain ⟨q2, g2⟩ : ∃ q : Bool, decide ((n : Int) ≤ 2147483647) = q := ⟨_, rfl⟩
  obtain ⟨q3, g3⟩ : ∃ q : Bool, decide ((18446744071562067968 : Int) ≤ (n : Int)) = q := ⟨_, rfl⟩
  obtain ⟨q4, g4⟩ : ∃ q : Bool, decide ((n : Int) ≤ 4294967295) = q := ⟨_, rfl⟩
  have HV : Hid (fitsS 0 n = false ∧ fitsS 1 n = q1 ∧ fitsS 2 n = (q2 || q3) ∧ fitsS 3 n = true ∧ fitsS 4 n = q4 ∧ fitsS 5 n = true ∧ fitsS 6 n = q4 ∧ fitsS 7 n = true) := by
    refine Lib.hid ⟨rfl, ?_, ?_, fits3 n, ?_, fits5 n, ?_, rfl⟩
    · rw [← g1]; show decide (n ≤ 1) = _; exact decide_eq_decide.2 (by omega)
    · rw [fits2, ← g2, ← g3, ← Bool.decide_or]; exact decide_eq_decide.2 (by omega)
    · rw [fits4, ← g4]; exact decide_eq_decide.2 (by omega)
    · rw [← g4]; show decide (n < 4294967296) = _; exact decide_eq_decide.2 (by omega)
  have HG := Lib.hid (And.intro g1 (And.intro g2 (And.intro g3 g4)))
  clear hn
  rcases sortK_cases k with h | h | h | h | h | h | h | h
  · rw [h, HV.out.1]
    rw [h] at HS HU k1 k2 k3
    rw [show sgnS 0 = 0 from rfl] at HS
    rw [show unsS 0 = 0 from rfl] at HU
    have c1 : (k == 8) = false := by rw [beq_eq_false_iff_ne]; intro hc; exact absurd (k1.2 hc) (by decide)
    have c2 : (k == 2) = false := by rw [beq_eq_false_iff_ne]; intro hc; exact absurd (k2.2 hc) (by decide)
    have c3 : (k == 1) = false := by rw [beq_eq_false_iff_ne]; intro hc; exact absurd (k3.2 hc) (by decide)
    clear h k1 k2 k3
    clear g1 g2 g3 g4
    all_goals
      go_enter Tryz.func73, Tryz.ntmps73
      go_wp2_with fail
      repeat'
        (first
          | (refine (HS.out _).mono ?_
             rintro e w' ⟨rfl, rfl⟩
             go_wp2_with fail)
          | (refine (HU.out _).mono ?_
             rintro e w' ⟨rfl, rfl⟩
             go_wp2_with fail))
      go_ret
      exact ⟨rfl, rfl⟩
  · rw [h, HV.out.2.1]
    rw [h] at HS HU k1 k2 k3
    rw [show sgnS 1 = 0 from rfl] at HS
    rw [show unsS 1 = 0 from rfl] at HU
    obtain rfl : k = 8 := k1.1 rfl
    clear h k1 k2 k3
    clear g2 g3 g4
    cases q1
    all_goals
      go_enter Tryz.func73, Tryz.ntmps73
      go_wp2_with fail
      repeat'
        (first
          | (refine (HS.out _).mono ?_
             rintro e w' ⟨rfl, rfl⟩
             go_wp2_with fail)
          | (refine (HU.out _).mono ?_
             rintro e w' ⟨rfl, rfl⟩
             go_wp2_with fail))
      go_ret
      exact ⟨rfl, rfl⟩
  · rw [h, HV.out.2.2.1]
    rw [h] at HS HU k1 k2 k3
    rw [show sgnS 2 = 32 from rfl] at HS
    rw [show unsS 2 = 0 from rfl] at HU
    have c1 : (k == 8) = false := by rw [beq_eq_false_iff_ne]; intro hc; exact absurd (k1.2 hc) (by decide)
    have c2 : (k == 2) = false := by rw [beq_eq_false_iff_ne]; intro hc; exact absurd (k2.2 hc) (by decide)
    have c3 : (k == 1) = false := by rw [beq_eq_false_iff_ne]; intro hc; exact absurd (k3.2 hc) (by decide)
    clear h k1 k2 k3
    clear g1 g4
    cases q2 <;> cases q3
    all_goals
      go_enter Tryz.func73, Tryz.ntmps73
      go_wp2_with fail
      repeat'
        (first
          | (refine (HS.out _).mono ?_
             rintro e w' ⟨rfl, rfl⟩
             go_wp2_with fail)
          | (refine (HU.out _).mono ?_
             rintro e w' ⟨rfl, rfl⟩
             go_wp2_with fail))
      go_ret
      exact ⟨rfl, rfl⟩
  · rw [h, HV.out.2.2.2.1]
    rw [h] at HS HU k1 k2 k3
    rw [show sgnS 3 = 64 from rfl] at HS
    rw [show unsS 3 = 0 from rfl] at HU
    have c1 : (k == 8) = false := by rw [beq_eq_false_iff_ne]; intro hc; exact absurd (k1.2 hc) (by decide)
    have c2 : (k == 2) = false := by rw [beq_eq_false_iff_ne]; intro hc; exact absurd (k2.2 hc) (by decide)
    have c3 : (k == 1) = false := by rw [beq_eq_false_iff_ne]; intro hc; exact absurd (k3.2 hc) (by decide)
    clear h k1 k2 k3
    clear g1 g2 g3 g4
    all_goals
      go_enter Tryz.func73, Tryz.ntmps73
      go_wp2_with fail
      repeat'
        (first
          | (refine (HS.out _).mono ?_
             rintro e w' ⟨rfl, rfl⟩
             go_wp2_with fail)
          | (refine (HU.out _).mono ?_
             rintro e w' ⟨rfl, rfl⟩
             go_wp2_with fail))
      go_ret
      exact ⟨rfl, rfl⟩
  · rw [h, HV.out.2.2.2.2.1]
    rw [h] at HS HU k1 k2 k3
    rw [show sgnS 4 = 0 from rfl] at HS
    rw [show unsS 4 = 32 from rfl] at HU
    have c1 : (k == 8) = false := by rw [beq_eq_false_iff_ne]; intro hc; exact absurd (k1.2 hc) (by decide)
    have c2 : (k == 2) = false := by rw [beq_eq_false_iff_ne]; intro hc; exact absurd (k2.2 hc) (by decide)
    have c3 : (k == 1) = false := by rw [beq_eq_false_iff_ne]; intro hc; exact absurd (k3.2 hc) (by decide)
    clear h k1 k2 k3
    clear g1 g2 g3
    cases q4
    all_goals
      go_enter Tryz.func73, Tryz.ntmps73
      go_wp2_with fail
      repeat'
        (first
          | (refine (HS.out _).mono ?_
             rintro e w' ⟨rfl, rfl⟩
             go_wp2_with fail)
          | (refine (HU.out _).mono ?_
             rintro e w' ⟨rfl, rfl⟩
             go_wp2_with fail))
      go_ret
      exact ⟨rfl, rfl⟩
  · rw [h, HV.out.2.2.2.2.2.1]
    rw [h] at HS HU k1 k2 k3
    rw [show sgnS 5 = 0 from rfl] at HS
    rw [show unsS 5 = 64 from rfl] at HU
    have c1 : (k == 8) = false := by rw [beq_eq_false_iff_ne]; intro hc; exact absurd (k1.2 hc) (by decide)
    have c2 : (k == 2) = false := by rw [beq_eq_false_iff_ne]; intro hc; exact absurd (k2.2 hc) (by decide)
    have c3 : (k == 1) = false := by rw [beq_eq_false_iff_ne]; intro hc; exact absurd (k3.2 hc) (by decide)
    clear h k1 k2 k3
    clear g1 g2 g3 g4
    all_goals
      go_enter Tryz.func73, Tryz.ntmps73
      go_wp2_with fail
      repeat'
        (first
          | (refine (HS.out _).mono ?_
             rintro e w' ⟨rfl, rfl⟩
             go_wp2_with fail)
          | (refine (HU.out _).mono ?_
             rintro e w' ⟨rfl, rfl⟩
             go_wp2_with fail))
      go_ret
      exact ⟨rfl, rfl⟩
  · rw [h, HV.out.2.2.2.2.2.2.1]
    rw [h] at HS HU k1 k2 k3
    rw [show sgnS 6 = 0 from rfl] at HS
    rw [show unsS 6 = 0 from rfl] at HU
    obtain rfl : k = 2 := k2.1 rfl
    clear h k1 k2 k3
    clear g1 g2 g3
    cases q4
    all_goals
      go_enter Tryz.func73, Tryz.ntmps73
      go_wp2_with fail
      repeat'
        (first
          | (refine (HS.out _).mono ?_
             rintro e w' ⟨rfl, rfl⟩
             go_wp2_with fail)
          | (refine (HU.out _).mono ?_
             rintro e w' ⟨rfl, rfl⟩
             go_wp2_with fail))
      go_ret
      exact ⟨rfl, rfl⟩
  · rw [h, HV.out.2.2.2.2.2.2.2]
    rw [h] at HS HU k1 k2 k3
    rw [show sgnS 7 = 0 from rfl] at HS
    rw [show unsS 7 = 0 from rfl] at HU
    obtain rfl : k = 1 := k3.1 rfl
    clear h k1 k2 k3
    clear g1 g2 g3 g4
    all_goals
      go_enter Tryz.func73, Tryz.ntmps73
      go_wp2_with fail
      repeat'
        (first
          | (refine (HS.out _).mono ?_
             rintro e w' ⟨rfl, rfl⟩
             go_wp2_with fail)
          | (refine (HU.out _).mono ?_
             rintro e w' ⟨rfl, rfl⟩
             go_wp2_with fail))
      go_ret
      exact ⟨rfl, rfl⟩
end Go.Proofs.YtnpinogjajhlhaaGreatDoor.Fl
end
section
/- The reference's value, walked. -/
namespace Go.Proofs.YtnpinogjajhlhaaGreatDoor.Fl
open Go.RowKit

/-- What the digits ahead of a place are worth. -/
def pv (S : ByteArray) (j : Nat) : Nat := nv (S.data.toList.take j)

theorem pv_step {S : ByteArray} {j : Nat} (h : j < S.size) : pv S (j + 1) = pv S j * 10 + (bt S j - 48) := by
  have hl : j < S.data.toList.length := by rw [← size_list]; exact h
  unfold pv
  rw [List.take_add_one, List.getElem?_eq_getElem hl]
  show nv (S.data.toList.take j ++ [S.data.toList[j]]) = _
  rw [nv_snoc, ← bt_of h]
  rfl

theorem pv_le (S : ByteArray) (j : Nat) : pv S j ≤ nv S.data.toList := by
  have h : nv S.data.toList = nvA (pv S j) (S.data.toList.drop j) := by
    unfold pv nv
    rw [← nvA_append, List.take_append_drop]
  rw [h]; exact nvA_ge _ _

theorem pv_end {S : ByteArray} {j : Nat} (h : ¬ j < S.size) : pv S j = nv S.data.toList := by
  unfold pv; rw [List.take_of_length_le]; rw [← size_list]; omega

def ValPost (N : Nat) (w : World) (e : Ending) (w' : World) : Prop :=
  ((N < 18446744073709551616 ∧ e = .returned (.tuple #[.int .u64 N, .bool true])) ∨ (18446744073709551616 ≤ N ∧ e = .returned (.tuple #[.int .u64 (0 : Nat), .bool false]))) ∧ w' = w

set_option maxRecDepth 100000 in
theorem value_walk (S : ByteArray) (hd : allD S.data.toList) (hb : S.size ≤ 1152921504606846976) (w : World) : Calls Tryz.prog 72 #[.string S] w (ValPost (nv S.data.toList) w) := by
  have HD := Lib.hid hd
  clear hd
  go_enter Tryz.func72, Tryz.ntmps72
  go_wp2_with fail
  go_loopg [4, 5] (S.size) (fun mm nv iv wr => ∃ n j : Nat, nv = .int .u64 n ∧ iv = .int .i64 j ∧ Aside (mm = S.size - j ∧ j ≤ S.size ∧ n = pv S j ∧ n < 18446744073709551616) ∧ wr = w)
  case atStart => exact ⟨0, 0, rfl, rfl, ⟨rfl, by omega, rfl, by decide⟩, rfl⟩
  case round =>
    obtain ⟨n, j, rfl, rfl, hA, rfl⟩ := hrel
    by_cases hl : j < S.size
    · have hdj : 48 ≤ bt S j ∧ bt S j ≤ 57 := by obtain ⟨x, h1, h2⟩ := list_at hl; rw [← h2]; exact HD.out x (List.mem_of_getElem? h1)
      obtain ⟨c, hcc⟩ : ∃ c : Nat, bt S j = 48 + c := ⟨bt S j - 48, by omega⟩
      have hc : (S[j].toNat : Int) = 48 + (c : Int) := by rw [bt_int hl, hcc]; omega
      have hc9 : (c : Int) ≤ 9 := by omega
      have hn := hA.out.2.2.2
      have hni : (n : Int) ≤ 18446744073709551615 := by omega
      have HC : Hid (pv S (j + 1) = n * 10 + c ∧ c ≤ 9 ∧ n < 18446744073709551616) := Lib.hid ⟨by rw [pv_step hl, ← hA.out.2.2.1, hcc]; omega, by omega, by omega⟩
      clear hdj hcc hn hni
      go_wp2_with fail
      · have h := ‹(18446744073709551615 - (48 + (c : Int) - 48)) / 10 < (n : Int)›
        have h2 := pv_le S (j + 1)
        rw [HC.out.1] at h2
        go_ret2
        exact ⟨Or.inr ⟨by omega, rfl⟩, rfl⟩
      · have h := ‹(n : Int) ≤ (18446744073709551615 - (48 + (c : Int) - 48)) / 10›
        go_roundg (S.size - (j + 1))
        case measure => have := hA.out; omega
        case rel =>
          have h1 := HC.out.1
          exact ⟨n * 10 + c, j + 1, congrArg (Value.int .u64) (by omega), by go_num, ⟨rfl, by omega, h1.symm, by omega⟩, rfl⟩
    · have HE : Hid (n = nv S.data.toList ∧ n < 18446744073709551616) := Lib.hid ⟨by rw [← pv_end hl]; exact hA.out.2.2.1, hA.out.2.2.2⟩
      have hnl : ¬ ((j : Int) < S.size) := by omega
      go_wp2_with fail
      go_ret2
      exact ⟨Or.inl ⟨by rw [← HE.out.1]; exact HE.out.2, by rw [← HE.out.1]; rfl⟩, rfl⟩
end Go.Proofs.YtnpinogjajhlhaaGreatDoor.Fl
end
