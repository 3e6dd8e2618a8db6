/- A part of the proof that lexiconlaw03.NumsReads answers true at every kind and every text: DcFb, Tx. No condition. -/
import Derived.Test.YtnpinogjajhlhaaGreatDoorZ09
import Derived.Test.YtnpinogjajhlhaaGreatDoorZ06
section
/- From the decimal's states to the nearest rung. No program here. -/
namespace Go.Proofs.YtnpinogjajhlhaaGreatDoor.Fl
set_option maxRecDepth 100000

/-- There is a nearest rung. -/
theorem rn_exists {F S n d : Nat} (hF : 1 ≤ F) (hd : 0 < d) : ∃ r, RN (2 ^ F) S n d r := by
  have hB2 : 2 ^ F % 2 = 0 := by
    obtain ⟨u, rfl⟩ : ∃ u, F = u + 1 := ⟨F - 1, by omega⟩
    rw [Nat.pow_succ, Nat.mul_mod_left]
  obtain ⟨M, hM⟩ : ∃ M, M = n * S / (2 * d) := ⟨_, rfl⟩
  obtain ⟨t, ht⟩ : ∃ t, t = M.log2 - F := ⟨_, rfl⟩
  have hD : 0 < 2 * d * 2 ^ t := Nat.mul_pos (by omega) (Nat.two_pow_pos t)
  have hq : n * S / (2 * d * 2 ^ t) = M / 2 ^ t := by rw [hM, Nat.div_div_eq_div_mul]
  refine ⟨_, rn_of (N := n * S) (D := 2 * d * 2 ^ t) (t := t) hB2 (Nat.two_pow_pos F) hD ?_ ?_ ?_ hd⟩
  · generalize 2 ^ t = p
    ac_rfl
  · rw [hq]
    refine (Nat.div_lt_iff_lt_mul (Nat.two_pow_pos t)).2 ?_
    rw [← Nat.pow_succ', ← Nat.pow_add]
    exact Nat.lt_of_lt_of_le (Nat.lt_log2_self (n := M)) (Nat.pow_le_pow_right (by omega) (by omega))
  · by_cases h : t = 0
    · exact Or.inl h
    · right
      rw [hq]
      refine (Nat.le_div_iff_mul_le (Nat.two_pow_pos t)).2 ?_
      rw [← Nat.pow_add]
      have hM0 : M ≠ 0 := fun h0 => by subst h0; simp at ht; omega
      exact Nat.le_trans (Nat.pow_le_pow_right (by omega) (by omega)) (Nat.log2_self_le hM0)

/-- The binary size of the number: between two powers of two. -/
def Size (K L xx : Nat) (J : Int) : Prop := J ≤ L ∧ 10 ^ K * 2 ^ ((L : Int) - J).toNat ≤ xx ∧ xx < 10 ^ K * 2 ^ ((L : Int) - J + 1).toNat

theorem size_exists {K L xx : Nat} {J1 : Int} (hJ1 : J1 ≤ L) (h : 10 ^ K * 2 ^ ((L : Int) - J1).toNat ≤ xx) : ∃ J, Size K L xx J ∧ J ≤ J1 := by
  have hp : 0 < 10 ^ K := Nat.pow_pos (by omega)
  have hz : 2 ^ ((L : Int) - J1).toNat ≤ xx / 10 ^ K := (Nat.le_div_iff_mul_le hp).2 (by rw [Nat.mul_comm]; exact h)
  have hz0 : xx / 10 ^ K ≠ 0 := by have := Nat.two_pow_pos ((L : Int) - J1).toNat; omega
  have h1 := Nat.log2_self_le hz0
  have h2 : xx / 10 ^ K < 2 ^ ((xx / 10 ^ K).log2 + 1) := Nat.lt_log2_self
  have h3 := (Nat.le_log2 hz0).2 hz
  generalize (xx / 10 ^ K).log2 = l at *
  refine ⟨(L : Int) - l, ⟨by omega, ?_, ?_⟩, by omega⟩
  · rw [show ((L : Int) - ((L : Int) - l)).toNat = l from by omega, Nat.mul_comm]
    exact Nat.le_trans (Nat.mul_le_mul_right _ h1) (Nat.div_mul_le_self _ _)
  · rw [show ((L : Int) - ((L : Int) - l) + 1).toNat = l + 1 from by omega, Nat.mul_comm]
    exact (Nat.div_lt_iff_lt_mul hp).1 h2

theorem pow_lt_of {a : Nat} {i j : Nat} {x : Nat} (h1 : a * 2 ^ i ≤ x) (h2 : x < a * 2 ^ j) : i < j :=
  (Nat.pow_lt_pow_iff_right (show 1 < 2 by omega)).1 (Nat.lt_of_mul_lt_mul_left (Nat.lt_of_le_of_lt h1 h2))

/-- The state, in numbers alone. -/
structure St (K L xx : Nat) (g : Nat → Nat) (nd : Nat) (dp sh : Int) (tr : Bool) : Prop where
  g9 : ∀ i, i < nd → g i ≤ 9
  pos : 0 < nd
  le : nd ≤ 800
  g0 : g 0 ≠ 0
  inv : Inv K L xx (num g nd) (dp - nd) sh tr

variable {K L xx : Nat} {g : Nat → Nat} {nd : Nat} {dp sh J : Int} {tr : Bool}

/-- A power of two that is not above the number is not above the decimal. -/
theorem St.pow_le (h : St K L xx g nd dp sh tr) (hS : Size K L xx J) (hL : 3000 ≤ L) {j : Int} (h1 : J ≤ j) (h2 : j ≤ J + 50) (h3 : -1100 ≤ j) (h4 : j ≤ 1105) (h5 : 10 ^ K * 2 ^ ((L : Int) - j).toNat ≤ xx) :
    10 ^ K * 2 ^ ((L : Int) - j).toNat ≤ vv K L (num g nd) (dp - nd) sh := by
  have := h.inv.gs 1 j h3 h4 (by
    refine Nat.lt_of_lt_of_le hS.2.2 (Nat.mul_le_mul_left _ (Nat.pow_le_pow_right (by omega) (by omega)))) (by rw [Nat.one_mul]; exact h5)
  rwa [Nat.one_mul] at this

theorem St.size_le (h : St K L xx g nd dp sh tr) (hS : Size K L xx J) (hL : 3000 ≤ L) (h3 : -1100 ≤ J) (h4 : J ≤ 1105) : 10 ^ K * 2 ^ ((L : Int) - J).toNat ≤ vv K L (num g nd) (dp - nd) sh :=
  h.pow_le hS hL (Int.le_refl _) (by omega) h3 h4 hS.2.1

/-- Where the decimal is 1 or more. -/
theorem St.ge_one (h : St K L xx g nd dp sh tr) (hS : Size K L xx J) (hK : 2000 ≤ K) (hdp : 1 ≤ dp) : J ≤ sh := by
  have hb := (vv_bounds (K := K) (L := L) (sh := sh) (dp := dp) h.g9 h.g0 h.pos (by have := h.le; omega)).1
  have h1 : 10 ^ K ≤ 10 ^ (dp - 1 + K).toNat := Nat.pow_le_pow_right (by omega) (by omega)
  have h2 : 10 ^ K * 2 ^ ((L : Int) - sh).toNat ≤ xx := Nat.le_trans (Nat.le_trans (Nat.mul_le_mul_right _ h1) hb) h.inv.le
  have := pow_lt_of h2 hS.2.2
  have := hS.1
  omega

/-- Where it is less than 1. -/
theorem St.lt_one (h : St K L xx g nd dp sh tr) (hS : Size K L xx J) (hL : 3000 ≤ L) (hK : 2000 ≤ K) (hdp : dp ≤ 0) (hdp2 : -1000 ≤ dp) (h3 : -1100 ≤ J) (h4 : J ≤ 1105) : sh < J := by
  have hb := (vv_bounds (K := K) (L := L) (sh := sh) (dp := dp) h.g9 h.g0 h.pos (by have := h.le; omega)).2
  have h1 : 10 ^ (dp + K).toNat ≤ 10 ^ K := Nat.pow_le_pow_right (by omega) (by omega)
  have h2 := Nat.lt_of_le_of_lt (h.size_le hS hL h3 h4) hb
  have h5 := Nat.lt_of_lt_of_le h2 (Nat.mul_le_mul_right (2 ^ ((L : Int) - sh).toNat) h1)
  have h6 := (Nat.pow_lt_pow_iff_right (show 1 < 2 by omega)).1 (Nat.lt_of_mul_lt_mul_left h5)
  have := hS.1
  omega

/-- Where it is from a half on and less than 1. -/
theorem St.half (h : St K L xx g nd 0 sh tr) (hS : Size K L xx J) (hL : 3000 ≤ L) (hK : 2000 ≤ K) (h5 : 5 ≤ g 0) (hsh : sh ≤ 2000) (h3 : -1100 ≤ J) (h4 : J ≤ 1105) : sh = J - 1 := by
  have h1 := h.lt_one hS hL hK (Int.le_refl _) (by omega) h3 h4
  have hb := (vv_half (K := K) (L := L) (sh := sh) (dp := 0) h.g9 h.pos (by have := h.le; omega)).1 h5
  have e1 : 5 * 10 ^ ((0 : Int) - 1 + K).toNat * 2 ^ ((L : Int) - sh).toNat = 10 ^ K * 2 ^ ((L : Int) - sh - 1).toNat := by
    have a1 : 10 ^ K = 10 * 10 ^ ((0 : Int) - 1 + K).toNat := by rw [← Nat.pow_succ']; congr 1; omega
    have a2 : 2 ^ ((L : Int) - sh).toNat = 2 * 2 ^ ((L : Int) - sh - 1).toNat := by rw [← Nat.pow_succ']; congr 1; omega
    rw [a1, a2]
    generalize 10 ^ ((0 : Int) - 1 + K).toNat = p
    generalize 2 ^ ((L : Int) - sh - 1).toNat = q
    rw [Nat.mul_assoc, Nat.mul_assoc, Nat.mul_left_comm p 2 q]; omega
  rw [e1] at hb
  have := pow_lt_of (Nat.le_trans hb h.inv.le) hS.2.2
  have := hS.1
  omega

/-- How far it may be shifted to the left. -/
def room (dp : Int) (d0 n : Nat) : Prop := (dp < 0 ∧ 2 ^ n ≤ 10 ^ (-dp).toNat) ∨ (dp = 0 ∧ d0 < 5 ∧ n = 1)

/-- Behind such a shift it is still less than 1. -/
theorem St.still {g' : Nat → Nat} {nd' n : Nat} {dp' : Int} {tr' : Bool} (h : St K L xx g nd dp sh tr) (hL : 3000 ≤ L) (hK : 2000 ≤ K) (hdp2 : -1000 ≤ dp) (hr : room dp (g 0) n) (hn : n ≤ 30) (hs : sh ≤ 2000)
    (h' : St K L xx g' nd' dp' (sh + n) tr') (hle : vv K L (num g' nd') (dp' - nd') (sh + n) ≤ vv K L (num g nd) (dp - nd) sh) : dp' ≤ 0 := by
  refine Int.not_lt.1 fun hpos => ?_
  have hb' := (vv_bounds (K := K) (L := L) (sh := sh + n) (dp := dp') h'.g9 h'.g0 h'.pos (by have := h'.le; omega)).1
  have h2 : 10 ^ K ≤ 10 ^ (dp' - 1 + K).toNat := Nat.pow_le_pow_right (by omega) (by omega)
  have h4 : 10 ^ K * 2 ^ ((L : Int) - (sh + n)).toNat ≤ vv K L (num g nd) (dp - nd) sh := Nat.le_trans (Nat.le_trans (Nat.mul_le_mul_right _ h2) hb') hle
  have e2 : 2 ^ ((L : Int) - sh).toNat = 2 ^ n * 2 ^ ((L : Int) - (sh + n)).toNat := by rw [← Nat.pow_add]; congr 1; omega
  have hq : 0 < 2 ^ ((L : Int) - (sh + n)).toNat := Nat.two_pow_pos _
  rcases hr with ⟨hneg, h10⟩ | ⟨h0, h5, hn1⟩
  · have hb := (vv_bounds (K := K) (L := L) (sh := sh) (dp := dp) h.g9 h.g0 h.pos (by have := h.le; omega)).2
    have e1 : 10 ^ K = 10 ^ (-dp).toNat * 10 ^ (dp + K).toNat := by rw [← Nat.pow_add]; congr 1; omega
    have h6 := Nat.lt_of_le_of_lt h4 hb
    rw [e1, e2] at h6
    have hp : 0 < 10 ^ (dp + K).toNat := Nat.pow_pos (by omega)
    generalize 10 ^ (dp + K).toNat = p at *
    generalize 2 ^ ((L : Int) - (sh + n)).toNat = q at *
    have h7 : 2 ^ n * (p * q) ≤ 10 ^ (-dp).toNat * (p * q) := Nat.mul_le_mul_right _ h10
    have c1 : 10 ^ (-dp).toNat * p * q = 10 ^ (-dp).toNat * (p * q) := Nat.mul_assoc ..
    have c2 : p * (2 ^ n * q) = 2 ^ n * (p * q) := Nat.mul_left_comm ..
    omega
  · subst h0 hn1
    have hb := (vv_half (K := K) (L := L) (sh := sh) (dp := 0) h.g9 h.pos (by have := h.le; omega)).2 h5
    have h6 := Nat.lt_of_le_of_lt h4 hb
    have a1 : 10 ^ K = 10 * 10 ^ ((0 : Int) - 1 + K).toNat := by rw [← Nat.pow_succ']; congr 1; omega
    rw [a1, e2] at h6
    generalize 10 ^ ((0 : Int) - 1 + K).toNat = p at *
    generalize 2 ^ ((L : Int) - (sh + (1 : Nat))).toNat = q at *
    have c1 : 10 * p * q = 10 * (p * q) := Nat.mul_assoc ..
    have c2 : 5 * p * (2 ^ 1 * q) = 5 * (p * (2 * q)) := Nat.mul_assoc ..
    have c3 : p * (2 * q) = 2 * (p * q) := Nat.mul_left_comm ..
    omega

theorem ten_split {k n m : Nat} (h : k ≤ n + m) : 10 ^ k ≤ 10 ^ n * 10 ^ m := by rw [← Nat.pow_add]; exact Nat.pow_le_pow_right (by omega) h
theorem ten_join {k n m : Nat} (h : n + m ≤ k) : 10 ^ n * 10 ^ m ≤ 10 ^ k := by rw [← Nat.pow_add]; exact Nat.pow_le_pow_right (by omega) h
theorem pow2_split {L n m : Nat} (h : L = n + m) : 2 ^ L = 2 ^ n * 2 ^ m := by rw [h, Nat.pow_add]
theorem pow2_mono {n m : Nat} (h : n ≤ m) : 2 ^ n ≤ 2 ^ m := Nat.pow_le_pow_right (by omega) h
theorem chain {a b c d : Nat} (h1 : a ≤ b * c) (h2 : b ≤ d) : a ≤ d * c := Nat.le_trans h1 (Nat.mul_le_mul_right _ h2)
theorem ten331 : ∃ n m : Nat, n = 331 ∧ m = 1101 ∧ 10 ^ n ≤ 2 ^ m := ⟨331, 1101, rfl, rfl, by decide +kernel⟩
theorem ten310 : ∃ n m : Nat, n = 310 ∧ m = 1040 ∧ 10 ^ n ≤ 2 ^ m := ⟨310, 1040, rfl, rfl, by decide +kernel⟩
theorem ten330 : ∃ n m : Nat, n = 1075 ∧ m = 330 ∧ 2 ^ n ≤ 10 ^ m := ⟨1075, 330, rfl, rfl, by decide +kernel⟩

/-- The size of the number at the start. -/
theorem size_start {D : Nat} (hK : 2000 ≤ K) (hL : 3000 ≤ L) (h1 : -330 ≤ dp) (h2 : dp ≤ 310) (hlo : 10 ^ (dp - 1 + K).toNat * 2 ^ L ≤ D) (hhi : D < 10 ^ (dp + K).toNat * 2 ^ L) : ∃ J, Size K L D J ∧ -1040 ≤ J ∧ J ≤ 1101 := by
  have hp : 0 < 2 ^ L := Nat.two_pow_pos L
  obtain ⟨J, hJ, hJ1⟩ := size_exists (K := K) (L := L) (xx := D) (J1 := 1101) (by omega) (by
    refine Nat.le_trans ?_ hlo
    obtain ⟨n, m, hn, hm, hnm⟩ := ten331
    have e1 : 10 ^ K ≤ 2 ^ m * 10 ^ (dp - 1 + K).toNat := chain (ten_split (n := n) (by omega)) hnm
    have e2 : 2 ^ L = 2 ^ m * 2 ^ ((L : Int) - 1101).toNat := pow2_split (n := m) (by omega)
    rw [e2]
    have := Nat.mul_le_mul_right (2 ^ ((L : Int) - 1101).toNat) e1
    generalize 2 ^ ((L : Int) - 1101).toNat = q at *
    generalize 10 ^ (dp - 1 + K).toNat = p at *
    generalize 2 ^ m = z at *
    have c : p * (z * q) = z * p * q := by ac_rfl
    rw [c]; exact this)
  refine ⟨J, hJ, ?_, hJ1⟩
  have h3 := Nat.lt_of_le_of_lt hJ.2.1 hhi
  refine Int.not_lt.1 fun hlt => ?_
  obtain ⟨n, m, hn, hm, hnm⟩ := ten310
  have b : 10 ^ (dp + K).toNat ≤ 2 ^ m * 10 ^ K := chain (ten_split (n := n) (by omega)) hnm
  have e2 : 10 ^ (dp + K).toNat * 2 ^ L ≤ 10 ^ K * 2 ^ (m + L) := by
    have := Nat.mul_le_mul_right (2 ^ L) b
    rw [Nat.pow_add]
    have c : 2 ^ m * 10 ^ K * 2 ^ L = 10 ^ K * (2 ^ m * 2 ^ L) := by
      generalize 2 ^ m = z
      ac_rfl
    rw [← c]; exact this
  have h4 := (Nat.pow_lt_pow_iff_right (show 1 < 2 by omega)).1 (Nat.lt_of_mul_lt_mul_left (Nat.lt_of_lt_of_le h3 e2))
  omega

/-- What is far too small. -/
theorem rn_small {B Lo D : Nat} (hB : 0 < B) (hLo : Lo ≤ 1074) (hK : 2000 ≤ K) (h1 : dp < -330) (h2 : -2000 ≤ dp) (hhi : D < 10 ^ (dp + K).toNat * 2 ^ L) : RN B (2 ^ (Lo + 1)) D (10 ^ K * 2 ^ L) 0 := by
  refine rn_zero hB ?_
  obtain ⟨n, m, hn, hm, b⟩ := ten330
  have e1 : 10 ^ (dp + K).toNat * 10 ^ m ≤ 10 ^ K := ten_join (by omega)
  have b0 : 2 ^ (Lo + 1) ≤ 2 ^ n := pow2_mono (by omega)
  have b2 : 2 ^ (Lo + 1) ≤ 10 ^ m := Nat.le_trans b0 b
  have h3 := Nat.mul_le_mul (Nat.le_of_lt hhi) b2
  have h4 := Nat.mul_le_mul_right (2 ^ L) e1
  generalize 10 ^ (dp + K).toNat = p at *
  generalize 10 ^ m = z at *
  have c : p * 2 ^ L * z = p * z * 2 ^ L := Nat.mul_right_comm ..
  omega

/-- What is at least a power of two. -/
theorem rn_large {f : Ieee.Format} {Lo D r k : Nat} (hf : Fit f Lo) (h : RN f.binade (2 ^ (Lo + 1)) D (10 ^ K * 2 ^ L) r) (hk : 10 ^ K * 2 ^ (L + k) ≤ D) (hinf : f.infRung ≤ (k + Lo - f.fractionBits) * f.binade + f.binade) : f.infRung ≤ r := by
  have := (rn_pow hf k).mono (binade_pos f) (by omega) (Nat.mul_pos (Nat.pow_pos (by omega)) (Nat.two_pow_pos _)) h (by
    rw [Nat.mul_one]
    refine Nat.le_trans ?_ hk
    rw [Nat.pow_add]
    generalize 2 ^ L = a
    exact Nat.le_of_eq (by ac_rfl))
  omega

/-- The rounding at the last place. -/
theorem rn_last {P Lo D : Nat} {J e : Int} (hP : 2 ≤ P) (hPLo : P ≤ Lo) (hLo : Lo ≤ 1074) (hL : 3000 ≤ L) (hS : Size K L D J) (he : e = max (-J) ((P : Int) - 1 - Lo)) :
    RN (2 ^ (P - 1)) (2 ^ (Lo + 1)) D (10 ^ K * 2 ^ L) ((e - ((P : Int) - 1 - Lo)).toNat * 2 ^ (P - 1) + rhe D (10 ^ K * 2 ^ ((L : Int) - (P - 1 - e)).toNat)) ∧
      rhe D (10 ^ K * 2 ^ ((L : Int) - (P - 1 - e)).toNat) ≤ 2 ^ P ∧ ((P : Int) - 1 - Lo < e → 2 ^ (P - 1) ≤ rhe D (10 ^ K * 2 ^ ((L : Int) - (P - 1 - e)).toNat)) := by
  have hp : 0 < 10 ^ K := Nat.pow_pos (by omega)
  have hB2 : 2 ^ (P - 1) % 2 = 0 := by
    obtain ⟨u, hu⟩ : ∃ u, P - 1 = u + 1 := ⟨P - 2, by omega⟩
    rw [hu, Nat.pow_succ, Nat.mul_mod_left]
  have h2P : 2 ^ P = 2 * 2 ^ (P - 1) := by rw [← Nat.pow_succ']; congr 1; omega
  obtain ⟨hJL, hlo, hhi⟩ := hS
  have hD : 0 < 10 ^ K * 2 ^ ((L : Int) - (P - 1 - e)).toNat := Nat.mul_pos hp (Nat.two_pow_pos _)
  have hq : D / (10 ^ K * 2 ^ ((L : Int) - (P - 1 - e)).toNat) < 2 * 2 ^ (P - 1) := by
    refine (Nat.div_lt_iff_lt_mul hD).2 (Nat.lt_of_lt_of_le hhi ?_)
    rw [← h2P, Nat.mul_left_comm, ← Nat.pow_add]
    exact Nat.mul_le_mul_left _ (Nat.pow_le_pow_right (by omega) (by omega))
  have hl : (e - ((P : Int) - 1 - Lo)).toNat = 0 ∨ 2 ^ (P - 1) ≤ D / (10 ^ K * 2 ^ ((L : Int) - (P - 1 - e)).toNat) := by
    by_cases h : (e - ((P : Int) - 1 - Lo)).toNat = 0
    · exact Or.inl h
    · right
      refine (Nat.le_div_iff_mul_le hD).2 (Nat.le_trans ?_ hlo)
      rw [Nat.mul_left_comm, ← Nat.pow_add]
      exact Nat.mul_le_mul_left _ (Nat.pow_le_pow_right (by omega) (by omega))
  have hge := rhe_ge D (10 ^ K * 2 ^ ((L : Int) - (P - 1 - e)).toNat)
  have hle := rhe_le D (10 ^ K * 2 ^ ((L : Int) - (P - 1 - e)).toNat)
  refine ⟨rn_of hB2 (Nat.two_pow_pos _) hD ?_ hq hl (Nat.mul_pos hp (Nat.two_pow_pos _)), by rw [h2P]; exact Nat.le_trans hle hq, fun h => ?_⟩
  · have hexp : 2 ^ (Lo + 1) * 2 ^ ((L : Int) - (P - 1 - e)).toNat = 2 ^ L * (2 * 2 ^ (e - ((P : Int) - 1 - Lo)).toNat) := by
      rw [← Nat.pow_succ', ← Nat.pow_add, ← Nat.pow_add]; congr 1; omega
    generalize 2 ^ (Lo + 1) = a at *
    generalize 2 ^ ((L : Int) - (P - 1 - e)).toNat = b at *
    generalize 2 ^ (e - ((P : Int) - 1 - Lo)).toNat = c at *
    generalize 2 ^ L = d at *
    generalize 10 ^ K = p at *
    calc D * a * (p * b) = D * p * (a * b) := by ac_rfl
      _ = D * p * (d * (2 * c)) := by rw [hexp]
      _ = p * d * (2 * D * c) := by ac_rfl
  · rcases hl with h0 | h0
    · rw [Int.toNat_eq_zero] at h0; omega
    · exact Nat.le_trans h0 hge

theorem ten1024 : ∃ n m : Nat, n = 1024 ∧ m = 310 ∧ 2 ^ n ≤ 10 ^ m := ⟨1024, 310, rfl, rfl, by decide +kernel⟩

/-- A point beyond 310 places is far too great. -/
theorem beyond_310 {D k : Nat} (h1 : 310 < dp) (hk : k ≤ 1024) (hlo : 10 ^ (dp - 1 + K).toNat * 2 ^ L ≤ D) : 10 ^ K * 2 ^ (L + k) ≤ D := by
  refine Nat.le_trans ?_ hlo
  obtain ⟨n, m, hn, hm, b⟩ := ten1024
  have e1 : 10 ^ m * 10 ^ K ≤ 10 ^ (dp - 1 + K).toNat := ten_join (by omega)
  have e2 : 2 ^ k ≤ 10 ^ m := Nat.le_trans (pow2_mono (by omega)) b
  rw [Nat.pow_add]
  have h3 := Nat.mul_le_mul_right (10 ^ K * 2 ^ L) e2
  have h4 := Nat.mul_le_mul_right (2 ^ L) e1
  have c1 : 10 ^ K * (2 ^ L * 2 ^ k) = 2 ^ k * (10 ^ K * 2 ^ L) := by
    generalize 2 ^ L = a
    generalize 2 ^ k = c
    ac_rfl
  have c2 : 10 ^ m * (10 ^ K * 2 ^ L) = 10 ^ m * 10 ^ K * 2 ^ L := (Nat.mul_assoc ..).symm
  rw [c1]
  exact Nat.le_trans h3 (c2 ▸ h4)

theorem inf64 : Ieee.double.infRung ≤ (1024 + 1074 - Ieee.double.fractionBits) * Ieee.double.binade + Ieee.double.binade := by decide +kernel
theorem inf32 : Ieee.single.infRung ≤ (128 + 149 - Ieee.single.fractionBits) * Ieee.single.binade + Ieee.single.binade := by decide +kernel


/-- A number that is not below 2 ^ -c has its size at c at the most. -/
theorem size_low {K L xx c : Nat} (h : 10 ^ K * 2 ^ L ≤ xx * 2 ^ c) (J : Int) (hJ1 : Size K L xx J) : J ≤ c := by
  have e1 : xx * 2 ^ c < 10 ^ K * 2 ^ (((L : Int) - J + 1).toNat + c) := by
    rw [Nat.pow_add, ← Nat.mul_assoc]
    exact Nat.mul_lt_mul_of_pos_right hJ1.2.2 (Nat.two_pow_pos _)
  have e2 := (Nat.pow_lt_pow_iff_right (show 1 < 2 by omega)).1 (Nat.lt_of_mul_lt_mul_left (Nat.lt_of_le_of_lt h e1))
  have := hJ1.1
  omega

end Go.Proofs.YtnpinogjajhlhaaGreatDoor.Fl
end
section
/- A number's text as the program hands it to strconv: a sign, a digit, a point, digits, an e, a sign, digits. -/
namespace Go.Proofs.YtnpinogjajhlhaaGreatDoor.Fl

structure Txt (S : ByteArray) (neg : Bool) (n : Nat) (g : Nat → Nat) (en : Bool) (m : Nat) (h : Nat → Nat) : Prop where
  size : S.size = neg.toNat + n + 2 + en.toNat + m
  pos : 1 ≤ n
  mpos : 1 ≤ m
  big : S.size ≤ 1152921504606846976
  g9 : ∀ i, i < n → g i ≤ 9
  h9 : ∀ i, i < m → h i ≤ 9
  nine : ∀ i, n ≤ i → g i = 0
  sign : ∀ p (hp : p < S.size), p = 0 → neg = true → (S[p].toNat : Int) = 45
  d0 : ∀ p (hp : p < S.size), p = neg.toNat → (S[p].toNat : Int) = 48 + (g 0 : Int)
  dot : ∀ p (hp : p < S.size), p = neg.toNat + 1 → (S[p].toNat : Int) = 46
  dig : ∀ p (hp : p < S.size) i, 1 ≤ i → i < n → p = neg.toNat + 1 + i → (S[p].toNat : Int) = 48 + (g i : Int)
  e : ∀ p (hp : p < S.size), p = neg.toNat + n + 1 → (S[p].toNat : Int) = 101
  es : ∀ p (hp : p < S.size), p = neg.toNat + n + 2 → en = true → (S[p].toNat : Int) = 45
  ed : ∀ p (hp : p < S.size) j, j < m → p = neg.toNat + n + 2 + en.toNat + j → (S[p].toNat : Int) = 48 + (h j : Int)

/-- The exponent as it is read: no more of it once it is great. -/
def cl (h : Nat → Nat) : Nat → Nat
  | 0 => 0
  | j + 1 => if cl h j < 10000 then cl h j * 10 + h j else cl h j

theorem cl_le {h : Nat → Nat} {m : Nat} (h9 : ∀ i, i < m → h i ≤ 9) : cl h m ≤ 99999 := by
  induction m with
  | zero => simp [cl]
  | succ m ih =>
    have := ih (fun i hi => h9 i (by omega))
    have := h9 m (by omega)
    simp only [cl]; split <;> omega

/-- A small exponent is read as it is; a great one as a great one. -/
theorem cl_num {h : Nat → Nat} {m : Nat} (h9 : ∀ i, i < m → h i ≤ 9) : (num h m < 100000 ∧ cl h m = num h m) ∨ (10000 ≤ cl h m ∧ 10000 ≤ num h m) := by
  induction m with
  | zero => left; simp [cl, num]
  | succ m ih =>
    have h0 := h9 m (by omega)
    have e : num h (m + 1) = num h m * 10 + h m := by simp only [num]; omega
    simp only [cl]
    rw [e]
    rcases ih (fun i hi => h9 i (by omega)) with ⟨h1, h2⟩ | ⟨h1, h2⟩
    · split <;> omega
    · rw [if_neg (by omega)]; omega

def ex (h : Nat → Nat) (m : Nat) (en : Bool) : Int := if en = true then -(cl h m : Int) else cl h m

end Go.Proofs.YtnpinogjajhlhaaGreatDoor.Fl
end
