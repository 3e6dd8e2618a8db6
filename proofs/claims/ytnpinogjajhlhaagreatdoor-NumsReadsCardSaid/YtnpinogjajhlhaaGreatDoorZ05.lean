/- A part of the proof that lexiconlaw03.NumsReads answers true at every kind and every text: Pf, Ie. No condition. -/
import Derived.Test.YtnpinogjajhlhaaGreatDoorZ04
import Derived.Test.YtnpinogjajhlhaaGreatDoorZ03
import Ieee.Arith
section
/- The rounding of a decimal number of at most 64 bits by one fast scaling: what it finds is the nearest rung. No program here. -/
namespace Go.Proofs.YtnpinogjajhlhaaGreatDoor.Fl

/-- The rounding of an unrounded number (two bits more, the last one a mark). -/
def rnd (u : Nat) : Nat := (u + 1 + u / 4 % 2) / 4

theorem rnd_st {N D : Nat} (hD : 0 < D) : rnd (st (4 * N / D) (decide (4 * N % D ≠ 0))) = rhe N D := by
  have hdm := Nat.div_add_mod N D
  have hml := Nat.mod_lt N hD
  have hdm4 := Nat.div_add_mod (4 * N) D
  have hml4 := Nat.mod_lt (4 * N) hD
  unfold rhe
  generalize N / D = q at *
  generalize N % D = r at *
  generalize 4 * N / D = a at *
  generalize 4 * N % D = e at *
  -- a = 4 q + c
  obtain ⟨c, hc⟩ : ∃ c, a = 4 * q + c := by
    refine ⟨a - 4 * q, ?_⟩
    have : 4 * q < a + 1 := by
      refine Nat.lt_of_mul_lt_mul_left (a := D) ?_
      have e1 : D * (4 * q) = 4 * (D * q) := by ac_rfl
      rw [e1, Nat.mul_add]; omega
    omega
  subst hc
  have e1 : D * (4 * q + c) = 4 * (D * q) + D * c := by rw [Nat.mul_add]; congr 1; ac_rfl
  have h4 : D * c + e = 4 * r := by omega
  have hc4 : c < 4 := by
    refine Nat.lt_of_mul_lt_mul_left (a := D) ?_
    omega
  have hc' : c = 0 ∨ c = 1 ∨ c = 2 ∨ c = 3 := by omega
  unfold st rnd
  by_cases he : e = 0
  · rw [decide_eq_false (fun h => h he)]
    simp only [Bool.false_eq_true, if_false]
    rcases hc' with rfl | rfl | rfl | rfl <;> split <;> omega
  · rw [decide_eq_true he]
    simp only [if_true]
    rcases hc' with rfl | rfl | rfl | rfl <;> split <;> omega

theorem st_half {N D : Nat} (hD : 0 < D) : st (st (4 * N / D) (decide (4 * N % D ≠ 0)) / 2) (decide (st (4 * N / D) (decide (4 * N % D ≠ 0)) % 2 = 1)) = st (4 * N / (2 * D)) (decide (4 * N % (2 * D) ≠ 0)) := by
  have h1 : 4 * N / (2 * D) = 4 * N / D / 2 := by rw [Nat.div_div_eq_div_mul, Nat.mul_comm 2 D]
  have h2 : 4 * N % (2 * D) = 4 * N % D + D * (4 * N / D % 2) := by rw [Nat.mul_comm 2, Nat.mod_mul]
  rw [h1, h2]
  generalize 4 * N / D = a at *
  generalize 4 * N % D = e at *
  unfold st
  rcases (show a % 2 = 0 ∨ a % 2 = 1 by omega) with ha | ha
  · by_cases he : e = 0
    · subst he; simp [ha]
    · have hx : a / 2 * 2 + 1 = a + 1 := by omega
      have hy : (a + 1) / 2 = a / 2 := by omega
      have hz : (a + 1) % 2 = 1 := by omega
      simp [ha, he, hx, hy, hz]
  · by_cases he : e = 0
    · subst he
      have : D ≠ 0 := by omega
      simp [ha, this]
    · have hx : a / 2 * 2 + 1 = a := by omega
      simp [ha, he, hx]

/-- One ratio in two spellings. -/
theorem ratio_eq {a b c d : Nat} (hb : 0 < b) (hd : 0 < d) (h : a * d = c * b) : a / b = c / d ∧ (a % b ≠ 0 ↔ c % d ≠ 0) := by
  have h1 := Nat.div_add_mod a b
  have h2 := Nat.div_add_mod c d
  have l1 := Nat.mod_lt a hb
  have l2 := Nat.mod_lt c hd
  have e : a / b = c / d := by
    refine Nat.le_antisymm ?_ ?_
    · refine (Nat.le_div_iff_mul_le hd).2 ?_
      refine Nat.le_of_mul_le_mul_right (c := b) ?_ hb
      rw [← h, Nat.mul_right_comm]
      exact Nat.mul_le_mul_right _ (Nat.div_mul_le_self a b)
    · refine (Nat.le_div_iff_mul_le hb).2 ?_
      refine Nat.le_of_mul_le_mul_right (c := d) ?_ hd
      rw [h, Nat.mul_right_comm]
      exact Nat.mul_le_mul_right _ (Nat.div_mul_le_self c d)
  refine ⟨e, ?_⟩
  rw [e] at h1
  generalize c / d = q at *
  have h3 : (b * q + a % b) * d = (d * q + c % d) * b := by rw [h1, h2, h]
  have h4 : a % b * d = c % d * b := by
    rw [Nat.add_mul, Nat.add_mul] at h3
    have : b * q * d = d * q * b := by ac_rfl
    omega
  constructor
  · intro hn hz
    rw [hz, Nat.zero_mul] at h4
    rcases Nat.mul_eq_zero.1 h4 with h | h <;> omega
  · intro hn hz
    rw [hz, Nat.zero_mul] at h4
    rcases Nat.mul_eq_zero.1 h4.symm with h | h <;> omega

/-- Halving where the rounding would carry beyond. -/
theorem rhe_half {N D B : Nat} (hD : 0 < D) (hB : 0 < B) (hq : N / D = 2 * B - 1) (hr : rhe N D = 2 * B) : rhe N (2 * D) = B := by
  have hdm := Nat.div_add_mod N D
  have hml := Nat.mod_lt N hD
  have h1 : N / (2 * D) = B - 1 := by rw [Nat.mul_comm, ← Nat.div_div_eq_div_mul, hq]; omega
  have h2 : N % (2 * D) = N % D + D := by
    rw [Nat.mul_comm 2, Nat.mod_mul, hq, show (2 * B - 1) % 2 = 1 from by omega, Nat.mul_one]
  unfold rhe at hr ⊢
  rw [hq] at hr
  rw [h1, h2]
  split at hr
  · rw [if_pos (by omega)]; omega
  · omega

/-- What the fast way finds: P digits, the least place -Lo; d of b bits, times the power of row i. -/
def pfs (P Lo b i : Nat) : Int := -(min (Lo : Int) (P - b - lp ((i : Int) - 348)) - (64 - b) + lp ((i : Int) - 348) + 3)
def pfu (P Lo d b i : Nat) : Nat := us (d * 2 ^ (64 - b)) (pw i).1 (pw i).2 (pfs P Lo b i).toNat
def pfe (P Lo d b i : Nat) : Int := min (Lo : Int) (P - b - lp ((i : Int) - 348)) - if 2 ^ (P + 2) - 2 ≤ pfu P Lo d b i then 1 else 0
def pfq (P Lo d b i : Nat) : Nat := rnd (if 2 ^ (P + 2) - 2 ≤ pfu P Lo d b i then st (pfu P Lo d b i / 2) (decide (pfu P Lo d b i % 2 = 1)) else pfu P Lo d b i)

theorem unmin_iff {P N D : Nat} (hP : 1 ≤ P) (hD : 0 < D) : 2 ^ (P + 2) - 2 ≤ st (4 * N / D) (decide (4 * N % D ≠ 0)) ↔ 2 ^ P ≤ rhe N D := by
  rw [← rnd_st hD]
  generalize st (4 * N / D) (decide (4 * N % D ≠ 0)) = u
  unfold rnd
  obtain ⟨k, rfl⟩ : ∃ k, P = k + 1 := ⟨P - 1, by omega⟩
  have e1 : 2 ^ (k + 1 + 2) = 8 * 2 ^ k := by rw [Nat.pow_add, Nat.pow_add]; omega
  have e2 : 2 ^ (k + 1) = 2 * 2 ^ k := by rw [Nat.pow_succ]; omega
  rw [e1, e2]
  have := Nat.two_pow_pos k
  generalize 2 ^ k = z at *
  obtain ⟨a, c, hc, rfl⟩ : ∃ a c, c < 8 ∧ u = 8 * a + c := ⟨u / 8, u % 8, Nat.mod_lt _ (by omega), (Nat.div_add_mod u 8).symm⟩
  have h4 : (8 * a + c) / 4 % 2 = c / 4 := by omega
  rw [h4]
  rcases (show c = 0 ∨ c = 1 ∨ c = 2 ∨ c = 3 ∨ c = 4 ∨ c = 5 ∨ c = 6 ∨ c = 7 by omega) with rfl | rfl | rfl | rfl | rfl | rfl | rfl | rfl <;> omega

theorem acA (d u A v C w : Nat) : d * u * (A * v) * (C * w) = d * A * C * (u * v * w) := by ac_rfl
theorem acB (t d A e C w z : Nat) : t * (d * A * e) * (C * w * z) = d * A * C * (t * e * w * z) := by ac_rfl
theorem acC (T K B D : Nat) : T * K * (B * D) = T * D * (K * B) := by ac_rfl
theorem acD (a b T D : Nat) : T * D * (a * b) = a * (b * T) * D := by ac_rfl
theorem acE (T N f z : Nat) : T * (f * z) * N = f * N * (T * z) := by ac_rfl

/-- The exponents on both sides come to the same. -/
theorem pf_scale {d u v w z A C ep en : Nat} (h : u + v + en = 2 + ep + w + 128 + z) :
    d * 2 ^ u * (A * 2 ^ v) * (C * 2 ^ en) = 4 * (d * A * 2 ^ ep) * (C * 2 ^ w * (2 ^ 64 * (2 ^ 64 * 2 ^ z))) := by
  have e4 : (4 : Nat) = 2 ^ 2 := rfl
  have e128 : (2 : Nat) ^ 64 * (2 ^ 64 * 2 ^ z) = 2 ^ (128 + z) := by rw [← Nat.pow_add, ← Nat.pow_add]; congr 1; omega
  rw [e128, e4]
  rw [acA, acB, ← Nat.pow_add, ← Nat.pow_add, ← Nat.pow_add, ← Nat.pow_add, ← Nat.pow_add]
  congr 2
  omega

theorem pf_rn {P Lo d b i : Nat} (hP : 13 ≤ P) (hP2 : P ≤ 53) (hi : i < 696) (hb : b ≤ 64) (hd1 : 2 ^ 63 ≤ d * 2 ^ (64 - b)) (hd2 : d * 2 ^ (64 - b) < 2 ^ 64) (hs : pfs P Lo b i < 64) :
    RN (2 ^ (P - 1)) (2 ^ (Lo + 1)) (d * 10 ^ (i - 348)) (10 ^ (348 - i)) ((Lo - pfe P Lo d b i).toNat * 2 ^ (P - 1) + pfq P Lo d b i)
      ∧ pfe P Lo d b i ≤ Lo ∧ (pfq P Lo d b i < 2 ^ (P - 1) → pfe P Lo d b i = Lo) ∧ pfq P Lo d b i < 2 ^ P := by
  have hok := table_ok hi
  unfold tableOk at hok
  simp only [Bool.and_eq_true, decide_eq_true_eq] at hok
  obtain ⟨⟨_, hlow⟩, hup⟩ := hok
  have htd : 0 < td i := Nat.mul_pos (Nat.pow_pos (by omega)) (Nat.two_pow_pos _)
  have hspec := us_good (i := i) (x := d * 2 ^ (64 - b)) (s := (pfs P Lo b i).toNat) hi hd1 hd2
  unfold pfe pfq
  rw [show pfu P Lo d b i = us (d * 2 ^ (64 - b)) (pw i).1 (pw i).2 (pfs P Lo b i).toNat from rfl]
  obtain ⟨L, hL⟩ : ∃ L, L = lp ((i : Int) - 348) := ⟨_, rfl⟩
  obtain ⟨e, he⟩ : ∃ e, e = min (Lo : Int) (P - b - lp ((i : Int) - 348)) := ⟨_, rfl⟩
  have hse : pfs P Lo b i = -(e - (64 - b) + L + 3) := by rw [he, hL]; rfl
  rw [← he]
  have he1 : e ≤ Lo := by omega
  have he2 : e ≤ P - b - L := by omega
  have he3 : e = Lo ∨ e = P - b - L := by omega
  obtain ⟨z, hz⟩ : ∃ z : Nat, z = (pfs P Lo b i).toNat := ⟨_, rfl⟩
  rw [← hz] at hspec ⊢
  have hz1 : (z : Int) = -(e - (64 - b) + L + 3) := by omega
  have hz8 : 8 ≤ z := by omega
  have hspec := hspec hz8
  rw [hspec]
  have htn : tn i = 10 ^ (i - 348) * 2 ^ (127 - L).toNat := by rw [hL]; rfl
  have htde : td i = 10 ^ (348 - i) * 2 ^ (L - 127).toNat := by rw [hL]; rfl
  -- the ratio at the place e
  obtain ⟨N, hN⟩ : ∃ N, N = d * 10 ^ (i - 348) * 2 ^ e.toNat := ⟨_, rfl⟩
  obtain ⟨D, hD⟩ : ∃ D, D = 10 ^ (348 - i) * 2 ^ (-e).toNat := ⟨_, rfl⟩
  have hD0 : 0 < D := by rw [hD]; exact Nat.mul_pos (Nat.pow_pos (by omega)) (Nat.two_pow_pos _)
  have hbig0 : 0 < td i * (2 ^ 64 * (2 ^ 64 * 2 ^ z)) := Nat.mul_pos htd (Nat.mul_pos (Nat.two_pow_pos _) (Nat.mul_pos (Nat.two_pow_pos _) (Nat.two_pow_pos _)))
  have hsc : d * 2 ^ (64 - b) * tn i * D = 4 * N * (td i * (2 ^ 64 * (2 ^ 64 * 2 ^ z))) := by
    rw [htn, htde, hN, hD]
    exact pf_scale (by omega)
  have hr := ratio_eq hbig0 hD0 hsc
  have hr3 : decide (d * 2 ^ (64 - b) * tn i % (td i * (2 ^ 64 * (2 ^ 64 * 2 ^ z))) ≠ 0) = decide (4 * N % D ≠ 0) := decide_eq_decide.2 hr.2
  rw [hr.1, hr3]
  -- bounds of the ratio
  have hT : 2 ^ 64 * (2 ^ 64 * 2 ^ z) = 2 ^ (128 + z) := by rw [← Nat.pow_add, ← Nat.pow_add]; congr 1; omega
  rw [hT] at hsc
  have lo : e = P - b - L → 2 ^ (P - 1) * D ≤ N := fun h => by
    have a : 2 ^ 63 * (2 ^ 127 * td i) * D ≤ 4 * N * (td i * 2 ^ (128 + z)) := by
      rw [← hsc]; exact Nat.mul_le_mul_right _ (Nat.mul_le_mul hd1 hlow)
    have hz' : z = 61 - P := by omega
    refine Nat.le_of_mul_le_mul_left (c := td i * 2 ^ (130 + z)) ?_ (Nat.mul_pos htd (Nat.two_pow_pos _))
    have e1 : td i * 2 ^ (130 + z) * (2 ^ (P - 1) * D) = 2 ^ 63 * (2 ^ 127 * td i) * D := by
      have h1 : 2 ^ (130 + z) * 2 ^ (P - 1) = 2 ^ 63 * 2 ^ 127 := by rw [← Nat.pow_add, ← Nat.pow_add]; congr 1; omega
      rw [acC, h1, acD]
    have e2 : td i * 2 ^ (130 + z) * N = 4 * N * (td i * 2 ^ (128 + z)) := by
      rw [show 130 + z = 2 + (128 + z) from by omega, Nat.pow_add 2 2, show (2 : Nat) ^ 2 = 4 from rfl, acE]
    rw [e1, e2]; exact a
  have up : N < (2 ^ (P + 1) - 2 ^ (P - 10)) * D := by
    have a : 4 * N * (td i * 2 ^ (128 + z)) < 2 ^ 64 * ((2 ^ 128 - 2 ^ 117) * td i) * D := by
      rw [← hsc]
      refine Nat.mul_lt_mul_of_pos_right ?_ hD0
      exact Nat.mul_lt_mul_of_le_of_lt (Nat.le_of_lt hd2) hup (by omega)
    refine Nat.lt_of_mul_lt_mul_left (a := td i * 2 ^ (130 + z)) ?_
    have e2 : td i * 2 ^ (130 + z) * N = 4 * N * (td i * 2 ^ (128 + z)) := by
      rw [show 130 + z = 2 + (128 + z) from by omega, Nat.pow_add 2 2, show (2 : Nat) ^ 2 = 4 from rfl, acE]
    rw [e2]
    refine Nat.lt_of_lt_of_le a ?_
    have e3 : 2 ^ 64 * ((2 ^ 128 - 2 ^ 117) * td i) * D = td i * D * (2 ^ (191 - P) * (2 ^ (P + 1) - 2 ^ (P - 10))) := by
      have h1 : 2 ^ (191 - P) * (2 ^ (P + 1) - 2 ^ (P - 10)) = 2 ^ 64 * (2 ^ 128 - 2 ^ 117) := by
        rw [Nat.mul_sub, Nat.mul_sub, ← Nat.pow_add, ← Nat.pow_add, ← Nat.pow_add, ← Nat.pow_add]
        congr 2 <;> omega
      rw [h1, acD]
    have e4 : td i * 2 ^ (130 + z) * ((2 ^ (P + 1) - 2 ^ (P - 10)) * D) = td i * D * (2 ^ (130 + z) * (2 ^ (P + 1) - 2 ^ (P - 10))) := acC ..
    rw [e3, e4]
    exact Nat.mul_le_mul_left _ (Nat.mul_le_mul_right _ (Nat.pow_le_pow_right (by omega) (by omega)))
  -- the powers
  obtain ⟨B, hB⟩ : ∃ B, B = 2 ^ (P - 1) := ⟨_, rfl⟩
  have hPB : 2 ^ P = 2 * B := by rw [hB, ← Nat.pow_succ']; congr 1; omega
  have hPB2 : 2 ^ (P + 1) = 4 * B := by rw [Nat.pow_succ, hPB]; omega
  have hsm : 2 ^ 3 ≤ 2 ^ (P - 10) := Nat.pow_le_pow_right (by omega) (by omega)
  have hB2 : B % 2 = 0 := by
    rw [hB]
    obtain ⟨u, hu⟩ : ∃ u, P - 1 = u + 1 := ⟨P - 2, by omega⟩
    rw [hu, Nat.pow_succ, Nat.mul_mod_left]
  have hB0 : 0 < B := by rw [hB]; exact Nat.two_pow_pos _
  have hBbig : 2 ^ 12 ≤ B := by rw [hB]; exact Nat.pow_le_pow_right (by omega) (by omega)
  rw [← hB] at lo ⊢
  rw [hPB2] at up
  rw [hPB]
  have hum := unmin_iff (P := P) (N := N) (by omega) hD0
  rw [hPB] at hum
  have hdD : 0 < 10 ^ (348 - i) := Nat.pow_pos (by omega)
  -- the ratio at the place e, in the form that rn_of asks for
  have hx : ∀ t : Nat, (t : Int) = Lo - e → d * 10 ^ (i - 348) * 2 ^ (Lo + 1) * D = 10 ^ (348 - i) * (2 * N * 2 ^ t) := fun t ht => by
    rw [hN, hD]
    have : 2 ^ (Lo + 1) * 2 ^ (-e).toNat = 2 * 2 ^ e.toNat * 2 ^ t := by
      rw [← Nat.pow_succ', ← Nat.pow_add, ← Nat.pow_add]; congr 1; omega
    generalize 10 ^ (348 - i) = c at *
    generalize d * 10 ^ (i - 348) = m at *
    generalize 2 ^ (Lo + 1) = p1 at *
    generalize 2 ^ (-e).toNat = p2 at *
    generalize 2 ^ e.toNat = p3 at *
    generalize 2 ^ t = p4 at *
    calc m * p1 * (c * p2) = m * c * (p1 * p2) := by ac_rfl
      _ = m * c * (2 * p3 * p4) := by rw [this]
      _ = c * (2 * (m * p3) * p4) := by ac_rfl
  have hq4 : N / D < 4 * B - 2 ^ (P - 10) := (Nat.div_lt_iff_lt_mul hD0).2 up
  by_cases hc : 2 ^ (P + 2) - 2 ≤ st (4 * N / D) (decide (4 * N % D ≠ 0))
  · rw [if_pos hc, if_pos hc, st_half hD0, rnd_st (by omega)]
    have hrr := hum.1 hc
    have hge := rhe_ge N D
    have hle := rhe_le N D
    obtain ⟨t, ht⟩ : ∃ t : Nat, (t : Int) = Lo - e := ⟨(Lo - e).toNat, by omega⟩
    have ht1 : ((Lo : Int) - (e - 1)).toNat = t + 1 := by omega
    rw [ht1]
    by_cases hq : N / D < 2 * B
    · -- the carry makes the next place
      have hr2 : rhe N D = 2 * B := by omega
      have hr3 := rhe_half hD0 hB0 (by omega) hr2
      have hrn := rn_of hB2 hB0 hD0 (hx t ht) hq (by omega) hdD
      rw [hr2] at hrn
      rw [hr3]
      have e5 : (t + 1) * B + B = t * B + 2 * B := by rw [Nat.add_mul]; omega
      rw [e5]
      exact ⟨hrn, by omega, fun h => by omega, by omega⟩
    · have hq2 : N / (2 * D) = N / D / 2 := by rw [Nat.div_div_eq_div_mul, Nat.mul_comm 2 D]
      have hle2 := rhe_le N (2 * D)
      have hge2 := rhe_ge N (2 * D)
      have hx2 : d * 10 ^ (i - 348) * 2 ^ (Lo + 1) * (2 * D) = 10 ^ (348 - i) * (2 * N * 2 ^ (t + 1)) := by
        have h1 := hx t ht
        rw [show 2 ^ (t + 1) = 2 ^ t * 2 from Nat.pow_succ ..]
        generalize 10 ^ (348 - i) = c at *
        generalize d * 10 ^ (i - 348) * 2 ^ (Lo + 1) = m at *
        generalize 2 ^ t = p4 at *
        calc m * (2 * D) = 2 * (m * D) := by ac_rfl
          _ = 2 * (c * (2 * N * p4)) := by rw [h1]
          _ = c * (2 * N * (p4 * 2)) := by ac_rfl
      have hrn := rn_of hB2 hB0 (D := 2 * D) (N := N) (t := t + 1) (by omega) hx2 (by omega) (Or.inr (by omega)) hdD
      exact ⟨hrn, by omega, fun h => by omega, by omega⟩
  · rw [if_neg hc, if_neg hc, rnd_st hD0]
    have hnr : ¬ 2 * B ≤ rhe N D := fun h => hc (hum.2 h)
    have hge := rhe_ge N D
    obtain ⟨t, ht⟩ : ∃ t : Nat, (t : Int) = Lo - e := ⟨(Lo - e).toNat, by omega⟩
    have ht1 : ((Lo : Int) - (e - 0)).toNat = t := by omega
    rw [ht1]
    have hlow : t = 0 ∨ B ≤ N / D := by
      rcases he3 with h | h
      · left; omega
      · right; exact (Nat.le_div_iff_mul_le hD0).2 (lo h)
    have hrn := rn_of hB2 hB0 hD0 (hx t ht) (by omega) hlow hdD
    refine ⟨hrn, by omega, fun h => ?_, by omega⟩
    rcases hlow with h1 | h1
    · omega
    · omega

/-- Where the scaling shifts all away, the number is less than half of the least one. -/
theorem pf_zero {P Lo d b i : Nat} (hi : i < 696) (hb : b ≤ 64) (hP2 : P ≤ 53) (hd2 : d * 2 ^ (64 - b) < 2 ^ 64) (hs : 64 ≤ pfs P Lo b i) :
    RN (2 ^ (P - 1)) (2 ^ (Lo + 1)) (d * 10 ^ (i - 348)) (10 ^ (348 - i)) 0 := by
  have hok := table_ok hi
  unfold tableOk at hok
  simp only [Bool.and_eq_true, decide_eq_true_eq] at hok
  obtain ⟨_, hup⟩ := hok
  have htd : 0 < td i := Nat.mul_pos (Nat.pow_pos (by omega)) (Nat.two_pow_pos _)
  obtain ⟨L, hL⟩ : ∃ L, L = lp ((i : Int) - 348) := ⟨_, rfl⟩
  have hse : pfs P Lo b i = -(min (Lo : Int) (P - b - L) - (64 - b) + L + 3) := by rw [hL]; rfl
  have hl : (Lo : Int) + b + L + 3 ≤ 0 := by omega
  have htn : tn i = 10 ^ (i - 348) * 2 ^ (127 - L).toNat := by rw [hL]; rfl
  have htde : td i = 10 ^ (348 - i) * 2 ^ (L - 127).toNat := by rw [hL]; rfl
  refine rn_zero (Nat.two_pow_pos _) ?_
  have h0 : (L - 127).toNat = 0 := by omega
  rw [h0, Nat.pow_zero, Nat.mul_one] at htde
  obtain ⟨k, hk⟩ : ∃ k : Nat, (127 - L).toNat = Lo + b + 130 + k := ⟨(127 - L).toNat - (Lo + b + 130), by omega⟩
  rw [hk] at htn
  rw [htn, htde] at hup
  -- d < 2^b, ten to the power at most 2^(-Lo-b-2)
  have hd : d < 2 ^ b := by
    refine Nat.lt_of_mul_lt_mul_right (a := 2 ^ (64 - b)) ?_
    rw [← Nat.pow_add, show b + (64 - b) = 64 from by omega]; exact hd2
  generalize 10 ^ (348 - i) = c at *
  generalize 10 ^ (i - 348) = m at *
  have h1 : m * 2 ^ (Lo + b + 130) ≤ 2 ^ 128 * c := by
    have a : m * 2 ^ (Lo + b + 130) ≤ m * 2 ^ (Lo + b + 130 + k) := Nat.mul_le_mul_left _ (Nat.pow_le_pow_right (by omega) (by omega))
    have b2 : (2 ^ 128 - 2 ^ 117) * c ≤ 2 ^ 128 * c := Nat.mul_le_mul_right _ (by omega)
    omega
  refine Nat.le_of_mul_le_mul_left (c := 2 ^ 128) ?_ (Nat.two_pow_pos _)
  refine Nat.le_trans ?_ h1
  have e1 : 2 ^ 128 * (d * m * 2 ^ (Lo + 1)) = m * (d * 2 ^ (Lo + 129)) := by
    have : 2 ^ (Lo + 129) = 2 ^ 128 * 2 ^ (Lo + 1) := by rw [← Nat.pow_add]; congr 1; omega
    rw [this]
    generalize 2 ^ (Lo + 1) = p1
    generalize 2 ^ 128 = p2
    ac_rfl
  rw [e1]
  refine Nat.mul_le_mul_left _ ?_
  have e2 : 2 ^ (Lo + b + 130) = 2 ^ b * 2 ^ (Lo + 130) := by rw [← Nat.pow_add]; congr 1; omega
  rw [e2]
  exact Nat.mul_le_mul (Nat.le_of_lt hd) (Nat.pow_le_pow_right (by omega) (by omega))

end Go.Proofs.YtnpinogjajhlhaaGreatDoor.Fl
end
section
/- The model's floating numbers (Ieee) against the rounding theory: what is written for a number is its nearest rung; products and quotients are rounded once. -/
namespace Go.Proofs.YtnpinogjajhlhaaGreatDoor.Fl
open Ieee

theorem cut_rhe (neg : Bool) (n drop : Nat) : Toward.even.cut neg n drop = rhe n (2 ^ drop) := by
  unfold Toward.cut
  simp only [Nat.shiftLeft_eq, Nat.one_mul]
  by_cases h : drop ≤ n.log2 + 2
  · rw [Nat.min_eq_left h]
    unfold rhe
    by_cases hc : 2 ^ drop < 2 * (n % 2 ^ drop) ∨ 2 * (n % 2 ^ drop) = 2 ^ drop ∧ n / 2 ^ drop % 2 = 1
    · rw [if_pos hc]
      congr 1
      rcases hc with hc | ⟨h1, h2⟩
      · simp [hc]
      · simp [h1, h2]
    · rw [if_neg hc]
      congr 1
      have h1 : ¬ 2 ^ drop < 2 * (n % 2 ^ drop) := fun h => hc (Or.inl h)
      have h2 : ¬ (2 ^ drop = 2 * (n % 2 ^ drop) ∧ n / 2 ^ drop % 2 = 1) := fun h => hc (Or.inr ⟨h.1.symm, h.2⟩)
      simp only [Bool.toNat_eq_zero, Bool.or_eq_false_iff, decide_eq_false_iff_not, Bool.and_eq_false_iff, beq_eq_false_iff_ne]
      refine ⟨h1, ?_⟩
      by_cases h3 : 2 ^ drop = 2 * (n % 2 ^ drop)
      · right; exact fun h4 => h2 ⟨h3, h4⟩
      · left; exact h3
  · rw [Nat.min_eq_right (by omega)]
    have hn : n < 2 ^ (n.log2 + 1) := Nat.lt_log2_self
    have hn2 : 2 * 2 ^ (n.log2 + 1) = 2 ^ (n.log2 + 2) := by rw [← Nat.pow_succ']
    have hn3 : 2 ^ (n.log2 + 2) ≤ 2 ^ drop := Nat.pow_le_pow_right (by omega) (by omega)
    have d1 : n / 2 ^ drop = 0 := Nat.div_eq_of_lt (by omega)
    have m1 : n % 2 ^ drop = n := Nat.mod_eq_of_lt (by omega)
    have d2 : n / 2 ^ (n.log2 + 2) = 0 := Nat.div_eq_of_lt (by omega)
    have m2 : n % 2 ^ (n.log2 + 2) = n := Nat.mod_eq_of_lt (by omega)
    unfold rhe
    rw [d1, m1, d2, m2, if_neg (by omega)]
    have h1 : ¬ 2 ^ (n.log2 + 2) < 2 * n := by omega
    simp [h1]

/-- A number's ratio, scaled: the exponents come to the same. -/
theorem place_scale {m p1 p2 l a b c e : Nat} (h : p1 + l + 1 + b = p2 + 1 + a + c) (he : e = m * 2 ^ p1) :
    e * 2 ^ (l + 1) * 2 ^ b = 2 ^ p2 * (2 * (m * 2 ^ a) * 2 ^ c) := by
  have h1 : e * 2 ^ (l + 1) * 2 ^ b = m * 2 ^ (p1 + (l + 1) + b) := by rw [he, Nat.pow_add 2 (p1 + (l + 1)) b, Nat.pow_add 2 p1 (l + 1)]; ac_rfl
  have h2 : 2 ^ p2 * (2 * (m * 2 ^ a) * 2 ^ c) = m * 2 ^ (p2 + 1 + a + c) := by
    rw [Nat.pow_add 2 (p2 + 1 + a) c, Nat.pow_add 2 (p2 + 1) a, Nat.pow_succ]; ac_rfl
  rw [h1, h2, show p1 + (l + 1) + b = p2 + 1 + a + c from by omega]

/-- What the format writes for a number above 0. -/
theorem nearest_rn {f : Format} {Lo : Nat} (hL : f.leastPlace = -(Lo : Int)) (hF : 1 ≤ f.fractionBits) (neg : Bool) {mag : Nat} (hm : mag ≠ 0) (place : Int) :
    ∃ r, f.nearest neg mag place = f.word neg (min r f.infRung) ∧ RN f.binade (2 ^ (Lo + 1)) (mag * 2 ^ place.toNat) (2 ^ (-place).toNat) r := by
  have hlog : 2 ^ mag.log2 ≤ mag := Nat.log2_self_le hm
  have hlog2 : mag < 2 ^ (mag.log2 + 1) := Nat.lt_log2_self
  have hB : f.binade = 2 ^ f.fractionBits := rfl
  have hB2 : f.binade % 2 = 0 := by
    rw [hB]; obtain ⟨u, hu⟩ : ∃ u, f.fractionBits = u + 1 := ⟨f.fractionBits - 1, by omega⟩
    rw [hu, Nat.pow_succ, Nat.mul_mod_left]
  unfold Format.nearest
  rw [if_neg hm]
  dsimp only
  obtain ⟨last, hlast⟩ : ∃ last, last = max (place + mag.log2 - f.fractionBits) f.leastPlace := ⟨_, rfl⟩
  rw [← hlast, Nat.shiftLeft_eq, cut_rhe]
  refine ⟨_, rfl, ?_⟩
  have hD : 0 < 2 ^ (last - place).toNat := Nat.two_pow_pos _
  have hq : mag * 2 ^ (place - last).toNat / 2 ^ (last - place).toNat < 2 * f.binade := by
    refine (Nat.div_lt_iff_lt_mul hD).2 ?_
    have e1 : mag * 2 ^ (place - last).toNat < 2 ^ (mag.log2 + 1) * 2 ^ (place - last).toNat := Nat.mul_lt_mul_of_pos_right hlog2 (Nat.two_pow_pos _)
    have e2 : 2 * f.binade * 2 ^ (last - place).toNat = 2 ^ (f.fractionBits + 1 + (last - place).toNat) := by
      rw [hB, Nat.pow_add, Nat.pow_succ, Nat.mul_comm 2]
    rw [e2, ← Nat.pow_add] at *
    exact Nat.lt_of_lt_of_le e1 (Nat.pow_le_pow_right (by omega) (by omega))
  have hl : (last - f.leastPlace).toNat = 0 ∨ f.binade ≤ mag * 2 ^ (place - last).toNat / 2 ^ (last - place).toNat := by
    by_cases h : (last - f.leastPlace).toNat = 0
    · exact Or.inl h
    · right
      refine (Nat.le_div_iff_mul_le hD).2 ?_
      have e1 : 2 ^ mag.log2 * 2 ^ (place - last).toNat ≤ mag * 2 ^ (place - last).toNat := Nat.mul_le_mul_right _ hlog
      refine Nat.le_trans ?_ e1
      rw [hB, ← Nat.pow_add, ← Nat.pow_add]
      exact Nat.pow_le_pow_right (by omega) (by omega)
  refine rn_of hB2 (by rw [hB]; exact Nat.two_pow_pos _) hD ?_ hq hl (Nat.two_pow_pos _)
  exact place_scale (by omega) rfl

/-- Magnitude and place of a rung below infinity. -/
def vmag (f : Format) (r : Nat) : Nat := if r < f.binade then r else f.binade + r % f.binade
def vplace (f : Format) (r : Nat) : Int := f.leastPlace + (r / f.binade - 1 : Nat)

theorem infRung_le (f : Format) : f.infRung ≤ f.signWeight := by
  unfold Format.infRung Format.signWeight Format.binade
  rw [Nat.pow_add]
  exact Nat.mul_le_mul_right _ (Nat.sub_le _ _)

theorem infRung_lt' (f : Format) : f.infRung < f.signWeight := by
  unfold Format.infRung Format.signWeight Format.binade
  rw [Nat.pow_add]
  exact Nat.mul_lt_mul_of_pos_right (by have := Nat.two_pow_pos f.exponentBits; omega) (Nat.two_pow_pos _)

/-- A word's reading. -/
theorem read_word {f : Format} (neg : Bool) {r : Nat} (hr : r < f.infRung) : f.read (f.word neg r) = .number neg (vmag f r) (vplace f r) := by
  have hb : 0 < f.binade := Nat.two_pow_pos _
  have hlt := infRung_lt' f
  have hw : 0 < f.signWeight := Nat.two_pow_pos _
  have h1 : (f.word neg r / f.signWeight % 2 == 1) = neg := by
    unfold Format.word
    cases neg
    · simp only [Bool.false_eq_true, if_false]
      rw [Nat.div_eq_of_lt (by omega)]; rfl
    · simp only [if_true]
      rw [Nat.add_div_left _ hw, Nat.div_eq_of_lt (by omega)]; rfl
  have h2 : f.word neg r % f.signWeight = r := by
    unfold Format.word
    cases neg
    · simp only [Bool.false_eq_true, if_false]
      exact Nat.mod_eq_of_lt (by omega)
    · simp only [if_true]
      rw [Nat.add_mod_left]; exact Nat.mod_eq_of_lt (by omega)
  unfold Format.read
  simp only [h1, h2]
  unfold vmag vplace
  by_cases h : r < f.binade
  · rw [if_pos h, if_pos h, Nat.div_eq_of_lt h]; simp
  · rw [if_neg h, if_neg h, if_pos hr]

/-- The word of infinity. -/
theorem read_inf {f : Format} (hb2 : 2 ≤ 2 ^ f.exponentBits) (neg : Bool) : f.read (f.word neg f.infRung) = .infinity neg := by
  have hb : 0 < f.binade := Nat.two_pow_pos _
  have hlt := infRung_lt' f
  have hw : 0 < f.signWeight := Nat.two_pow_pos _
  have h1 : (f.word neg f.infRung / f.signWeight % 2 == 1) = neg := by
    unfold Format.word
    cases neg
    · simp only [Bool.false_eq_true, if_false]
      rw [Nat.div_eq_of_lt (by omega)]; rfl
    · simp only [if_true]
      rw [Nat.add_div_left _ hw, Nat.div_eq_of_lt (by omega)]; rfl
  have h2 : f.word neg f.infRung % f.signWeight = f.infRung := by
    unfold Format.word
    cases neg
    · simp only [Bool.false_eq_true, if_false]
      exact Nat.mod_eq_of_lt (by omega)
    · simp only [if_true]
      rw [Nat.add_mod_left]; exact Nat.mod_eq_of_lt (by omega)
  unfold Format.read
  simp only [h1, h2]
  have h3 : f.binade ≤ f.infRung := by
    unfold Format.infRung
    exact Nat.le_mul_of_pos_left _ (by omega)
  rw [if_neg (by omega), if_neg (by omega)]
  simp

/-- The rung of what is a rung's very number. -/
theorem rn_exact {f : Format} {Lo : Nat} (hL : f.leastPlace = -(Lo : Int)) (hF : 1 ≤ f.fractionBits) (r : Nat) :
    RN f.binade (2 ^ (Lo + 1)) (vmag f r * 2 ^ (vplace f r).toNat) (2 ^ (-vplace f r).toNat) r := by
  have hB : f.binade = 2 ^ f.fractionBits := rfl
  have hb : 0 < f.binade := Nat.two_pow_pos _
  have hB2 : f.binade % 2 = 0 := by
    rw [hB]; obtain ⟨u, hu⟩ : ∃ u, f.fractionBits = u + 1 := ⟨f.fractionBits - 1, by omega⟩
    rw [hu, Nat.pow_succ, Nat.mul_mod_left]
  obtain ⟨t, q, rfl, hq, ht⟩ := rung_form hb r
  have hvm : vmag f (t * f.binade + q) = q ∧ vplace f (t * f.binade + q) = f.leastPlace + t := by
    unfold vmag vplace
    by_cases h : q < f.binade
    · have h0 : t = 0 := by omega
      subst h0
      simp [h, Nat.div_eq_of_lt h]
    · have e : t * f.binade + q = (t + 1) * f.binade + (q - f.binade) := by rw [Nat.add_mul]; omega
      have hd : ((t + 1) * f.binade + (q - f.binade)) / f.binade = t + 1 := by
        rw [Nat.mul_comm, Nat.mul_add_div hb, Nat.div_eq_of_lt (by omega)]
      have hm : ((t + 1) * f.binade + (q - f.binade)) % f.binade = q - f.binade := by
        rw [Nat.mul_comm, Nat.mul_add_mod, Nat.mod_eq_of_lt (by omega)]
      have hn : ¬ (t + 1) * f.binade + (q - f.binade) < f.binade := by rw [Nat.add_mul]; omega
      rw [e, if_neg hn, hd, hm]
      exact ⟨by omega, by simp⟩
  rw [hvm.1, hvm.2]
  have := rn_of (B := f.binade) (S := 2 ^ (Lo + 1)) (n := q * 2 ^ (f.leastPlace + t).toNat) (d := 2 ^ (-(f.leastPlace + t)).toNat) (N := q) (D := 1) (t := t) hB2 hb (by omega)
    (by
      have := place_scale (m := q) (p1 := (f.leastPlace + t).toNat) (p2 := (-(f.leastPlace + t)).toNat) (l := Lo) (a := 0) (b := 0) (c := t) (by omega) rfl
      simpa using this) (by simpa using hq) (by simpa using ht) (Nat.two_pow_pos _)
  have e : rhe q 1 = q := by unfold rhe; simp [Nat.mod_one]
  rw [e] at this
  exact this

end Go.Proofs.YtnpinogjajhlhaaGreatDoor.Fl
end
