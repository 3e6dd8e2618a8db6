/- A part of the proof that lexiconlaw03.NumsReads answers true at every kind and every text: Us, DwUs. No condition. -/
import Derived.Test.YtnpinogjajhlhaaGreatDoorZ02
import Derived.Test.YtnpinogjajhlhaaGreatDoorZ01
import Derived.Laws.BitsLemmas
import Derived.IntWalk
import Derived.Deep.DeepCutAuto
import Derived.Deep.CutBlock
section
/- Go's fast scaling (uscale) gives the exact floor, and a mark where something is left over: for each power of the table. -/
namespace Go.Proofs.YtnpinogjajhlhaaGreatDoor.Fl

/-- a, its last bit set if b. -/
def st (a : Nat) (b : Bool) : Nat := if b = true then a / 2 * 2 + 1 else a

def us (x hi lo s : Nat) : Nat :=
  if x * hi / 2 ^ 64 / 2 ^ s * 2 ^ s ≠ x * hi / 2 ^ 64 then st (x * hi / 2 ^ 64 / 2 ^ s) true
  else st ((x * hi / 2 ^ 64 - (if x * hi % 2 ^ 64 < x * lo / 2 ^ 64 then 1 else 0)) / 2 ^ s) (decide (1 < (x * hi % 2 ^ 64 + 2 ^ 64 - x * lo / 2 ^ 64) % 2 ^ 64))

theorem us_core {W K H m g : Nat} (hW : 2 < W) (hK : 2 ≤ K) (hm : m < W) (hg : g + 2 ≤ W) (hH : 1 ≤ H) :
    (if H / K * K ≠ H then st (H / K) true else st ((H - (if m < g then 1 else 0)) / K) (decide (1 < (m + W - g) % W)))
      = st ((H * W + m - g) / (W * K)) (decide (1 < (H * W + m - g) % (W * K))) := by
  have hW0 : 0 < W := by omega
  have hK0 : 0 < K := by omega
  have hHK := Nat.div_add_mod H K
  have hHl := Nat.mod_lt H hK0
  have hcm : K * (H / K) = H / K * K := Nat.mul_comm ..
  by_cases hb : m < g
  · have e : H * W + m - g = W * (H - 1) + (m + W - g) := by
      obtain ⟨h, rfl⟩ : ∃ h, H = h + 1 := ⟨H - 1, by omega⟩
      rw [Nat.add_mul, Nat.add_sub_cancel, Nat.mul_comm h W]; omega
    have hl : m + W - g < W := by omega
    have d1 : (H * W + m - g) / (W * K) = (H - 1) / K := by
      rw [e, ← Nat.div_div_eq_div_mul, Nat.mul_add_div hW0, Nat.div_eq_of_lt hl, Nat.add_zero]
    have d2 : 1 < (H * W + m - g) % (W * K) := by
      rw [e, Nat.mod_mul, Nat.mul_add_mod, Nat.mod_eq_of_lt hl]; omega
    rw [d1, decide_eq_true d2, if_pos hb, Nat.mod_eq_of_lt hl, decide_eq_true (show 1 < m + W - g by omega)]
    by_cases hz : H / K * K ≠ H
    · rw [if_pos hz]
      congr 1
      have : H - 1 = K * (H / K) + (H % K - 1) := by omega
      have e5 : (H % K - 1) / K = 0 := Nat.div_eq_of_lt (by omega)
      rw [this, Nat.mul_add_div hK0, e5, Nat.add_zero]
    · rw [if_neg hz]
  · have e : H * W + m - g = W * H + (m - g) := by rw [Nat.mul_comm]; omega
    have hl : m - g < W := by omega
    have d1 : (H * W + m - g) / (W * K) = H / K := by
      rw [e, ← Nat.div_div_eq_div_mul, Nat.mul_add_div hW0, Nat.div_eq_of_lt hl, Nat.add_zero]
    have d2 : (H * W + m - g) % (W * K) = (m - g) + W * (H % K) := by
      rw [e, Nat.mod_mul, Nat.mul_add_mod, Nat.mod_eq_of_lt hl, Nat.mul_add_div hW0, Nat.div_eq_of_lt hl, Nat.add_zero]
    have e3 : (m + W - g) % W = m - g := by
      rw [show m + W - g = (m - g) + W from by omega, Nat.add_mod_right, Nat.mod_eq_of_lt hl]
    rw [d1, d2, if_neg hb, e3]
    by_cases hz : H / K * K ≠ H
    · rw [if_pos hz]
      have h1 : 1 ≤ H % K := by omega
      have : W * 1 ≤ W * (H % K) := Nat.mul_le_mul_left _ h1
      rw [decide_eq_true (show 1 < (m - g) + W * (H % K) by omega)]
    · rw [if_neg hz]
      have h0 : H % K = 0 := by omega
      rw [h0, Nat.mul_zero, Nat.add_zero, Nat.sub_zero]

theorem us_eq {x hi lo s : Nat} (hx : x < 2 ^ 64) (hlo : lo < 2 ^ 64) (hs : 1 ≤ s) (hh : 1 ≤ x * hi / 2 ^ 64) :
    us x hi lo s = st ((x * hi - x * lo / 2 ^ 64) / (2 ^ 64 * 2 ^ s)) (decide (1 < (x * hi - x * lo / 2 ^ 64) % (2 ^ 64 * 2 ^ s))) := by
  have hg : x * lo / 2 ^ 64 + 2 ≤ 2 ^ 64 := by
    have h1 : x * lo ≤ (2 ^ 64 - 1) * (2 ^ 64 - 1) := Nat.mul_le_mul (by omega) (by omega)
    omega
  have hK : 2 ≤ 2 ^ s := by
    have := Nat.pow_le_pow_right (show 0 < 2 by omega) hs
    omega
  have := us_core (W := 2 ^ 64) (K := 2 ^ s) (H := x * hi / 2 ^ 64) (m := x * hi % 2 ^ 64) (g := x * lo / 2 ^ 64) (by omega) hK (Nat.mod_lt _ (by omega)) hg hh
  unfold us
  rw [this]
  have e : x * hi / 2 ^ 64 * 2 ^ 64 + x * hi % 2 ^ 64 = x * hi := Nat.div_add_mod' ..
  rw [e]

/-- Between two neighbouring fractions: how near x m comes to a whole number of units. -/
theorem cert_far {m q1 q2 x y : Nat} (h : certOk m q1 q2 = true) (hx : x < 2 ^ 64) (hx2 : 2 ^ 63 ≤ x) (hl : y * 2 ^ 136 < x * m + 2 ^ 64) : y * 2 ^ 136 + 2 ^ 64 < x * m := by
  unfold certOk at h
  simp only [Bool.and_eq_true, decide_eq_true_eq] at h
  obtain ⟨⟨⟨⟨hdet, hq⟩, hr1⟩, hq2⟩, hr2⟩ := h
  have hBp : 0 < 2 ^ 136 := by omega
  generalize (2 : Nat) ^ 136 = B at *
  have hdm1 := Nat.div_add_mod (q1 * m) B
  have hdm2 := Nat.div_add_mod (q2 * m) B
  have hml2 := Nat.mod_lt (q2 * m) hBp
  generalize q1 * m / B = a1 at *
  generalize q2 * m / B = a2 at *
  generalize q1 * m % B = r1 at *
  generalize hc : (2 ^ 63 - 1) / q2 = c at *
  have hcl : c * q2 < 2 ^ 63 := by
    have := Nat.div_mul_le_self (2 ^ 63 - 1) q2
    rw [hc] at this; omega
  obtain ⟨r2, hr2e⟩ : ∃ r2, r2 = B - q2 * m % B := ⟨_, rfl⟩
  rw [← hr2e] at hr2
  have hr2p : 0 < r2 := by omega
  -- as whole numbers with a sign
  have d : (q1 : Int) * (a2 + 1) = q2 * a1 + 1 := by exact_mod_cast hdet
  have e1 : (q1 : Int) * m = B * a1 + r1 := by exact_mod_cast hdm1.symm
  have e2 : (q2 : Int) * m = B * (a2 + 1) - r2 := by
    have : q2 * m + r2 = B * (a2 + 1) := by rw [Nat.mul_add]; omega
    have : ((q2 * m + r2 : Nat) : Int) = ((B * (a2 + 1) : Nat) : Int) := congrArg _ this
    push_cast at this
    omega
  generalize hu : (x : Int) * (a2 + 1) - y * q2 = u
  generalize hv : (y : Int) * q1 - x * a1 = v
  have hxe : u * q1 + v * q2 = x := by
    rw [← hu, ← hv]
    have : ((x : Int) * (a2 + 1) - y * q2) * q1 + (y * q1 - x * a1) * q2 = x * (q1 * (a2 + 1) - q2 * a1) := by grind
    rw [this, d]; grind
  have hye : u * a1 + v * (a2 + 1) = y := by
    rw [← hu, ← hv]
    have : ((x : Int) * (a2 + 1) - y * q2) * a1 + (y * q1 - x * a1) * (a2 + 1) = y * (q1 * (a2 + 1) - q2 * a1) := by grind
    rw [this, d]; grind
  have hval : (x : Int) * m - y * B = u * r1 - v * r2 := by
    have h1 : u * (q1 * m) + v * (q2 * m) = x * m := by rw [← hxe]; grind
    rw [← h1, e1, e2, ← hye]; grind
  have hx0 : (2 : Int) ^ 63 ≤ x := by exact_mod_cast hx2
  have hx1 : (x : Int) < 2 ^ 64 := by exact_mod_cast hx
  have hq' : (2 : Int) ^ 64 ≤ q1 + q2 := by exact_mod_cast hq
  have hl' : (y : Int) * B < x * m + 2 ^ 64 := by exact_mod_cast hl
  have hr1' : (2 : Int) ^ 64 < r1 := by exact_mod_cast hr1
  have hr2' : (2 : Int) ^ 64 ≤ (c + 1) * r2 := by exact_mod_cast hr2
  have hcl' : (c : Int) * q2 < 2 ^ 63 := by exact_mod_cast hcl
  have hr2p' : (0 : Int) < r2 := by exact_mod_cast hr2p
  have hq1n : (0 : Int) ≤ q1 := Int.natCast_nonneg _
  have hq2n : (0 : Int) < q2 := by exact_mod_cast hq2
  have goal : (y : Int) * B + 2 ^ 64 < x * m := by
    by_cases hu1 : 1 ≤ u
    · by_cases hv1 : 1 ≤ v
      · exfalso
        have a := Int.mul_le_mul_of_nonneg_right hu1 hq1n
        have b := Int.mul_le_mul_of_nonneg_right hv1 (Int.le_of_lt hq2n)
        omega
      · have a := Int.mul_le_mul_of_nonneg_right hu1 (show (0 : Int) ≤ r1 by omega)
        have b := Int.mul_le_mul_of_nonneg_right (show v ≤ 0 by omega) (Int.le_of_lt hr2p')
        omega
    · exfalso
      by_cases hv1 : 1 ≤ v
      · by_cases hu0 : u = 0
        · subst hu0
          have hvc : (c : Int) + 1 ≤ v := by
            refine Int.not_lt.1 fun hlt => ?_
            have := Int.mul_le_mul_of_nonneg_right (show v ≤ c by omega) (Int.le_of_lt hq2n)
            omega
          have := Int.mul_le_mul_of_nonneg_right hvc (Int.le_of_lt hr2p')
          omega
        · have a := Int.mul_le_mul_of_nonneg_right (show u ≤ -1 by omega) (show (0 : Int) ≤ r1 by omega)
          have b := Int.mul_le_mul_of_nonneg_right hv1 (Int.le_of_lt hr2p')
          omega
      · have a := Int.mul_le_mul_of_nonneg_right (show u ≤ 0 by omega) hq1n
        have b := Int.mul_le_mul_of_nonneg_right (show v ≤ 0 by omega) (Int.le_of_lt hq2n)
        omega
  exact_mod_cast goal

/-- What the scaled number's floor leaves, and that the reckoned one leaves the same. -/
theorem good_core {T D P M x Q W A R g hi lo : Nat} (hW : 2 < W) (hQ : 1 < Q) (hD : 0 < D) (hx : x < W)
    (hT1 : T ≤ P * D) (hT2 : P * D < T + D) (hP : x * P = x * hi * W - x * lo) (hM : M = x * hi - g) (hg1 : g * W ≤ x * lo) (hg2 : x * lo < g * W + W) (hle : g ≤ x * hi)
    (hA : x * T = D * (W * Q) * A + R) (hR : R < D * (W * Q)) (hlow : x * lo ≤ x * hi * W) (hfar : x * T ≤ M * W * D → M * W * D < x * T + 2 * W * D → R ≠ 0 → 1 < M % Q) :
    M / Q = A ∧ (1 < M % Q ↔ R ≠ 0) := by
  have hQ0 : 0 < Q := by omega
  have hM1 : M * W = x * hi * W - g * W := by rw [hM, Nat.sub_mul]
  have hM2 : x * P ≤ M * W := by omega
  have hM3 : M * W < x * P + W := by
    have : g * W ≤ x * hi * W := Nat.mul_le_mul_right _ hle
    omega
  have t1 : x * T ≤ M * W * D := by
    calc x * T ≤ x * (P * D) := Nat.mul_le_mul_left _ hT1
      _ = x * P * D := (Nat.mul_assoc ..).symm
      _ ≤ M * W * D := Nat.mul_le_mul_right _ hM2
  have t2 : M * W * D < x * T + 2 * W * D := by
    have a : (M * W) * D < (x * P + W) * D := Nat.mul_lt_mul_of_pos_right hM3 hD
    have b : x * (P * D) ≤ x * (T + D) := Nat.mul_le_mul_left _ (Nat.le_of_lt hT2)
    have c : x * D ≤ W * D := Nat.mul_le_mul_right _ (Nat.le_of_lt hx)
    rw [Nat.add_mul, Nat.mul_assoc x] at a
    rw [Nat.mul_add] at b
    have e : 2 * W * D = W * D + W * D := by rw [Nat.mul_assoc, Nat.two_mul]
    omega
  have hDW : 0 < D * W := Nat.mul_pos hD (by omega)
  have e1 : D * (W * Q) * A = D * W * (Q * A) := by rw [← Nat.mul_assoc, Nat.mul_assoc]
  have e2 : M * W * D = D * W * M := by rw [Nat.mul_comm, Nat.mul_comm M, ← Nat.mul_assoc]
  have e3 : 2 * W * D = D * W * 2 := by rw [Nat.mul_comm, Nat.mul_comm 2, ← Nat.mul_assoc]
  have e4 : D * (W * Q) = D * W * Q := (Nat.mul_assoc ..).symm
  have low : Q * A ≤ M := by
    refine Nat.le_of_mul_le_mul_left (c := D * W) ?_ hDW
    omega
  have high : M < Q * A + Q + 2 := by
    refine Nat.lt_of_mul_lt_mul_left (a := D * W) ?_
    rw [Nat.mul_add, Nat.mul_add]
    omega
  have high0 : R = 0 → M < Q * A + 2 := fun h0 => by
    refine Nat.lt_of_mul_lt_mul_left (a := D * W) ?_
    rw [Nat.mul_add]
    omega
  have hdm := Nat.div_add_mod M Q
  have hml := Nat.mod_lt M hQ0
  have mk : M < Q * A + Q → M / Q = A := fun h => by
    have := Nat.div_eq_of_lt_le (m := M) (n := Q) (k := A) (by rw [Nat.mul_comm]; omega) (by rw [Nat.add_mul, Nat.one_mul, Nat.mul_comm A]; omega)
    exact this
  by_cases h0 : R = 0
  · have h1 := high0 h0
    have h2 := mk (by omega)
    refine ⟨h2, ⟨fun h => ?_, fun h => absurd h0 h⟩⟩
    rw [h2] at hdm; omega
  · have h1 := hfar t1 t2 h0
    have h2 : M < Q * A + Q := by
      refine Nat.lt_of_not_le fun hge => ?_
      have : M / Q = A + 1 := Nat.div_eq_of_lt_le (by rw [Nat.add_mul, Nat.one_mul, Nat.mul_comm A]; omega) (by
        rw [Nat.add_mul, Nat.add_mul, Nat.one_mul, Nat.mul_comm A]; omega)
      rw [this, Nat.mul_add] at hdm; omega
    exact ⟨mk h2, ⟨fun _ => h0, fun _ => h1⟩⟩

theorem far_cert {x a b m s : Nat} {c : Nat × Nat} (hm : m = a * 2 ^ 64 - b) (hc : certOk m c.1 c.2 = true) (hx : 2 ^ 63 ≤ x) (hx2 : x < 2 ^ 64) (hs : 8 ≤ s) (hg : x * b / 2 ^ 64 ≤ x * a) :
    1 < (x * a - x * b / 2 ^ 64) % (2 ^ 64 * 2 ^ s) := by
  refine Nat.lt_of_not_le fun hle => ?_
  have hdm := Nat.div_add_mod (x * b) (2 ^ 64)
  have hml := Nat.mod_lt (x * b) (show 0 < 2 ^ 64 by omega)
  have hM := Nat.div_add_mod (x * a - x * b / 2 ^ 64) (2 ^ 64 * 2 ^ s)
  generalize (x * a - x * b / 2 ^ 64) / (2 ^ 64 * 2 ^ s) = y at *
  generalize (x * a - x * b / 2 ^ 64) % (2 ^ 64 * 2 ^ s) = e at *
  have hKs : 2 ^ s = 2 ^ 8 * 2 ^ (s - 8) := by rw [← Nat.pow_add]; congr 1; omega
  have hy : 2 ^ 64 * 2 ^ s * y * 2 ^ 64 = y * 2 ^ (s - 8) * 2 ^ 136 := by
    have hac : ∀ W e u y : Nat, W * (e * u) * y * W = y * u * (W * e * W) := fun W e u y => by ac_rfl
    rw [hKs, hac, ← Nat.pow_add, ← Nat.pow_add]
  have h1 : (2 ^ 64 * 2 ^ s * y + e) * 2 ^ 64 = (x * a - x * b / 2 ^ 64) * 2 ^ 64 := by rw [hM]
  rw [Nat.add_mul, hy, Nat.sub_mul] at h1
  have hxm : x * m = x * a * 2 ^ 64 - x * b := by rw [hm, Nat.mul_sub, Nat.mul_assoc]
  have h2 := cert_far (y := y * 2 ^ (s - 8)) hc hx2 hx
  clear hM hy hKs hc
  generalize y * 2 ^ (s - 8) = z at *
  generalize x * m = xm at *
  generalize x * a = xa at *
  generalize x * b = xb at *
  have h3 := h2 (by omega)
  omega

theorem far_even {x a b T D W Q : Nat} (hb : b = 0) (ha : a % 2 = 0) (hP : a * W * D = T) (hR : x * T % (D * (W * Q)) ≠ 0) (hQ2 : Q % 2 = 0) :
    1 < (x * a - x * b / W) % Q := by
  subst hb
  rw [Nat.mul_zero, Nat.zero_div, Nat.sub_zero]
  refine Nat.lt_of_not_le fun hle => ?_
  have hdm := Nat.div_add_mod (x * a) Q
  have hxa : x * a % 2 = 0 := by rw [Nat.mul_mod, ha]; simp
  have hq : Q * (x * a / Q) % 2 = 0 := by rw [Nat.mul_mod, hQ2]; simp
  have h0 : x * a % Q = 0 := by omega
  refine hR ?_
  rw [h0, Nat.add_zero] at hdm
  have e : x * T = D * (W * Q) * (x * a / Q) := by
    calc x * T = x * a * (W * D) := by rw [← hP]; ac_rfl
      _ = Q * (x * a / Q) * (W * D) := by rw [hdm]
      _ = D * (W * Q) * (x * a / Q) := by ac_rfl
  rw [e, Nat.mul_mod_right]

/-- A small negative power: what is left over is not small. -/
theorem far_neg {n T F W K s M R A : Nat} (hF0 : 0 < F) (hT : T % (2 ^ (128 + n)) = 0) (hF : 2 * W * F ≤ 2 ^ 128) (hK : K = 2 ^ (128 + s)) (x : Nat) (hWQ : 0 < W)
    (hA : x * T = 2 ^ n * F * K * A + R) (hR : R ≠ 0) {Q : Nat} (hQ : W * Q = K) (h1 : x * T ≤ M * W * (2 ^ n * F)) (hup : M * W * (2 ^ n * F) < x * T + 2 * W * (2 ^ n * F)) (hRl : R < 2 ^ n * F * K) :
    1 < M % Q := by
  have hp : 0 < 2 ^ (128 + n) := Nat.two_pow_pos _
  have hTd : 2 ^ (128 + n) ∣ T := Nat.dvd_of_mod_eq_zero hT
  have hKd : 2 ^ (128 + n) ∣ 2 ^ n * F * K := by
    rw [hK, show 2 ^ n * F * 2 ^ (128 + s) = 2 ^ (128 + n) * (F * 2 ^ s) from by rw [Nat.pow_add, Nat.pow_add 2 128 n]; ac_rfl]
    exact Nat.dvd_mul_right _ _
  have hRd : 2 ^ (128 + n) ∣ R := (Nat.dvd_add_right (Nat.dvd_trans hKd (Nat.dvd_mul_right _ A))).1 (hA ▸ Nat.dvd_trans hTd (Nat.dvd_mul_left _ _))
  have hRge : 2 ^ (128 + n) ≤ R := Nat.le_of_dvd (Nat.pos_of_ne_zero hR) hRd
  have hsub : 2 ^ (128 + n) ∣ 2 ^ n * F * K - R := Nat.dvd_sub hKd hRd
  have hRge2 : 2 ^ (128 + n) ≤ 2 ^ n * F * K - R := Nat.le_of_dvd (by omega) hsub
  have hbig : 2 * W * (2 ^ n * F) ≤ 2 ^ (128 + n) := by
    rw [Nat.pow_add]
    calc 2 * W * (2 ^ n * F) = 2 * W * F * 2 ^ n := by ac_rfl
      _ ≤ 2 ^ 128 * 2 ^ n := Nat.mul_le_mul_right _ hF
  -- M lies between A Q + 2 and A Q + Q
  have hE : 0 < 2 ^ n * F * W := Nat.mul_pos (Nat.mul_pos (Nat.two_pow_pos _) hF0) hWQ
  have e1 : M * W * (2 ^ n * F) = 2 ^ n * F * W * M := by ac_rfl
  have e2 : 2 * W * (2 ^ n * F) = 2 ^ n * F * W * 2 := by ac_rfl
  have e3 : 2 ^ n * F * K * A = 2 ^ n * F * W * (Q * A) := by rw [← hQ]; ac_rfl
  have e4 : 2 ^ n * F * K = 2 ^ n * F * W * Q := by rw [← hQ]; ac_rfl
  rw [e1] at h1 hup
  rw [e2] at hup hbig
  rw [e3] at hA
  rw [e4] at hRl hRge2
  generalize 2 ^ n * F * W = E at *
  have lo : Q * A + 2 ≤ M := by
    refine Nat.le_of_mul_le_mul_left (c := E) ?_ hE
    rw [Nat.mul_add]; omega
  have hi : M < Q * A + Q := by
    refine Nat.lt_of_mul_lt_mul_left (a := E) ?_
    rw [Nat.mul_add]; omega
  have hdm := Nat.div_add_mod M Q
  have : M / Q = A := Nat.div_eq_of_lt_le (by rw [Nat.mul_comm]; omega) (by rw [Nat.add_mul, Nat.one_mul, Nat.mul_comm A]; omega)
  rw [this] at hdm
  omega

theorem us_fin {T D x a b W Q : Nat} (hW : 2 < W) (hQ : 1 < Q) (hD : 0 < D) (hx : x < W) (ha : 1 ≤ a) (hb : b < W) (hT1 : T ≤ (a * W - b) * D) (hT2 : (a * W - b) * D < T + D)
    (hfar : x * T ≤ (x * a - x * b / W) * W * D → (x * a - x * b / W) * W * D < x * T + 2 * W * D → x * T % (D * (W * Q)) ≠ 0 → 1 < (x * a - x * b / W) % Q) :
    st ((x * a - x * b / W) / Q) (decide (1 < (x * a - x * b / W) % Q)) = st (x * T / (D * (W * Q))) (decide (x * T % (D * (W * Q)) ≠ 0)) := by
  have hW0 : 0 < W := by omega
  have hdm := Nat.div_add_mod (x * b) W
  have hml := Nat.mod_lt (x * b) hW0
  have hcm : W * (x * b / W) = x * b / W * W := Nat.mul_comm ..
  have hxb : x * b / W ≤ x := by
    have := Nat.div_le_div_right (c := W) (Nat.mul_le_mul_left x (Nat.le_of_lt hb))
    rwa [Nat.mul_div_cancel _ hW0] at this
  have hxa : x ≤ x * a := Nat.le_mul_of_pos_right _ ha
  have hlow : x * b ≤ x * a * W := by
    have h1 : x * b ≤ x * W := Nat.mul_le_mul_left _ (Nat.le_of_lt hb)
    have h2 : x * W ≤ x * a * W := Nat.mul_le_mul_right _ hxa
    omega
  have hP : x * (a * W - b) = x * a * W - x * b := by rw [Nat.mul_sub, Nat.mul_assoc]
  have key := good_core (M := x * a - x * b / W) hW hQ hD hx hT1 hT2 hP rfl (by omega) (by omega) (by omega) (Nat.div_add_mod (x * T) (D * (W * Q))).symm (Nat.mod_lt _ (Nat.mul_pos hD (Nat.mul_pos hW0 (by omega)))) hlow hfar
  rw [key.1]
  congr 1
  by_cases h0 : x * T % (D * (W * Q)) = 0
  · rw [decide_eq_false (fun h => (key.2.1 h) h0), decide_eq_false (fun h => h h0)]
  · rw [decide_eq_true (key.2.2 h0), decide_eq_true h0]

/-- The reckoned scaling is the exact one. -/
theorem us_good {i x s : Nat} (hi : i < 696) (hx : 2 ^ 63 ≤ x) (hx2 : x < 2 ^ 64) (hs : 8 ≤ s) :
    us x (pw i).1 (pw i).2 s = st (x * tn i / (td i * (2 ^ 64 * (2 ^ 64 * 2 ^ s)))) (decide (x * tn i % (td i * (2 ^ 64 * (2 ^ 64 * 2 ^ s))) ≠ 0)) := by
  have hok := table_ok hi
  unfold tableOk at hok
  simp only [Bool.and_eq_true, decide_eq_true_eq] at hok
  obtain ⟨⟨⟨⟨⟨⟨hh1, _⟩, hlo⟩, hT1⟩, hT2⟩, _⟩, _⟩ := hok
  have htd : 0 < td i := Nat.mul_pos (Nat.pow_pos (by omega)) (Nat.two_pow_pos _)
  have hxh : 2 ^ 63 * 2 ^ 63 ≤ x * (pw i).1 := Nat.mul_le_mul hx hh1
  have hH : 1 ≤ x * (pw i).1 / 2 ^ 64 := by omega
  rw [us_eq hx2 hlo (by omega) hH]
  have hs1 : 1 ≤ 2 ^ s := Nat.two_pow_pos s
  have hs2 : 2 ^ 1 ≤ 2 ^ s := Nat.pow_le_pow_right (by omega) (by omega)
  have hev : 2 ^ s % 2 = 0 := by
    obtain ⟨u, rfl⟩ : ∃ u, s = u + 1 := ⟨s - 1, by omega⟩
    rw [Nat.pow_succ, Nat.mul_mod_left]
  have hQ : 1 < 2 ^ 64 * 2 ^ s := by omega
  have hg : x * (pw i).2 / 2 ^ 64 ≤ x * (pw i).1 := by
    have h1 : x * (pw i).2 ≤ x * 2 ^ 64 := Nat.mul_le_mul_left _ (by omega)
    have h2 : x ≤ x * (pw i).1 := Nat.le_mul_of_pos_right _ (by omega)
    omega
  refine us_fin (by omega) hQ htd hx2 (by omega) hlo hT1 hT2 fun h1 hup hR => ?_
  by_cases hc : i < 321 ∨ 372 ≤ i
  · exact far_cert (m := pm i) rfl (cert_ok hi hc) hx hx2 hs hg
  · by_cases hc2 : 348 ≤ i
    · have h1 := even_ok hc2 (by omega)
      unfold evenOk at h1
      simp only [Bool.and_eq_true, decide_eq_true_eq] at h1
      obtain ⟨⟨e1, e2⟩, e3⟩ := h1
      have e4 : (pw i).1 * 2 ^ 64 * td i = tn i := by
        have : pm i = (pw i).1 * 2 ^ 64 - (pw i).2 := rfl
        rw [e2, Nat.sub_zero] at this
        rw [← this]; exact e3
      exact far_even e2 e1 e4 hR (by rw [Nat.mul_mod, hev])
    · have h2 := neg_ok (i := i) (by omega) (by omega)
      unfold negOk at h2
      simp only [Bool.and_eq_true, decide_eq_true_eq] at h2
      obtain ⟨⟨e1, e2⟩, e3⟩ := h2
      rw [e3] at h1 hup hR
      have hdA := Nat.div_add_mod (x * tn i) (2 ^ (348 - i) * 5 ^ (348 - i) * (2 ^ 64 * (2 ^ 64 * 2 ^ s)))
      have hmA := Nat.mod_lt (x * tn i) (show 0 < 2 ^ (348 - i) * 5 ^ (348 - i) * (2 ^ 64 * (2 ^ 64 * 2 ^ s)) from e3 ▸ Nat.mul_pos htd (Nat.mul_pos (by omega) (by omega)))
      exact far_neg (K := 2 ^ 64 * (2 ^ 64 * 2 ^ s)) (s := s) (Nat.pow_pos (by omega)) e1 e2 (by rw [Nat.pow_add, ← Nat.mul_assoc, ← Nat.pow_add]) x (Nat.two_pow_pos _) hdA.symm hR rfl h1 hup hmA

end Go.Proofs.YtnpinogjajhlhaaGreatDoor.Fl
end
section
/- uscale, walked. -/
namespace Go.Proofs.YtnpinogjajhlhaaGreatDoor.Fl
open Go.RowKit

/-- An integer is given back; the world has at most drawn. -/
def IntEndQ (k : IntKind) (r : Int) (w : World) (e : Ending) (w' : World) : Prop := e = .returned (.int k r) ∧ ∃ q, w' = w.drewN q

def ScAt (w : World) (c hi lo s : Nat) : Prop :=
  w.cell? ⟨c, 0, none⟩ = some (.int .u64 hi) ∧ w.cell? ⟨c, 1, none⟩ = some (.int .u64 lo) ∧ w.cell? ⟨c, 2, none⟩ = some (.int .i64 s)

theorem bool2u_walk (b : Bool) (w : World) : Calls Tryz.prog 175 #[.bool b] w (IntEndU .u64 (b.toNat : Nat) w) := by
  go_enter Tryz.func175, Tryz.ntmps175
  cases b <;> (go_wp2_with fail; go_ret; exact ⟨rfl, rfl⟩)

theorem and63 : ∀ s : Nat, s < 64 → bits .and .i64 (s : Int) 63 = s := by decide +kernel

theorem nat_or_one (x : Nat) : x ||| 1 = x / 2 * 2 + 1 := by
  have h0 : ∀ y : Nat, y % 2 = 0 → y ||| 1 = y + 1 := fun y hy => by
    have h := Nat.two_pow_add_eq_or_of_lt (i := 1) (b := 1) (by decide) (y / 2)
    rw [show 2 ^ 1 * (y / 2) = y by omega] at h
    exact h.symm
  rcases Nat.mod_two_eq_zero_or_one x with h | h
  · rw [h0 x h]; omega
  · have e : x = (x - 1) ||| 1 := by rw [h0 (x - 1) (by omega)]; omega
    rw [e, Nat.or_assoc, Nat.or_self, ← e]; omega

theorem or_st {x : Nat} (hx : x < 2 ^ 64) (b : Bool) : bits .or .u64 (x : Int) ((b.toNat : Nat) : Int) = ((st x b : Nat) : Int) := by
  have h := (bits_nat .u64 64 (by decide) (fun n h0 h1 => by rw [IntKind.wrap_u64]; omega) x b.toNat hx (by cases b <;> decide)).2
  rw [h]
  cases b with
  | false => simp [st]
  | true => rw [show (true.toNat) = 1 from rfl, nat_or_one]; rfl

set_option maxRecDepth 100000 in
theorem uscale_walk (x hi lo s c : Nat) (w : World) (hx : x < 18446744073709551616) (hhi : hi < 18446744073709551616) (hlo : lo < 18446744073709551616) (hs : s < 64) (hH1 : 1 ≤ x * hi / 18446744073709551616) (hc : ScAt w c hi lo s) :
    Calls Tryz.prog 184 #[.int .u64 x, .pointer (some ⟨c, 0, none⟩)] w (IntEndQ .u64 (us x hi lo s : Nat) w) := by
  obtain ⟨c0, c1, c2⟩ := hc
  have hb := and63 s hs
  have hT : ∀ w, Calls Tryz.prog 175 #[.bool true] w (IntEndU .u64 1 w) := bool2u_walk true
  have hF : ∀ w, Calls Tryz.prog 175 #[.bool false] w (IntEndU .u64 0 w) := bool2u_walk false
  have hxh : x * hi < 18446744073709551616 * 18446744073709551616 := Nat.mul_lt_mul'' hx hhi
  have h1 := fun w => Tryz.bits_Mul64 x hi hx hhi w
  have h2 := fun w => Tryz.bits_Mul64 x lo hx hlo w
  have hHl : x * hi / 18446744073709551616 < 18446744073709551616 := by omega
  have hml : x * hi % 18446744073709551616 < 18446744073709551616 := by omega
  have hGl : x * lo / 18446744073709551616 < 18446744073709551616 := by
    have : x * lo < 18446744073709551616 * 18446744073709551616 := Nat.mul_lt_mul'' hx hlo
    omega
  have hus : us x hi lo s = if x * hi / 18446744073709551616 / 2 ^ s * 2 ^ s ≠ x * hi / 18446744073709551616 then st (x * hi / 18446744073709551616 / 2 ^ s) true
      else st ((x * hi / 18446744073709551616 - (if x * hi % 18446744073709551616 < x * lo / 18446744073709551616 then 1 else 0)) / 2 ^ s) (decide (1 < (x * hi % 18446744073709551616 + 18446744073709551616 - x * lo / 18446744073709551616) % 18446744073709551616)) := rfl
  rw [hus]
  obtain ⟨H, hH⟩ : ∃ H, x * hi / 18446744073709551616 = H := ⟨_, rfl⟩
  obtain ⟨m, hm⟩ : ∃ m, x * hi % 18446744073709551616 = m := ⟨_, rfl⟩
  obtain ⟨G, hG⟩ : ∃ G, x * lo / 18446744073709551616 = G := ⟨_, rfl⟩
  obtain ⟨F, hF⟩ : ∃ F, x * lo % 18446744073709551616 = F := ⟨_, rfl⟩
  rw [hH, hm] at h1
  rw [hG, hF] at h2
  rw [hH, hm, hG]
  rw [hH] at hHl hH1
  rw [hm] at hml
  rw [hG] at hGl
  have H1 := Lib.hid h1
  have H2 := Lib.hid h2
  have HB : Hid (H < 18446744073709551616 ∧ m < 18446744073709551616 ∧ G < 18446744073709551616 ∧ 1 ≤ H) := ⟨hHl, hml, hGl, hH1⟩
  clear hx hhi hlo h1 h2 hxh hus hH hm hG hF hHl hml hGl hH1
  have hp : 0 < 2 ^ s := Nat.two_pow_pos s
  have hw : IntKind.u64.wrap ((H : Int) / 2 ^ s * 2 ^ s) = ((H / 2 ^ s * 2 ^ s : Nat) : Int) := by
    have e : ((H : Int) / 2 ^ s * 2 ^ s) = ((H / 2 ^ s * 2 ^ s : Nat) : Int) := by push_cast; rfl
    have := Nat.div_mul_le_self H (2 ^ s)
    rw [e, IntKind.wrap_u64]
    have := HB.out
    omega
  have hd : H / 2 ^ s < 18446744073709551616 := Nat.lt_of_le_of_lt (Nat.div_le_self _ _) HB.out.1
  have hcast : ((H : Int) / 2 ^ s) = ((H / 2 ^ s : Nat) : Int) := by push_cast; rfl
  by_cases hc : H / 2 ^ s * 2 ^ s ≠ H
  · rw [if_pos hc]
    have ht : (IntKind.u64.wrap ((H : Int) / 2 ^ s * 2 ^ s) != (H : Int)) = true := by rw [hw]; simp; exact_mod_cast hc
    have hor : bits .or .u64 ((H : Int) / 2 ^ s) 1 = ((st (H / 2 ^ s) true : Nat) : Int) := by rw [hcast]; exact or_st hd true
    have HO := Lib.hid hor
    clear hw hd hcast hor hp hc
    go_enter Tryz.func184, Tryz.ntmps184
    go_wp2_with fail
    refine (H1.out _).mono ?_
    rintro e w' ⟨rfl, rfl⟩
    go_wp2_with fail
    go_ret
    exact ⟨by rw [← HO.out]; rfl, 0, rfl⟩
  · have hq : (IntKind.u64.wrap ((H : Int) / 2 ^ s * 2 ^ s) != (H : Int)) = false := by
      rw [hw]; simp; have := Decidable.of_not_not hc; exact_mod_cast this
    rw [if_neg hc]
    clear hw hd hcast hp hc
    by_cases hmg : m < G
    · have hmi : (m : Int) < G := by omega
      rw [if_pos hmg]
      clear hmg
      go_enter Tryz.func184, Tryz.ntmps184
      go_wp2_with fail
      refine (H1.out _).mono ?_
      rintro e w' ⟨rfl, rfl⟩
      go_wp2_with fail
      refine (H2.out _).mono ?_
      rintro e w'' ⟨rfl, rfl⟩
      go_wp2_with fail
      refine (hT _).mono ?_
      rintro e w' ⟨rfl, rfl⟩
      go_upto_region 7 with (fail)
      rw [show IntKind.u64.wrap ((H : Int) - 1) = ((H - 1 : Nat) : Int) by rw [IntKind.wrap_u64]; have := HB.out; omega]
      go_quiet ((go_at_call 175; exact Calls.quiet_of_same (bool2u_walk _ _)))
      go_wp2_with fail
      go_ret
      refine ⟨?_, _, rfl⟩
      have e3 : IntKind.u64.wrap ((m : Int) - G) = (((m + 18446744073709551616 - G) % 18446744073709551616 : Nat) : Int) := by rw [IntKind.wrap_u64]; have := HB.out; omega
      have hl : (H - 1) / 2 ^ s < 2 ^ 64 := Nat.lt_of_le_of_lt (Nat.div_le_self _ _) (by have := HB.out; omega)
      have e4 : (1 < IntKind.u64.wrap ((m : Int) - G)) = (1 < (m + 18446744073709551616 - G) % 18446744073709551616) := by rw [e3]; exact propext (by omega)
      have := or_st hl (decide (1 < (m + 18446744073709551616 - G) % 18446744073709551616))
      rw [← this]
      simp only [e4]
      push_cast
      rfl
    · have hmn : Hid (decide (m < G) = false) := Lib.hid (decide_eq_false hmg)
      rw [if_neg hmg]
      clear hmg
      go_enter Tryz.func184, Tryz.ntmps184
      go_wp2_with fail
      refine (H1.out _).mono ?_
      rintro e w' ⟨rfl, rfl⟩
      go_wp2_with fail
      refine (H2.out _).mono ?_
      rintro e w'' ⟨rfl, rfl⟩
      go_wp2_with fail
      rw [hmn.out]
      refine (hF _).mono ?_
      rintro e w' ⟨rfl, rfl⟩
      go_upto_region 7 with (fail)
      rw [show IntKind.u64.wrap (H : Int) = ((H - 0 : Nat) : Int) by rw [IntKind.wrap_u64]; have := HB.out; omega]
      go_quiet ((go_at_call 175; exact Calls.quiet_of_same (bool2u_walk _ _)))
      go_wp2_with fail
      go_ret
      refine ⟨?_, _, rfl⟩
      have e3 : IntKind.u64.wrap ((m : Int) - G) = (((m + 18446744073709551616 - G) % 18446744073709551616 : Nat) : Int) := by rw [IntKind.wrap_u64]; have := HB.out; omega
      have hl : (H - 0) / 2 ^ s < 2 ^ 64 := Nat.lt_of_le_of_lt (Nat.div_le_self _ _) (by have := HB.out; omega)
      have e4 : (1 < IntKind.u64.wrap ((m : Int) - G)) = (1 < (m + 18446744073709551616 - G) % 18446744073709551616) := by rw [e3]; exact propext (by omega)
      have := or_st hl (decide (1 < (m + 18446744073709551616 - G) % 18446744073709551616))
      rw [← this]
      simp only [e4]
      push_cast
      rfl
end Go.Proofs.YtnpinogjajhlhaaGreatDoor.Fl
end
