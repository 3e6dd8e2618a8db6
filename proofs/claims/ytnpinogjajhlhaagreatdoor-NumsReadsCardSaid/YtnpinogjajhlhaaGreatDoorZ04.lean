/- A part of the proof that lexiconlaw03.NumsReads answers true at every kind and every text: Rn. No condition. -/
section
/- Rounding a ratio of two whole numbers to the nearest rung of a binary format, ties to even: what it means, that there is one at most, and how it is found.
   No program here: plain numbers alone. -/
namespace Go.Proofs.YtnpinogjajhlhaaGreatDoor.Fl

/-- The midpoint above rung r, in units of half the format's least place. -/
def mid (B r : Nat) : Nat := if r < B then 2 * r + 1 else (2 * (B + r % B) + 1) * 2 ^ (r / B - 1)

theorem mid_tq {B t q : Nat} (hB : 0 < B) (h : q < 2 * B) (h' : t = 0 ∨ B ≤ q) : mid B (t * B + q) = (2 * q + 1) * 2 ^ t := by
  unfold mid
  by_cases hq : q < B
  · have ht : t = 0 := by omega
    subst ht
    simp [hq]
  · have e : t * B + q = (t + 1) * B + (q - B) := by rw [Nat.add_mul]; omega
    have hd : ((t + 1) * B + (q - B)) / B = t + 1 := by
      rw [Nat.mul_comm, Nat.mul_add_div hB, Nat.div_eq_of_lt (by omega)]
    have hm : ((t + 1) * B + (q - B)) % B = q - B := by
      rw [Nat.mul_comm, Nat.mul_add_mod, Nat.mod_eq_of_lt (by omega)]
    have hn : ¬ (t + 1) * B + (q - B) < B := by rw [Nat.add_mul]; omega
    rw [e, if_neg hn, hd, hm]
    have : B + (q - B) = q := by omega
    rw [this]; rfl

/-- Each rung's own form: a place and digits. -/
theorem rung_form {B : Nat} (hB : 0 < B) (r : Nat) : ∃ t q, r = t * B + q ∧ q < 2 * B ∧ (t = 0 ∨ B ≤ q) := by
  by_cases h : r < B
  · exact ⟨0, r, by simp, by omega, Or.inl rfl⟩
  · have h1 := Nat.div_add_mod r B
    have h2 := Nat.mod_lt r hB
    have h3 : 1 ≤ r / B := (Nat.one_le_div_iff hB).2 (by omega)
    refine ⟨r / B - 1, B + r % B, ?_, by omega, Or.inr (by omega)⟩
    have e : r / B = (r / B - 1) + 1 := by omega
    have e2 : B * (r / B) = (r / B - 1) * B + B := by
      rw [Nat.mul_comm]
      conv => lhs; rw [e]
      rw [Nat.add_mul, Nat.one_mul]
    omega

theorem mid_succ {B : Nat} (hB : 0 < B) (r : Nat) : mid B r < mid B (r + 1) := by
  obtain ⟨t, q, rfl, hq, ht⟩ := rung_form hB r
  rw [mid_tq hB hq ht]
  by_cases h : q + 1 < 2 * B
  · have : t * B + q + 1 = t * B + (q + 1) := by omega
    rw [this, mid_tq hB h (by omega)]
    exact Nat.mul_lt_mul_of_pos_right (by omega) (Nat.two_pow_pos t)
  · have : t * B + q + 1 = (t + 1) * B + B := by rw [Nat.add_mul]; omega
    rw [this, mid_tq hB (by omega) (Or.inr (Nat.le_refl _)), Nat.pow_succ, Nat.mul_comm (2 ^ t) 2, ← Nat.mul_assoc]
    exact Nat.mul_lt_mul_of_pos_right (by omega) (Nat.two_pow_pos t)

theorem mid_lt {B : Nat} (hB : 0 < B) {r s : Nat} (h : r < s) : mid B r < mid B s := by
  induction s with
  | zero => omega
  | succ s ih =>
    have := mid_succ hB s
    by_cases e : r = s
    · subst e; exact this
    · exact Nat.lt_trans (ih (by omega)) this

theorem mid_le {B : Nat} (hB : 0 < B) {r s : Nat} (h : r ≤ s) : mid B r ≤ mid B s := by
  rcases Nat.lt_or_eq_of_le h with h | rfl
  · exact Nat.le_of_lt (mid_lt hB h)
  · exact Nat.le_refl _

theorem mid_pos (B r : Nat) : 0 < mid B r := by
  unfold mid; split
  · omega
  · exact Nat.mul_pos (by omega) (Nat.two_pow_pos _)

/-- Rung r is the one nearest to n / d (of two equally near ones the even one); S: how many half least places one is. -/
structure RN (B S n d r : Nat) : Prop where
  lo : 0 < r → d * mid B (r - 1) ≤ n * S
  lo' : r % 2 = 1 → d * mid B (r - 1) < n * S
  hi : n * S ≤ d * mid B r
  hi' : r % 2 = 1 → n * S < d * mid B r

theorem RN.mono {B S n1 d1 r1 n2 d2 r2 : Nat} (hB : 0 < B) (hd1 : 0 < d1) (hd2 : 0 < d2) (h1 : RN B S n1 d1 r1) (h2 : RN B S n2 d2 r2) (h : n1 * d2 ≤ n2 * d1) : r1 ≤ r2 := by
  refine Nat.le_of_not_lt fun hlt => ?_
  have a := h1.lo (by omega)
  have b := h2.hi
  have c : mid B r2 ≤ mid B (r1 - 1) := mid_le hB (by omega)
  have a2 : d1 * mid B (r1 - 1) * d2 ≤ n1 * S * d2 := Nat.mul_le_mul_right _ a
  have b2 : n2 * S * d1 ≤ d2 * mid B r2 * d1 := Nat.mul_le_mul_right _ b
  have e1 : n1 * S * d2 ≤ n2 * S * d1 := by
    have := Nat.mul_le_mul_right S h
    calc n1 * S * d2 = n1 * d2 * S := Nat.mul_right_comm ..
      _ ≤ n2 * d1 * S := this
      _ = n2 * S * d1 := Nat.mul_right_comm ..
  have c2 : d2 * mid B r2 * d1 ≤ d1 * mid B (r1 - 1) * d2 := by
    calc d2 * mid B r2 * d1 = d1 * d2 * mid B r2 := by rw [Nat.mul_comm, Nat.mul_assoc d1]
      _ ≤ d1 * d2 * mid B (r1 - 1) := Nat.mul_le_mul_left _ c
      _ = d1 * mid B (r1 - 1) * d2 := Nat.mul_right_comm ..
  by_cases e : r2 = r1 - 1
  · by_cases o : r1 % 2 = 1
    · have := Nat.mul_lt_mul_of_pos_right (h1.lo' o) hd2
      omega
    · have o2 : r2 % 2 = 1 := by omega
      have := Nat.mul_lt_mul_of_pos_right (h2.hi' o2) hd1
      omega
  · have c3 : mid B r2 < mid B (r1 - 1) := mid_lt hB (by omega)
    have c4 : d2 * mid B r2 * d1 < d1 * mid B (r1 - 1) * d2 := by
      calc d2 * mid B r2 * d1 = d1 * d2 * mid B r2 := by rw [Nat.mul_comm, Nat.mul_assoc d1]
        _ < d1 * d2 * mid B (r1 - 1) := Nat.mul_lt_mul_of_pos_left c3 (Nat.mul_pos hd1 hd2)
        _ = d1 * mid B (r1 - 1) * d2 := Nat.mul_right_comm ..
    omega

theorem RN.unique {B S n1 d1 r1 n2 d2 r2 : Nat} (hB : 0 < B) (hd1 : 0 < d1) (hd2 : 0 < d2) (h1 : RN B S n1 d1 r1) (h2 : RN B S n2 d2 r2) (h : n1 * d2 = n2 * d1) : r1 = r2 :=
  Nat.le_antisymm (h1.mono hB hd1 hd2 h2 (Nat.le_of_eq h)) (h2.mono hB hd2 hd1 h1 (Nat.le_of_eq h.symm))

/-- The same ratio in other words. -/
theorem RN.same {B S n1 d1 n2 d2 r : Nat} (hd1 : 0 < d1) (hd2 : 0 < d2) (h1 : RN B S n1 d1 r) (h : n1 * d2 = n2 * d1) : RN B S n2 d2 r := by
  have key : ∀ m, d1 * m ≤ n1 * S → d2 * m ≤ n2 * S := fun m hm => by
    have := Nat.mul_le_mul_right d2 hm
    refine Nat.le_of_mul_le_mul_left ?_ hd1
    calc d1 * (d2 * m) = d1 * m * d2 := by rw [Nat.mul_comm d2 m, Nat.mul_assoc]
      _ ≤ n1 * S * d2 := this
      _ = n1 * d2 * S := Nat.mul_right_comm ..
      _ = d1 * (n2 * S) := by rw [h, Nat.mul_comm n2 d1, Nat.mul_assoc]
  have key2 : ∀ m, 0 < d2 → d1 * m < n1 * S → d2 * m < n2 * S := fun m hd2 hm => by
    have := Nat.mul_lt_mul_of_pos_right hm hd2
    refine Nat.lt_of_mul_lt_mul_left (a := d1) ?_
    calc d1 * (d2 * m) = d1 * m * d2 := by rw [Nat.mul_comm d2 m, Nat.mul_assoc]
      _ < n1 * S * d2 := this
      _ = n1 * d2 * S := Nat.mul_right_comm ..
      _ = d1 * (n2 * S) := by rw [h, Nat.mul_comm n2 d1, Nat.mul_assoc]
  have key3 : ∀ m, n1 * S ≤ d1 * m → n2 * S ≤ d2 * m := fun m hm => by
    have := Nat.mul_le_mul_right d2 hm
    refine Nat.le_of_mul_le_mul_left ?_ hd1
    calc d1 * (n2 * S) = n1 * d2 * S := by rw [h, Nat.mul_comm n2 d1, Nat.mul_assoc]
      _ = n1 * S * d2 := Nat.mul_right_comm ..
      _ ≤ d1 * m * d2 := this
      _ = d1 * (d2 * m) := by rw [Nat.mul_comm d2 m, Nat.mul_assoc]
  have key4 : ∀ m, 0 < d2 → n1 * S < d1 * m → n2 * S < d2 * m := fun m hd2 hm => by
    have := Nat.mul_lt_mul_of_pos_right hm hd2
    refine Nat.lt_of_mul_lt_mul_left (a := d1) ?_
    calc d1 * (n2 * S) = n1 * d2 * S := by rw [h, Nat.mul_comm n2 d1, Nat.mul_assoc]
      _ = n1 * S * d2 := Nat.mul_right_comm ..
      _ < d1 * m * d2 := this
      _ = d1 * (d2 * m) := by rw [Nat.mul_comm d2 m, Nat.mul_assoc]
  exact ⟨fun p => key _ (h1.lo p), fun o => key2 _ hd2 (h1.lo' o), key3 _ h1.hi, fun o => key4 _ hd2 (h1.hi' o)⟩

/-- A whole number of digits, halves to the even one. -/
def rhe (N D : Nat) : Nat := N / D + if D < 2 * (N % D) ∨ 2 * (N % D) = D ∧ N / D % 2 = 1 then 1 else 0


theorem rhe_le (N D : Nat) : rhe N D ≤ N / D + 1 := by unfold rhe; split <;> omega
theorem rhe_ge (N D : Nat) : N / D ≤ rhe N D := by unfold rhe; split <;> omega

theorem even_rung {B t q : Nat} (hB : B % 2 = 0) : (t * B + q) % 2 = q % 2 := by
  rw [Nat.add_mod, Nat.mul_mod, hB]; simp

/-- Rounding at a place where the digits are whole (or at the least place) finds the rung. -/
theorem rn_of {B S n d N D t : Nat} (hB : B % 2 = 0) (hB0 : 0 < B) (hD : 0 < D) (hx : n * S * D = d * (2 * N * 2 ^ t))
    (hq : N / D < 2 * B) (hl : t = 0 ∨ B ≤ N / D) (hd : 0 < d) : RN B S n d (t * B + rhe N D) := by
  have hp : 0 < 2 ^ t := Nat.two_pow_pos t
  -- what is asked of n / d is asked of 2 N / D
  have lo : ∀ m, m * D ≤ 2 * N * 2 ^ t → d * m ≤ n * S := fun m hm => by
    refine Nat.le_of_mul_le_mul_right (c := D) ?_ hD
    rw [hx, Nat.mul_assoc d m D]; exact Nat.mul_le_mul_left _ hm
  have lo2 : ∀ m, m * D < 2 * N * 2 ^ t → d * m < n * S := fun m hm => by
    refine Nat.lt_of_mul_lt_mul_right (a := D) ?_
    rw [hx, Nat.mul_assoc d m D]; exact Nat.mul_lt_mul_of_pos_left hm hd
  have hi : ∀ m, 2 * N * 2 ^ t ≤ m * D → n * S ≤ d * m := fun m hm => by
    refine Nat.le_of_mul_le_mul_right (c := D) ?_ hD
    rw [hx, Nat.mul_assoc d m D]; exact Nat.mul_le_mul_left _ hm
  have hi2 : ∀ m, 2 * N * 2 ^ t < m * D → n * S < d * m := fun m hm => by
    refine Nat.lt_of_mul_lt_mul_right (a := D) ?_
    rw [hx, Nat.mul_assoc d m D]; exact Nat.mul_lt_mul_of_pos_left hm hd
  have hdm := Nat.div_add_mod N D
  have hml := Nat.mod_lt N hD
  generalize hqe : N / D = q at *
  generalize hre : N % D = rest at *
  -- the midpoint above t, q (the digits) as a ratio
  have sc : ∀ a b, (a * 2 ^ t) * b = (a * b) * 2 ^ t := fun a b => Nat.mul_right_comm a (2 ^ t) b
  have mq : mid B (t * B + q) = (2 * q + 1) * 2 ^ t := mid_tq hB0 hq hl
  have hN : 2 * N = 2 * q * D + 2 * rest := by rw [← hdm, Nat.mul_add, ← Nat.mul_assoc, Nat.mul_right_comm]
  -- the midpoint below q lies below
  have below : 0 < t * B + q → mid B (t * B + q - 1) * D < 2 * N * 2 ^ t ∨ (mid B (t * B + q - 1) * D ≤ 2 * N * 2 ^ t ∧ q = 0) := by
    intro hpos
    by_cases hq0 : t = 0 ∨ B < q
    · have hq1 : 0 < q := by
        rcases hq0 with h | h
        · subst h; omega
        · omega
      have e : t * B + q - 1 = t * B + (q - 1) := by omega
      rw [e, mid_tq hB0 (by omega) (by omega), sc]
      left
      refine Nat.mul_lt_mul_of_pos_right ?_ hp
      have : 2 * (q - 1) + 1 < 2 * q := by omega
      have := Nat.mul_lt_mul_of_pos_right this hD
      omega
    · have hqB : q = B := by omega
      obtain ⟨u, rfl⟩ : ∃ u, t = u + 1 := ⟨t - 1, by omega⟩
      have e : (u + 1) * B + q - 1 = u * B + (2 * B - 1) := by rw [Nat.add_mul]; omega
      rw [e, mid_tq hB0 (by omega) (Or.inr (by omega))]
      left
      have e3 : 2 * N * 2 ^ (u + 1) = 4 * N * 2 ^ u := by rw [Nat.pow_succ, Nat.mul_comm (2 ^ u) 2, ← Nat.mul_assoc]; congr 1; omega
      rw [e3, Nat.mul_right_comm]
      refine Nat.mul_lt_mul_of_pos_right ?_ (Nat.two_pow_pos u)
      have : 2 * (2 * B - 1) + 1 < 2 * (2 * q) := by omega
      have := Nat.mul_lt_mul_of_pos_right this hD
      have e4 : 2 * (2 * q) * D = 2 * (2 * q * D) := Nat.mul_assoc ..
      omega
  have par : (t * B + q) % 2 = q % 2 := even_rung hB
  have par2 : (t * B + (q + 1)) % 2 = (q + 1) % 2 := even_rung hB
  by_cases hup : D < 2 * rest ∨ 2 * rest = D ∧ q % 2 = 1
  · have hr : rhe N D = q + 1 := by unfold rhe; rw [hqe, hre, if_pos hup]
    rw [hr]
    have e : t * B + (q + 1) - 1 = t * B + q := by omega
    have m1 : mid B (t * B + q) * D = (2 * q * D + D) * 2 ^ t := by rw [mq, sc, Nat.add_mul, Nat.one_mul]
    have m2 : (2 * q * D + 2 * D) * 2 ^ t ≤ mid B (t * B + (q + 1)) * D ∧ 2 * N * 2 ^ t < mid B (t * B + (q + 1)) * D := by
      have big : (2 * q + 3) * 2 ^ t ≤ mid B (t * B + (q + 1)) := by
        by_cases hlt : q + 1 < 2 * B
        · rw [mid_tq hB0 hlt (by omega)]; exact Nat.le_of_eq (by congr 1)
        · have e5 : t * B + (q + 1) = (t + 1) * B + B := by rw [Nat.add_mul]; omega
          rw [e5, mid_tq hB0 (by omega) (Or.inr (Nat.le_refl _)), Nat.pow_succ, Nat.mul_comm (2 ^ t) 2, ← Nat.mul_assoc]
          exact Nat.mul_le_mul_right _ (by omega)
      have b2 := Nat.mul_le_mul_right D big
      rw [sc, Nat.add_mul] at b2
      have b3 : (2 * q * D + 2 * D) * 2 ^ t ≤ (2 * q * D + 3 * D) * 2 ^ t := Nat.mul_le_mul_right _ (by omega)
      have b4 : 2 * N * 2 ^ t < (2 * q * D + 3 * D) * 2 ^ t := Nat.mul_lt_mul_of_pos_right (by omega) hp
      exact ⟨Nat.le_trans b3 b2, Nat.lt_of_lt_of_le b4 b2⟩
    refine ⟨fun _ => ?_, fun o => ?_, ?_, fun _ => ?_⟩
    · rw [e]; refine lo _ ?_; rw [m1]; exact Nat.mul_le_mul_right _ (by omega)
    · rw [e]; refine lo2 _ ?_; rw [m1]; exact Nat.mul_lt_mul_of_pos_right (by omega) hp
    · exact hi _ (Nat.le_of_lt m2.2)
    · exact hi2 _ m2.2
  · have hr : rhe N D = q := by unfold rhe; rw [hqe, hre, if_neg hup]; rfl
    rw [hr]
    have m1 : mid B (t * B + q) * D = (2 * q * D + D) * 2 ^ t := by rw [mq, sc, Nat.add_mul, Nat.one_mul]
    refine ⟨fun p => ?_, fun o => ?_, ?_, fun o => ?_⟩
    · rcases below p with h | h
      · exact Nat.le_of_lt (lo2 _ h)
      · exact lo _ h.1
    · rcases below (by omega) with h | h
      · exact lo2 _ h
      · omega
    · refine hi _ ?_; rw [m1]; exact Nat.mul_le_mul_right _ (by omega)
    · refine hi2 _ ?_; rw [m1]; exact Nat.mul_lt_mul_of_pos_right (by omega) hp

/-- Nothing, or less than half of the least: rung 0. -/
theorem rn_zero {B S n d : Nat} (hB0 : 0 < B) (h : n * S ≤ d) : RN B S n d 0 := by
  have m0 : mid B 0 = 1 := by unfold mid; rw [if_pos hB0]
  exact ⟨fun h => absurd h (by omega), fun h => absurd h (by omega), by rw [m0]; omega, fun h => absurd h (by omega)⟩

end Go.Proofs.YtnpinogjajhlhaaGreatDoor.Fl
end
