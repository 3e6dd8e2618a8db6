/- A part of the proof that lexiconlaw03.NumsReads answers true at every kind and every text: Ex, FbBits, DwPre. No condition. -/
import Derived.Test.YtnpinogjajhlhaaGreatDoorZ05
import Derived.Test.YtnpinogjajhlhaaGreatDoorZ03
import Derived.Laws.BitsLemmas
import Derived.IntWalk
section
/- Exact floating arithmetic: whole numbers that fit, products and quotients of such numbers, rounded once. -/
namespace Go.Proofs.YtnpinogjajhlhaaGreatDoor.Fl
open Ieee

/-- What is asked of a format here. -/
structure Fit (f : Format) (Lo : Nat) : Prop where
  least : f.leastPlace = -(Lo : Int)
  frac : 2 ≤ f.fractionBits
  room : f.fractionBits ≤ Lo
  top : Lo + 2 * f.fractionBits < 2 ^ f.exponentBits

theorem fit64 : Fit double 1074 := ⟨by decide, by decide, by decide, by decide⟩
theorem fit32 : Fit single 149 := ⟨by decide, by decide, by decide, by decide⟩

/-- Rung r is the number n / d. -/
def Vis (f : Format) (r n d : Nat) : Prop := vmag f r * 2 ^ (vplace f r).toNat * d = n * 2 ^ (-vplace f r).toNat

instance (f : Format) (r n d : Nat) : Decidable (Vis f r n d) := by unfold Vis; exact inferInstance

variable {f : Format} {Lo : Nat}

theorem binade_pos (f : Format) : 0 < f.binade := Nat.two_pow_pos _

theorem Vis.rn (hf : Fit f Lo) {r n d : Nat} (hd : 0 < d) (h : Vis f r n d) : RN f.binade (2 ^ (Lo + 1)) n d r :=
  (rn_exact hf.least (Nat.le_of_succ_le hf.frac) r).same (Nat.two_pow_pos _) hd h

theorem vmag_vplace (hf : Fit f Lo) {t q : Nat} (hq : q < 2 * f.binade) (ht : t = 0 ∨ f.binade ≤ q) : vmag f (t * f.binade + q) = q ∧ vplace f (t * f.binade + q) = (t : Int) - Lo := by
  have hb := binade_pos f
  unfold vmag vplace
  rw [hf.least]
  by_cases h : q < f.binade
  · have h0 : t = 0 := by omega
    subst h0
    simp [h, Nat.div_eq_of_lt h]
  · have e : t * f.binade + q = (t + 1) * f.binade + (q - f.binade) := by rw [Nat.add_mul]; omega
    have hd : ((t + 1) * f.binade + (q - f.binade)) / f.binade = t + 1 := by
      rw [Nat.mul_comm, Nat.mul_add_div hb, Nat.div_eq_of_lt (by omega)]
    have hm : ((t + 1) * f.binade + (q - f.binade)) % f.binade = q - f.binade := by
      rw [Nat.mul_comm, Nat.mul_add_mod, Nat.mod_eq_of_lt (by omega)]
    have hn : ¬ (t + 1) * f.binade + (q - f.binade) < f.binade := by rw [Nat.add_mul]; omega
    rw [e, if_neg hn, hd, hm]
    exact ⟨by omega, by simp; omega⟩

/-- A whole number of no more digits than the format has is a rung's. -/
theorem vis_int (hf : Fit f Lo) {n : Nat} (h0 : 0 < n) (h : n < 2 * f.binade) : ∃ r, r < f.infRung ∧ Vis f r n 1 := by
  have hb := binade_pos f
  have hB : f.binade = 2 ^ f.fractionBits := rfl
  have l1 : 2 ^ n.log2 ≤ n := Nat.log2_self_le (by omega)
  have l2 : n < 2 ^ (n.log2 + 1) := Nat.lt_log2_self
  have l3 : n.log2 ≤ f.fractionBits := by
    refine Nat.le_of_not_lt fun hlt => ?_
    have : 2 ^ (f.fractionBits + 1) ≤ 2 ^ n.log2 := Nat.pow_le_pow_right (by omega) hlt
    rw [Nat.pow_succ, ← hB] at this; omega
  have hr := hf.room
  obtain ⟨k, hk⟩ : ∃ k, f.fractionBits = n.log2 + k := ⟨f.fractionBits - n.log2, by omega⟩
  have hq1 : f.binade ≤ n * 2 ^ k := by rw [hB, hk, Nat.pow_add]; exact Nat.mul_le_mul_right _ l1
  have hq2 : n * 2 ^ k < 2 * f.binade := by
    have := Nat.mul_lt_mul_of_pos_right l2 (Nat.two_pow_pos k)
    rw [← Nat.pow_add, show n.log2 + 1 + k = f.fractionBits + 1 from by omega, Nat.pow_succ, ← hB] at this
    omega
  have hv := vmag_vplace hf (t := Lo - k) hq2 (Or.inr hq1)
  refine ⟨(Lo - k) * f.binade + n * 2 ^ k, ?_, ?_⟩
  · have ht := hf.top
    unfold Format.infRung
    have : (Lo - k) * f.binade + n * 2 ^ k < (Lo - k + 2) * f.binade := by rw [Nat.add_mul]; omega
    have h5 : Lo - k + 2 ≤ 2 ^ f.exponentBits - 1 := by
      have hfr := hf.frac
      clear this hv hq1 hq2 l1 l2
      generalize 2 ^ f.exponentBits = z at *
      omega
    exact Nat.lt_of_lt_of_le this (Nat.mul_le_mul_right _ h5)
  · unfold Vis
    have h1 : ((Lo - k : Nat) : Int) - Lo = -(k : Int) := by omega
    rw [hv.1, hv.2, h1]
    have h2 : (-(k : Int)).toNat = 0 := by omega
    have h3 : (- -(k : Int)).toNat = k := by omega
    rw [h2, h3]; simp

theorem nearest_vis (hf : Fit f Lo) {n : Nat} (neg : Bool) (h0 : 0 < n) (h : n < 2 * f.binade) : ∃ r, r < f.infRung ∧ Vis f r n 1 ∧ f.nearest neg n 0 = f.word neg r := by
  obtain ⟨r, hr, hv⟩ := vis_int hf h0 h
  obtain ⟨s, hs, hrn⟩ := nearest_rn hf.least (Nat.le_of_succ_le hf.frac) neg (show n ≠ 0 by omega) 0
  refine ⟨r, hr, hv, ?_⟩
  have : s = r := hrn.unique (binade_pos f) (Nat.two_pow_pos _) (by omega) (hv.rn hf (by omega)) (by simp)
  subst this
  rw [hs, Nat.min_eq_left (Nat.le_of_lt hr)]

theorem pow_toNat_add (a b : Int) : 2 ^ (a + b).toNat * (2 ^ (-a).toNat * 2 ^ (-b).toNat) = 2 ^ (-(a + b)).toNat * (2 ^ a.toNat * 2 ^ b.toNat) := by
  rw [← Nat.pow_add, ← Nat.pow_add, ← Nat.pow_add, ← Nat.pow_add]; congr 1; omega

theorem pow_toNat_sub (a b : Int) : 2 ^ (a - b).toNat * (2 ^ (-a).toNat * 2 ^ b.toNat) = 2 ^ (-(a - b)).toNat * (2 ^ a.toNat * 2 ^ (-b).toNat) := by
  rw [← Nat.pow_add, ← Nat.pow_add, ← Nat.pow_add, ← Nat.pow_add]; congr 1; omega

/-- A product, rounded once. -/
theorem mul_rn (hf : Fit f Lo) {r1 r2 n1 n2 d1 d2 : Nat} (s1 s2 : Bool) (h1 : r1 < f.infRung) (h2 : r2 < f.infRung) (v1 : Vis f r1 n1 d1) (v2 : Vis f r2 n2 d2) (p1 : 0 < n1) (p2 : 0 < n2) (q1 : 0 < d1) (q2 : 0 < d2) :
    ∃ r, f.mul (f.word s1 r1) (f.word s2 r2) = some (f.word (s1 ^^ s2) (min r f.infRung)) ∧ RN f.binade (2 ^ (Lo + 1)) (n1 * n2) (d1 * d2) r := by
  unfold Format.mul
  rw [read_word s1 h1, read_word s2 h2]
  unfold Vis at v1 v2
  have m1 : vmag f r1 ≠ 0 := fun h => by
    rw [h, Nat.zero_mul, Nat.zero_mul] at v1
    exact absurd v1.symm (Nat.ne_of_gt (Nat.mul_pos p1 (Nat.two_pow_pos _)))
  have m2 : vmag f r2 ≠ 0 := fun h => by
    rw [h, Nat.zero_mul, Nat.zero_mul] at v2
    exact absurd v2.symm (Nat.ne_of_gt (Nat.mul_pos p2 (Nat.two_pow_pos _)))
  obtain ⟨r, hr, hrn⟩ := nearest_rn hf.least (Nat.le_of_succ_le hf.frac) (s1 ^^ s2) (Nat.mul_ne_zero m1 m2) (vplace f r1 + vplace f r2)
  refine ⟨r, by simp only [Datum.product, Option.map_some, Format.write, hr], hrn.same (Nat.two_pow_pos _) (Nat.mul_pos q1 q2) ?_⟩
  have key := pow_toNat_add (vplace f r1) (vplace f r2)
  generalize 2 ^ (vplace f r1 + vplace f r2).toNat = A at *
  generalize 2 ^ (-(vplace f r1 + vplace f r2)).toNat = A' at *
  generalize 2 ^ (vplace f r1).toNat = P at *
  generalize 2 ^ (vplace f r2).toNat = Q at *
  have hP' : 0 < 2 ^ (-vplace f r1).toNat := Nat.two_pow_pos _
  have hQ' : 0 < 2 ^ (-vplace f r2).toNat := Nat.two_pow_pos _
  generalize 2 ^ (-vplace f r1).toNat = P' at *
  generalize 2 ^ (-vplace f r2).toNat = Q' at *
  refine Nat.eq_of_mul_eq_mul_right (Nat.mul_pos hP' hQ') ?_
  calc vmag f r1 * vmag f r2 * A * (d1 * d2) * (P' * Q') = vmag f r1 * vmag f r2 * d1 * d2 * (A * (P' * Q')) := by ac_rfl
    _ = (vmag f r1 * P * d1) * (vmag f r2 * Q * d2) * A' := by rw [key]; ac_rfl
    _ = n1 * n2 * A' * (P' * Q') := by rw [v1, v2]; ac_rfl

/-- A quotient told by a whole number and a mark rounds as the quotient itself. -/
theorem rhe_sticky {X n j : Nat} (hn : 0 < n) : rhe (2 * (X / n) + (X % n != 0).toNat) (2 ^ (j + 2)) = rhe X (n * 2 ^ (j + 1)) := by
  have hp : 0 < 2 ^ j := Nat.two_pow_pos j
  have e1 : 2 ^ (j + 1) = 2 * 2 ^ j := by rw [Nat.pow_succ, Nat.mul_comm]
  have e2 : 2 ^ (j + 2) = 2 * (2 * 2 ^ j) := by rw [Nat.pow_succ, Nat.pow_succ]; omega
  rw [e1, e2]
  generalize 2 ^ j = z at *
  have hdm := Nat.div_add_mod X n
  have hml := Nat.mod_lt X hn
  have hq : X / (n * (2 * z)) = X / n / (2 * z) := (Nat.div_div_eq_div_mul ..).symm
  have hr : X % (n * (2 * z)) = X % n + n * (X / n % (2 * z)) := Nat.mod_mul
  have hdz := Nat.div_add_mod (X / n) (2 * z)
  have hmz := Nat.mod_lt (X / n) (show 0 < 2 * z by omega)
  obtain ⟨s, hs⟩ : ∃ s, s = (X % n != 0).toNat := ⟨_, rfl⟩
  rw [← hs]
  have hs1 : s ≤ 1 := by rw [hs]; exact Bool.toNat_le _
  have hs0 : s = 0 ↔ X % n = 0 := by rw [hs]; simp
  generalize X / n = a at *
  generalize X % n = e at *
  have hq2 : (2 * a + s) / (2 * (2 * z)) = a / (2 * z) := by
    rw [← Nat.div_div_eq_div_mul]; congr 1; omega
  have hr2 : (2 * a + s) % (2 * (2 * z)) = 2 * (a % (2 * z)) + s := by
    rw [Nat.mod_mul]
    have : (2 * a + s) / 2 = a := by omega
    rw [this]; omega
  unfold rhe
  rw [hq, hr, hq2, hr2]
  generalize a % (2 * z) = c at *
  generalize a / (2 * z) = q at *
  congr 1
  have en : n * (2 * z) = 2 * (n * z) := by ac_rfl
  rw [en]
  -- c against z
  rcases Nat.lt_trichotomy c z with h | h | h
  · have h1 : n * (c + 1) ≤ n * z := Nat.mul_le_mul_left _ h
    rw [Nat.mul_add, Nat.mul_one] at h1
    rw [if_neg (by omega), if_neg (by omega)]
  · subst h
    by_cases he : e = 0
    · have : s = 0 := hs0.2 he
      subst this he
      by_cases ho : q % 2 = 1
      · rw [if_pos (Or.inr ⟨by omega, ho⟩), if_pos (Or.inr ⟨by omega, ho⟩)]
      · rw [if_neg (by omega), if_neg (by omega)]
    · have : s ≠ 0 := fun h => he (hs0.1 h)
      rw [if_pos (by omega), if_pos (by omega)]
  · have h1 : n * (z + 1) ≤ n * c := Nat.mul_le_mul_left _ h
    rw [Nat.mul_add, Nat.mul_one] at h1
    rw [if_pos (by omega), if_pos (by omega)]

/-- A quotient, rounded once. -/
theorem div_rn (hf : Fit f Lo) {r1 r2 n1 n2 d1 d2 : Nat} (s1 s2 : Bool) (h1 : r1 < f.infRung) (h2 : r2 < f.infRung) (v1 : Vis f r1 n1 d1) (v2 : Vis f r2 n2 d2) (p1 : 0 < n1) (p2 : 0 < n2) (q1 : 0 < d1) :
    ∃ r, f.div (f.word s1 r1) (f.word s2 r2) = some (f.word (s1 ^^ s2) (min r f.infRung)) ∧ RN f.binade (2 ^ (Lo + 1)) (n1 * d2) (d1 * n2) r := by
  unfold Format.div
  rw [read_word s1 h1, read_word s2 h2]
  unfold Vis at v1 v2
  have m1 : vmag f r1 ≠ 0 := fun h => by
    rw [h, Nat.zero_mul, Nat.zero_mul] at v1
    exact absurd v1.symm (Nat.ne_of_gt (Nat.mul_pos p1 (Nat.two_pow_pos _)))
  have m2 : vmag f r2 ≠ 0 := fun h => by
    rw [h, Nat.zero_mul, Nat.zero_mul] at v2
    exact absurd v2.symm (Nat.ne_of_gt (Nat.mul_pos p2 (Nat.two_pow_pos _)))
  simp only [Datum.quotient, if_neg m2, Option.map_some, Format.write, Nat.shiftLeft_eq]
  have hB : f.binade = 2 ^ f.fractionBits := rfl
  have hB2 : f.binade % 2 = 0 := by
    rw [hB]; obtain ⟨u, hu⟩ : ∃ u, f.fractionBits = u + 1 := ⟨f.fractionBits - 1, by have := hf.frac; omega⟩
    rw [hu, Nat.pow_succ, Nat.mul_mod_left]
  generalize hM : vmag f r1 = m at *
  generalize hN : vmag f r2 = n at *
  have l1 : 2 ^ m.log2 ≤ m := Nat.log2_self_le m1
  have l2 : n < 2 ^ (n.log2 + 1) := Nat.lt_log2_self
  obtain ⟨more, hmore⟩ : ∃ more, more = f.fractionBits + 2 + n.log2 - m.log2 := ⟨_, rfl⟩
  rw [← hmore]
  have hn0 : 0 < n := by omega
  -- the whole quotient has digits enough
  have hX : 2 ^ (f.fractionBits + 1) ≤ m * 2 ^ more / n := by
    refine (Nat.le_div_iff_mul_le hn0).2 ?_
    have a : 2 ^ (f.fractionBits + 1) * n ≤ 2 ^ (f.fractionBits + 1) * 2 ^ (n.log2 + 1) := Nat.mul_le_mul_left _ (Nat.le_of_lt l2)
    have b : 2 ^ m.log2 * 2 ^ more ≤ m * 2 ^ more := Nat.mul_le_mul_right _ l1
    refine Nat.le_trans a (Nat.le_trans ?_ b)
    rw [← Nat.pow_add, ← Nat.pow_add]
    exact Nat.pow_le_pow_right (by omega) (by omega)
  obtain ⟨X, hXe⟩ : ∃ X, X = m * 2 ^ more := ⟨_, rfl⟩
  rw [← hXe] at hX ⊢
  obtain ⟨y, hy⟩ : ∃ y, y = 2 * (X / n) + (X % n != 0).toNat := ⟨_, rfl⟩
  rw [← hy]
  have hs1 : (X % n != 0).toNat ≤ 1 := Bool.toNat_le _
  have hp : 0 < 2 ^ (f.fractionBits + 1) := Nat.two_pow_pos _
  have hy2 : 2 ^ (f.fractionBits + 2) ≤ y := by rw [Nat.pow_succ]; omega
  have hy0 : y ≠ 0 := by
    have := Nat.two_pow_pos (f.fractionBits + 2)
    omega
  have hlog : f.fractionBits + 2 ≤ y.log2 := (Nat.le_log2 hy0).2 hy2
  have ylo : 2 ^ y.log2 ≤ y := Nat.log2_self_le hy0
  have yhi : y < 2 ^ (y.log2 + 1) := Nat.lt_log2_self
  -- the place of writing
  unfold Format.nearest
  rw [if_neg hy0]
  dsimp only
  obtain ⟨pl, hpl⟩ : ∃ pl, pl = vplace f r1 - vplace f r2 - (more : Int) - 1 := ⟨_, rfl⟩
  rw [← hpl]
  obtain ⟨last, hlast⟩ : ∃ last, last = max (pl + y.log2 - f.fractionBits) f.leastPlace := ⟨_, rfl⟩
  rw [← hlast, Nat.shiftLeft_eq, cut_rhe]
  have hge : pl + 2 ≤ last := by omega
  obtain ⟨j, hj⟩ : ∃ j : Nat, (last - pl).toNat = j + 2 := ⟨(last - pl).toNat - 2, by omega⟩
  have h0 : (pl - last).toNat = 0 := by omega
  rw [hj, h0, Nat.pow_zero, Nat.mul_one]
  have hst : rhe y (2 ^ (j + 2)) = rhe X (n * 2 ^ (j + 1)) := by rw [hy]; exact rhe_sticky hn0
  have hD : 0 < n * 2 ^ (j + 1) := Nat.mul_pos hn0 (Nat.two_pow_pos _)
  have hquo : X / (n * 2 ^ (j + 1)) = y / 2 ^ (j + 2) := by
    rw [← Nat.div_div_eq_div_mul, Nat.pow_succ 2 (j + 1), Nat.mul_comm _ 2, ← Nat.div_div_eq_div_mul]
    congr 1; omega
  have hlast0 : f.leastPlace ≤ last := by omega
  obtain ⟨t, ht⟩ : ∃ t : Nat, (last - f.leastPlace).toNat = t := ⟨_, rfl⟩
  rw [hst, ht]
  refine ⟨_, rfl, ?_⟩
  have hq : X / (n * 2 ^ (j + 1)) < 2 * f.binade := by
    rw [hquo]
    refine (Nat.div_lt_iff_lt_mul (Nat.two_pow_pos _)).2 (Nat.lt_of_lt_of_le yhi ?_)
    rw [hB, ← Nat.pow_succ', ← Nat.pow_add]
    exact Nat.pow_le_pow_right (by omega) (by omega)
  have hl : t = 0 ∨ f.binade ≤ X / (n * 2 ^ (j + 1)) := by
    by_cases h : t = 0
    · exact Or.inl h
    · right
      rw [hquo]
      refine (Nat.le_div_iff_mul_le (Nat.two_pow_pos _)).2 (Nat.le_trans ?_ ylo)
      rw [hB, ← Nat.pow_add]
      exact Nat.pow_le_pow_right (by omega) (by omega)
  refine rn_of hB2 (binade_pos f) hD ?_ hq hl (Nat.mul_pos q1 p2)
  -- n1 d2 / (d1 n2) is X / n in halves of the least place
  have hle := hf.least
  have key := pow_toNat_sub (vplace f r1) (vplace f r2)
  have hP' : 0 < 2 ^ (-vplace f r1).toNat := Nat.two_pow_pos _
  have hQ' : 0 < 2 ^ (-vplace f r2).toNat := Nat.two_pow_pos _
  have hQ : 0 < 2 ^ (vplace f r2).toNat := Nat.two_pow_pos _
  have hexp : 2 ^ (Lo + 1) * 2 ^ (j + 1) * (2 ^ (vplace f r1).toNat * 2 ^ (-vplace f r2).toNat) = 2 * 2 ^ more * 2 ^ t * (2 ^ (-vplace f r1).toNat * 2 ^ (vplace f r2).toNat) := by
    rw [← Nat.pow_succ', ← Nat.pow_add, ← Nat.pow_add, ← Nat.pow_add, ← Nat.pow_add, ← Nat.pow_add, ← Nat.pow_add]
    congr 1; omega
  rw [hXe]
  clear key hXe hX hst hquo hq hl hy hy2 hy0 ylo yhi hlog hs1
  generalize 2 ^ (vplace f r1).toNat = P at *
  generalize 2 ^ (vplace f r2).toNat = Q at *
  generalize 2 ^ (-vplace f r1).toNat = P' at *
  generalize 2 ^ (-vplace f r2).toNat = Q' at *
  generalize 2 ^ (Lo + 1) = S at *
  generalize 2 ^ (j + 1) = J at *
  generalize 2 ^ more = R at *
  generalize 2 ^ t = T at *
  refine Nat.eq_of_mul_eq_mul_right (Nat.mul_pos hP' (Nat.mul_pos hQ hQ')) ?_
  calc n1 * d2 * S * (n * J) * (P' * (Q * Q')) = (n1 * P') * (n * Q * d2) * (S * J * Q') := by ac_rfl
    _ = (m * P * d1) * (n2 * Q') * (S * J * Q') := by rw [← v1, v2]
    _ = m * d1 * n2 * Q' * (S * J * (P * Q')) := by ac_rfl
    _ = m * d1 * n2 * Q' * (2 * R * T * (P' * Q)) := by rw [hexp]
    _ = d1 * n2 * (2 * (m * R) * T) * (P' * (Q * Q')) := by ac_rfl

/-- The rung of a power of two. -/
theorem rn_pow (hf : Fit f Lo) (k : Nat) : RN f.binade (2 ^ (Lo + 1)) (2 ^ k) 1 ((k + Lo - f.fractionBits) * f.binade + f.binade) := by
  have hB : f.binade = 2 ^ f.fractionBits := rfl
  have hv := vmag_vplace hf (t := k + Lo - f.fractionBits) (q := f.binade) (by have := binade_pos f; omega) (Or.inr (Nat.le_refl _))
  refine Vis.rn hf (by omega) ?_
  unfold Vis
  have hr := hf.room
  rw [hv.1, hv.2, hB, Nat.mul_one, ← Nat.pow_add, ← Nat.pow_add]
  congr 1; omega

/-- A number of at most k bits lies below infinity. -/
theorem rn_below (hf : Fit f Lo) {n d r k : Nat} (hd : 0 < d) (h : RN f.binade (2 ^ (Lo + 1)) n d r) (hk : n ≤ 2 ^ k * d) (hk2 : k + Lo + 2 < 2 ^ f.exponentBits + f.fractionBits) : r < f.infRung := by
  have h1 := h.mono (binade_pos f) hd (by omega) (rn_pow hf k) (by omega)
  refine Nat.lt_of_le_of_lt h1 ?_
  have hr := hf.room
  unfold Format.infRung
  rw [← Nat.succ_mul]
  refine Nat.mul_lt_mul_of_pos_right ?_ (binade_pos f)
  generalize 2 ^ f.exponentBits = z at *
  omega

/-- Greater rungs are greater numbers. -/
theorem order_gt (hf : Fit f Lo) {r1 r2 : Nat} (h1 : r1 < f.infRung) (h2 : r2 < f.infRung) (h : r2 < r1) :
    f.order (f.word false r1) (f.word false r2) = some .gt ∧ f.order (f.word true r1) (f.word true r2) = some .lt := by
  have hb := binade_pos f
  unfold Format.order
  rw [read_word false h1, read_word false h2, read_word true h1, read_word true h2]
  obtain ⟨t1, q1, rfl, hq1, ht1⟩ := rung_form hb r1
  obtain ⟨t2, q2, rfl, hq2, ht2⟩ := rung_form hb r2
  have v1 := vmag_vplace hf hq1 ht1
  have v2 := vmag_vplace hf hq2 ht2
  rw [v1.1, v1.2, v2.1, v2.2]
  simp only [Datum.order, signed, Nat.shiftLeft_eq, Bool.false_eq_true, if_false, if_true]
  -- the places, and the digits at one place
  have hle : t2 ≤ t1 := by
    refine Nat.le_of_not_lt fun hlt => ?_
    have : (t1 + 1) * f.binade ≤ t2 * f.binade := Nat.mul_le_mul_right _ hlt
    rw [Nat.add_mul] at this
    omega
  have hm : min ((t1 : Int) - Lo) ((t2 : Int) - Lo) = (t2 : Int) - Lo := by omega
  rw [hm]
  have e1 : ((t1 : Int) - Lo - ((t2 : Int) - Lo)).toNat = t1 - t2 := by omega
  have e2 : ((t2 : Int) - Lo - ((t2 : Int) - Lo)).toNat = 0 := by omega
  rw [e1, e2, Nat.pow_zero, Nat.mul_one]
  have key : q2 < q1 * 2 ^ (t1 - t2) := by
    by_cases he : t1 = t2
    · subst he
      rw [Nat.sub_self, Nat.pow_zero, Nat.mul_one]; omega
    · have h3 : f.binade ≤ q1 := by omega
      have h4 : 2 ^ 1 ≤ 2 ^ (t1 - t2) := Nat.pow_le_pow_right (by omega) (by omega)
      have := Nat.mul_le_mul h3 h4
      omega
  have key' : (q2 : Int) < ((q1 * 2 ^ (t1 - t2) : Nat) : Int) := by exact_mod_cast key
  constructor
  · congr 1
    exact Int.compare_eq_gt.2 key'
  · congr 1
    exact Int.compare_eq_lt.2 (by omega)

/-- The sign turned. -/
theorem xor_word {i r : Nat} (h : r < 2 ^ i) : r ^^^ 2 ^ i = 2 ^ i + r := by
  have e : 2 ^ i + r = 2 ^ i ||| r := by have := Nat.two_pow_add_eq_or_of_lt h 1; rwa [Nat.mul_one] at this
  rw [e]
  refine Nat.eq_of_testBit_eq fun j => ?_
  rw [Nat.testBit_xor, Nat.testBit_or]
  by_cases hj : i = j
  · subst hj
    rw [Nat.testBit_lt_two_pow h]; simp
  · have : (2 ^ i).testBit j = false := by rw [Nat.testBit_two_pow]; simp [hj]
    rw [this]; simp

theorem neg_word {r : Nat} (hr : r < f.infRung) : (f.word false r) ^^^ 2 ^ (f.exponentBits + f.fractionBits) = f.word true r := by
  have h := infRung_lt' f
  unfold Format.word
  simp only [Bool.false_eq_true, if_false, if_true]
  exact xor_word (Nat.lt_trans hr h)

end Go.Proofs.YtnpinogjajhlhaaGreatDoor.Fl
end
section
/- The bits that floatBits puts together: a sign and a rung. -/
namespace Go.Proofs.YtnpinogjajhlhaaGreatDoor.Fl

def fbits64 (m E : Int) (neg : Bool) : Int :=
  if neg = true then bits .or .u64 (bits .or .u64 (bits .and .u64 m 4503599627370495) (IntKind.u64.wrap (IntKind.u64.wrap (bits .and .i64 E 2047) * 4503599627370496))) 9223372036854775808
  else bits .or .u64 (bits .and .u64 m 4503599627370495) (IntKind.u64.wrap (IntKind.u64.wrap (bits .and .i64 E 2047) * 4503599627370496))

def fbits32 (m E : Int) (neg : Bool) : Int :=
  if neg = true then bits .or .u64 (bits .or .u64 (bits .and .u64 m 8388607) (IntKind.u64.wrap (IntKind.u64.wrap (bits .and .i64 E 255) * 8388608))) 2147483648
  else bits .or .u64 (bits .and .u64 m 8388607) (IntKind.u64.wrap (IntKind.u64.wrap (bits .and .i64 E 255) * 8388608))

theorem and_u64 {x : Nat} (i : Nat) (hi : i ≤ 64) (hx : x < 2 ^ 64) : bits .and .u64 (x : Int) (2 ^ i - 1) = ((x % 2 ^ i : Nat) : Int) := by
  rw [bits_mask IntKind.u64 64 (by decide) (fun n h0 h1 => IntWalk.u64_in n ⟨h0, by omega⟩) i hi (x : Int) (by omega) (by omega)]
  push_cast; rfl

theorem and_i64 {x : Nat} (i : Nat) (hi : i ≤ 62) (hx : x < 2 ^ 62) : bits .and .i64 (x : Int) (2 ^ i - 1) = ((x % 2 ^ i : Nat) : Int) := by
  rw [bits_mask IntKind.i64 62 (by decide) (fun n h0 h1 => IntWalk.i64_in n ⟨by omega, by omega⟩) i hi (x : Int) (by omega) (by omega)]
  push_cast; rfl

theorem or_u64 {x y : Nat} (i : Nat) (hx : x % 2 ^ i = 0) (hx1 : x < 2 ^ 64) (hy : y < 2 ^ i) (hy1 : y < 2 ^ 64) : bits .or .u64 (x : Int) (y : Int) = ((x + y : Nat) : Int) := by
  rw [bits_join IntKind.u64 64 (by decide) (fun n h0 h1 => IntWalk.u64_in n ⟨h0, by omega⟩) i (x : Int) (y : Int) (by omega) (by exact_mod_cast hx) (by omega) (by omega) (by exact_mod_cast hy) (by omega)]
  push_cast; rfl

theorem bits_or_comm (k : IntKind) (x y : Int) : bits .or k x y = bits .or k y x := by
  simp only [bits]
  rw [BitVec.or_comm]

theorem fbits64_eq {m E : Nat} (hm : m < 9007199254740992) (hE : E ≤ 2047) (neg : Bool) : fbits64 m E neg = ((E * 4503599627370496 + m % 4503599627370496 + if neg = true then 9223372036854775808 else 0 : Nat) : Int) := by
  have a1 : bits .and .u64 (m : Int) 4503599627370495 = ((m % 4503599627370496 : Nat) : Int) := and_u64 52 (by omega) (by omega)
  have a2 : bits .and .i64 (E : Int) 2047 = ((E % 2048 : Nat) : Int) := and_i64 11 (by omega) (by omega)
  have a3 : IntKind.u64.wrap ((E % 2048 : Nat) : Int) = ((E : Nat) : Int) := by rw [IntWalk.u64_in _ ⟨by omega, by omega⟩]; omega
  have a4 : IntKind.u64.wrap ((E : Int) * 4503599627370496) = ((E * 4503599627370496 : Nat) : Int) := by rw [IntWalk.u64_in _ ⟨by omega, by omega⟩]; omega
  have a5 : bits .or .u64 ((m % 4503599627370496 : Nat) : Int) ((E * 4503599627370496 : Nat) : Int) = ((E * 4503599627370496 + m % 4503599627370496 : Nat) : Int) := by
    rw [bits_or_comm]; exact or_u64 52 (by omega) (by omega) (by omega) (by omega)
  unfold fbits64
  rw [a1, a2, a3, a4, a5]
  cases neg
  · simp
  · simp only [if_true]
    rw [bits_or_comm]
    have := or_u64 (x := 9223372036854775808) (y := E * 4503599627370496 + m % 4503599627370496) 63 (by omega) (by omega) (by omega) (by omega)
    rw [show (9223372036854775808 : Int) = ((9223372036854775808 : Nat) : Int) from rfl, this]; congr 1; omega

theorem fbits32_eq {m E : Nat} (hm : m < 16777216) (hE : E ≤ 255) (neg : Bool) : fbits32 m E neg = ((E * 8388608 + m % 8388608 + if neg = true then 2147483648 else 0 : Nat) : Int) := by
  have a1 : bits .and .u64 (m : Int) 8388607 = ((m % 8388608 : Nat) : Int) := and_u64 23 (by omega) (by omega)
  have a2 : bits .and .i64 (E : Int) 255 = ((E % 256 : Nat) : Int) := and_i64 8 (by omega) (by omega)
  have a3 : IntKind.u64.wrap ((E % 256 : Nat) : Int) = ((E : Nat) : Int) := by rw [IntWalk.u64_in _ ⟨by omega, by omega⟩]; omega
  have a4 : IntKind.u64.wrap ((E : Int) * 8388608) = ((E * 8388608 : Nat) : Int) := by rw [IntWalk.u64_in _ ⟨by omega, by omega⟩]; omega
  have a5 : bits .or .u64 ((m % 8388608 : Nat) : Int) ((E * 8388608 : Nat) : Int) = ((E * 8388608 + m % 8388608 : Nat) : Int) := by
    rw [bits_or_comm]; exact or_u64 23 (by omega) (by omega) (by omega) (by omega)
  unfold fbits32
  rw [a1, a2, a3, a4, a5]
  cases neg
  · simp
  · simp only [if_true]
    rw [bits_or_comm]
    have := or_u64 (x := 2147483648) (y := E * 8388608 + m % 8388608) 31 (by omega) (by omega) (by omega) (by omega)
    rw [show (2147483648 : Int) = ((2147483648 : Nat) : Int) from rfl, this]; congr 1; omega

theorem consts64 : Ieee.double.binade = 4503599627370496 ∧ Ieee.double.infRung = 9218868437227405312 ∧ Ieee.double.signWeight = 9223372036854775808 := by decide +kernel
theorem consts32 : Ieee.single.binade = 8388608 ∧ Ieee.single.infRung = 2139095040 ∧ Ieee.single.signWeight = 2147483648 := by decide +kernel

/-- Digits q (the uppermost of them set) at place E - 1, or fewer digits at place 0: the rung's bits. -/
theorem fbits64_rung {t q : Nat} (hq : q < 9007199254740992) (ht : t ≤ 2045) (h : t = 0 ∨ 4503599627370496 ≤ q) (neg : Bool) :
    fbits64 q ((if q < 4503599627370496 then 0 else t + 1 : Nat) : Int) neg = ((Ieee.double.word neg (t * 4503599627370496 + q) : Nat) : Int) := by
  rw [fbits64_eq hq (by split <;> omega)]
  unfold Ieee.Format.word
  rw [consts64.2.2]
  congr 1
  split <;> split <;> omega

theorem fbits32_rung {t q : Nat} (hq : q < 16777216) (ht : t ≤ 253) (h : t = 0 ∨ 8388608 ≤ q) (neg : Bool) :
    fbits32 q ((if q < 8388608 then 0 else t + 1 : Nat) : Int) neg = ((Ieee.single.word neg (t * 8388608 + q) : Nat) : Int) := by
  rw [fbits32_eq hq (by split <;> omega)]
  unfold Ieee.Format.word
  rw [consts32.2.2]
  congr 1
  split <;> split <;> omega

theorem fbits64_inf (neg : Bool) : fbits64 0 2047 neg = ((Ieee.double.word neg Ieee.double.infRung : Nat) : Int) := by
  have := fbits64_eq (m := 0) (E := 2047) (by omega) (by omega) neg
  rw [show (0 : Int) = ((0 : Nat) : Int) from rfl, show (2047 : Int) = ((2047 : Nat) : Int) from rfl, this]
  unfold Ieee.Format.word
  rw [consts64.2.2, consts64.2.1]
  cases neg <;> rfl

theorem fbits32_inf (neg : Bool) : fbits32 0 255 neg = ((Ieee.single.word neg Ieee.single.infRung : Nat) : Int) := by
  have := fbits32_eq (m := 0) (E := 255) (by omega) (by omega) neg
  rw [show (0 : Int) = ((0 : Nat) : Int) from rfl, show (255 : Int) = ((255 : Nat) : Int) from rfl, this]
  unfold Ieee.Format.word
  rw [consts32.2.2, consts32.2.1]
  cases neg <;> rfl

end Go.Proofs.YtnpinogjajhlhaaGreatDoor.Fl
end
section
/- prescale, log2Pow10, the rounding of an unrounded number, unmin, bool2. -/
namespace Go.Proofs.YtnpinogjajhlhaaGreatDoor.Fl
open Go.RowKit

def PowAt (w : World) (B : Nat) : Prop :=
  15 < B ∧ ∀ i, i < 696 → w.cell? ⟨15, i * 2, none⟩ = some (.int .u64 (pw i).1) ∧ w.cell? ⟨15, i * 2 + 1, none⟩ = some (.int .u64 (pw i).2)

theorem PowAt.below {w w' : World} {B : Nat} (h : PowAt w B) (hb : Below B w w') : PowAt w' B :=
  ⟨h.1, fun i hi => ⟨(hb.cell (p := ⟨_, _, none⟩) h.1).trans (h.2 i hi).1, (hb.cell (p := ⟨_, _, none⟩) h.1).trans (h.2 i hi).2⟩⟩

theorem lp_walk (p : Int) (hp : -1000 ≤ p) (hp2 : p ≤ 1000) (w : World) : Calls Tryz.prog 183 #[.int .i64 p] w (IntEndU .i64 (lp p) w) := by
  go_enter Tryz.func183, Tryz.ntmps183
  go_wp2_with fail
  go_ret
  exact ⟨rfl, rfl⟩

theorem round_walk (u : Nat) (hu : u < 4611686018427387904) (w : World) : Calls Tryz.prog 188 #[.int .u64 u] w (IntEndU .u64 (rnd u : Nat) w) := by
  go_enter Tryz.func188, Tryz.ntmps188
  go_wp2_with fail
  go_ret
  refine ⟨?_, rfl⟩
  have e1 : bits .and .u64 ((u : Int) / 4) 1 = ((u / 4 % 2 : Nat) : Int) := by
    have h := and_u64 (x := u / 4) 1 (by decide) (by omega)
    rw [show ((u : Int) / 4) = ((u / 4 : Nat) : Int) by push_cast; rfl]; exact h
  show Ending.returned (.int .u64 (IntKind.u64.wrap ((u : Int) + 1 + bits .and .u64 ((u : Int) / 4) 1) / 4)) = _
  rw [e1, IntKind.wrap_u64]
  unfold rnd
  exact congrArg (fun z => Ending.returned (.int .u64 z)) (by omega)

theorem unmin_walk (x : Nat) (hx1 : 1 ≤ x) (hu : x ≤ 9007199254740992) (w : World) : Calls Tryz.prog 189 #[.int .u64 x] w (IntEndU .u64 (x * 4 - 2 : Nat) w) := by
  go_enter Tryz.func189, Tryz.ntmps189
  go_wp2_with fail
  go_ret
  refine ⟨congrArg (fun z => Ending.returned (.int .u64 z)) ?_, rfl⟩
  show (x : Int) * 4 - 2 = _
  omega

theorem bool2i_walk (b : Bool) (w : World) : Calls Tryz.prog 138 #[.bool b] w (IntEndU .i64 (b.toNat : Nat) w) := by
  go_enter Tryz.func138, Tryz.ntmps138
  cases b <;> (go_wp2_with fail; go_ret; exact ⟨rfl, rfl⟩)

def ScI (w : World) (c : Nat) (a b : Nat) (s : Int) : Prop :=
  w.cell? ⟨c, 0, none⟩ = some (.int .u64 a) ∧ w.cell? ⟨c, 1, none⟩ = some (.int .u64 b) ∧ w.cell? ⟨c, 2, none⟩ = some (.int .i64 s) ∧ ∀ i, w.frozen? ⟨c, i, none⟩ = false

theorem ScI.drewN {w : World} {c a b : Nat} {s : Int} (h : ScI w c a b s) (n : Nat) : ScI (w.drewN n) c a b s := h

def PreEnd (c hi lo : Nat) (s : Int) (B : Nat) (w : World) (e : Ending) (w' : World) : Prop :=
  e = .returned (.tuple #[]) ∧ ScI w' c hi lo s ∧ Below B w w'

theorem prescale_walk (c : Nat) (e p lp : Int) (i : Nat) (hi : i < 696) (hp : p = (i : Int) - 348) (he1 : -5000 ≤ e) (he2 : e ≤ 5000) (hl1 : -5000 ≤ lp) (hl2 : lp ≤ 5000) (w : World) (B : Nat) (hB : B ≤ c) (hP : PowAt w B)
    (a b : Nat) (s : Int) (hc : ScI w c a b s) :
    Calls Tryz.prog 182 #[.pointer (some ⟨c, 0, none⟩), .int .i64 e, .int .i64 p, .int .i64 lp] w (PreEnd c (pw i).1 (pw i).2 (-(e + lp + 3)) B w) := by
  have AS : Hid (ScI w c a b s) := hc
  obtain ⟨c0, c1, c2, c3⟩ := hc
  obtain ⟨p0, p1⟩ := hP
  obtain ⟨p2, p3⟩ := p1 i hi
  obtain ⟨u, hu⟩ : ∃ u, (pw i).1 = u := ⟨_, rfl⟩
  obtain ⟨v, hv⟩ : ∃ v, (pw i).2 = v := ⟨_, rfl⟩
  have hne : 15 ≠ c := by omega
  have q2 : (w.setCell ⟨c, 0, none⟩ (.int .u64 u)).cell? ⟨15, i * 2 + 1, none⟩ = some (.int .u64 v) := by
    rw [World.cell?_setCell_other _ _ _ _ (by intro h; injection h with h; exact absurd h.symm hne), p3, hv]
  rw [hu, hv]
  rw [hu] at p2
  clear p1 p3 hu hv
  go_enter Tryz.func182, Tryz.ntmps182
  go_wp2_with fail
  go_end0
  obtain ⟨a0, a1, a2, a3⟩ := AS.out
  refine ⟨rfl, ⟨cell_other (cell_other (World.cell?_setCell_same _ _ _ a0) (by decide)) (by decide), cell_other (World.cell?_setCell_same _ _ _ (cell_other a1 (by decide))) (by decide),
    World.cell?_setCell_same _ _ _ (cell_other (cell_other a2 (by decide)) (by decide)), fun j => ?_⟩, (((Below.refl B w).setCell (p := ⟨c, _, none⟩) hB _).setCell (p := ⟨c, _, none⟩) hB _).setCell (p := ⟨c, _, none⟩) hB _⟩
  rw [World.frozen?_setCell, World.frozen?_setCell, World.frozen?_setCell]; exact a3 j
end Go.Proofs.YtnpinogjajhlhaaGreatDoor.Fl
end
