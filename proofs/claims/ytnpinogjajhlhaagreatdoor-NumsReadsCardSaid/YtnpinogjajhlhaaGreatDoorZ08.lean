/- A part of the proof that lexiconlaw03.NumsReads answers true at every kind and every text: Dc, DcPut. No condition. -/
import Derived.Test.YtnpinogjajhlhaaGreatDoorZ05
section
/- Decimal numbers of at most 800 digits that are shifted by powers of two and cut: no midpoint is lost. No program here. -/
namespace Go.Proofs.YtnpinogjajhlhaaGreatDoor.Fl

/-- The first w digits as a number. -/
def num (a : Nat → Nat) : Nat → Nat
  | 0 => 0
  | w + 1 => 10 * num a w + a w

theorem num_lt {a : Nat → Nat} {w : Nat} (h : ∀ i, i < w → a i ≤ 9) : num a w < 10 ^ w := by
  induction w with
  | zero => simp [num]
  | succ w ih =>
    have := ih fun i hi => h i (by omega)
    have h9 := h w (by omega)
    rw [num, Nat.pow_succ]; omega

theorem num_add (a : Nat → Nat) (w k : Nat) : num a (w + k) = num a w * 10 ^ k + num (fun i => a (w + i)) k := by
  induction k with
  | zero => simp [num]
  | succ k ih =>
    rw [← Nat.add_assoc, num, ih, num, Nat.pow_succ, Nat.mul_add]
    have : 10 * (num a w * 10 ^ k) = num a w * (10 ^ k * 10) := by ac_rfl
    omega

theorem num_congr {a b : Nat → Nat} {w : Nat} (h : ∀ i, i < w → a i = b i) : num a w = num b w := by
  induction w with
  | zero => rfl
  | succ w ih => rw [num, num, ih fun i hi => h i (by omega), h w (by omega)]

theorem num_ge {a : Nat → Nat} {w : Nat} (h : a 0 ≠ 0) (hw : 0 < w) : 10 ^ (w - 1) ≤ num a w := by
  obtain ⟨k, rfl⟩ : ∃ k, w = 1 + k := ⟨w - 1, by omega⟩
  rw [num_add]
  have h1 : num a 1 = a 0 := by simp [num]
  have : 1 * 10 ^ k ≤ a 0 * 10 ^ k := Nat.mul_le_mul_right _ (by omega)
  rw [show 1 + k - 1 = k from by omega, h1]; omega

/-- A number B of W digits cut to 800 and freed of noughts behind: D of nd digits; lost: something fell away. -/
structure Cut (B W D nd : Nat) (lost : Bool) : Prop where
  pos : 1 ≤ W
  lo : 10 ^ (W - 1) ≤ B
  hi : B < 10 ^ W
  nd_le : nd ≤ W
  nd_le' : nd ≤ 800
  val : D * 10 ^ (W - nd) = B / 10 ^ (W - 800) * 10 ^ (W - 800)
  lost_iff : lost = true ↔ B % 10 ^ (W - 800) ≠ 0

/-- What a state of the decimal number is worth to the number xx that it stands for (all scaled by 10^K 2^L): sh: how far it has been shifted to the left. -/
def vv (K L D : Nat) (e sh : Int) : Nat := D * 10 ^ (e + K).toNat * 2 ^ ((L : Int) - sh).toNat

structure Inv (K L xx D : Nat) (e sh : Int) (tr : Bool) : Prop where
  eq : tr = false → vv K L D e sh = xx
  lt : tr = true → vv K L D e sh < xx
  gs : ∀ (G : Nat) (J : Int), -1100 ≤ J → J ≤ 1105 → xx < 10 ^ K * 2 ^ (55 - J + L).toNat → G * 10 ^ K * 2 ^ ((L : Int) - J).toNat ≤ xx → G * 10 ^ K * 2 ^ ((L : Int) - J).toNat ≤ vv K L D e sh

theorem Inv.le {K L xx D : Nat} {e sh : Int} {tr : Bool} (h : Inv K L xx D e sh tr) : vv K L D e sh ≤ xx := by
  cases tr with
  | false => exact Nat.le_of_eq (h.eq rfl)
  | true => exact Nat.le_of_lt (h.lt rfl)

theorem ten_le (m : Nat) : 10 ^ m ≤ 2 ^ ((10 * m + 2) / 3) := by
  induction m using Nat.strongRecOn with
  | ind m ih =>
    by_cases h : m < 3
    · rcases (show m = 0 ∨ m = 1 ∨ m = 2 by omega) with rfl | rfl | rfl <;> decide
    · obtain ⟨k, rfl⟩ : ∃ k, m = k + 3 := ⟨m - 3, by omega⟩
      have := ih k (by omega)
      have e : (10 * (k + 3) + 2) / 3 = (10 * k + 2) / 3 + 10 := by omega
      rw [e, Nat.pow_add, Nat.pow_add]
      exact Nat.mul_le_mul this (by decide)

/-- A midpoint lies on the grid of 800 digits. -/
theorem grid {K L : Nat} {dp sh J : Int} {xx B W : Nat} (hK : 2000 ≤ K) (hL : 3000 ≤ L) (hlo : 10 ^ (W - 1) ≤ B) (hW : 1 ≤ W)
    (hle : B * 10 ^ (dp - W + K).toNat * 2 ^ ((L : Int) - sh).toNat ≤ xx) (he : 0 ≤ dp - W + K) (hsh : sh ≤ 2000)
    (hx : xx < 10 ^ K * 2 ^ (55 - J + L).toNat) (hJ : J ≤ 1105) (hJ2 : -1100 ≤ J) (hdp : dp ≤ 700) (hr : -310 ≤ dp ∨ 0 ≤ sh) : J - sh + dp ≤ 800 := by
  have h1 : 10 ^ (dp - 1 + K).toNat * 2 ^ ((L : Int) - sh).toNat < 10 ^ K * 2 ^ (55 - J + L).toNat := by
    refine Nat.lt_of_le_of_lt ?_ (Nat.lt_of_le_of_lt hle hx)
    refine Nat.mul_le_mul_right _ ?_
    have : 10 ^ (dp - 1 + K).toNat = 10 ^ (W - 1) * 10 ^ (dp - W + K).toNat := by rw [← Nat.pow_add]; congr 1; omega
    rw [this]
    exact Nat.mul_le_mul_right _ hlo
  by_cases hp : 1 ≤ dp
  · have h2 : 10 ^ K ≤ 10 ^ (dp - 1 + K).toNat := Nat.pow_le_pow_right (by omega) (by omega)
    have h3 : 10 ^ K * 2 ^ ((L : Int) - sh).toNat < 10 ^ K * 2 ^ (55 - J + L).toNat := Nat.lt_of_le_of_lt (Nat.mul_le_mul_right _ h2) h1
    have h4 := (Nat.pow_lt_pow_iff_right (show 1 < 2 by omega)).1 (Nat.lt_of_mul_lt_mul_left h3)
    omega
  · by_cases hr2 : -310 ≤ dp
    · -- ten to 1 - dp is at most a power of two
      obtain ⟨m, hm⟩ : ∃ m : Nat, (m : Int) = 1 - dp := ⟨(1 - dp).toNat, by omega⟩
      have h2 : 10 ^ K = 10 ^ m * 10 ^ (dp - 1 + K).toNat := by rw [← Nat.pow_add]; congr 1; omega
      rw [h2] at h1
      have h3 : 10 ^ (dp - 1 + K).toNat * 2 ^ ((L : Int) - sh).toNat < 10 ^ (dp - 1 + K).toNat * (10 ^ m * 2 ^ (55 - J + L).toNat) := by
        have : 10 ^ m * 10 ^ (dp - 1 + K).toNat * 2 ^ (55 - J + L).toNat = 10 ^ (dp - 1 + K).toNat * (10 ^ m * 2 ^ (55 - J + L).toNat) := by ac_rfl
        rw [← this]; exact h1
      have h4 := Nat.lt_of_mul_lt_mul_left h3
      have h5 : 2 ^ ((L : Int) - sh).toNat < 2 ^ ((10 * m + 2) / 3 + (55 - J + L).toNat) := by
        rw [Nat.pow_add]
        exact Nat.lt_of_lt_of_le h4 (Nat.mul_le_mul_right _ (ten_le m))
      have h6 := (Nat.pow_lt_pow_iff_right (show 1 < 2 by omega)).1 h5
      omega
    · omega

theorem acF (G f t p c q : Nat) (p2 w : Nat) (h : t * p2 = w * q) : G * (f * t * (c * p)) * p2 = G * f * w * (c * (p * q)) := by
  calc G * (f * t * (c * p)) * p2 = G * f * (c * p) * (t * p2) := by ac_rfl
    _ = G * f * w * (c * (p * q)) := by rw [h]; ac_rfl
theorem acG (B c p q : Nat) : B * c * p * q = B * (c * (p * q)) := by ac_rfl
theorem acH (B p q : Nat) : B * p * q = B * (p * q) := by ac_rfl

theorem inv_step {K L xx D D' B W nd' : Nat} {e e' sh sh' dp' : Int} {tr tr' lost : Bool} (hK : 2000 ≤ K) (hL : 3000 ≤ L) (h : Inv K L xx D e sh tr)
    (hc : Cut B W D' nd' lost) (hex : B * 10 ^ (dp' - W + K).toNat * 2 ^ ((L : Int) - sh').toNat = vv K L D e sh) (he : 0 ≤ dp' - W + K) (htr : tr' = (tr || lost)) (he' : e' = dp' - nd')
    (hsh : sh' ≤ 2000) (hdp : dp' ≤ 700) (hr : -310 ≤ dp' ∨ 0 ≤ sh') : Inv K L xx D' e' sh' tr' := by
  obtain ⟨cc, hcc⟩ : ∃ cc, cc = W - 800 := ⟨_, rfl⟩
  have hcval := hc.val
  have hclost := hc.lost_iff
  rw [← hcc] at hcval hclost
  have hlt10 : 0 < 10 ^ cc := Nat.pow_pos (by omega)
  -- the new value
  have hv : vv K L D' e' sh' = B / 10 ^ cc * 10 ^ cc * 10 ^ (dp' - W + K).toNat * 2 ^ ((L : Int) - sh').toNat := by
    unfold vv
    have hn := hc.nd_le
    have : 10 ^ (e' + K).toNat = 10 ^ (W - nd') * 10 ^ (dp' - W + K).toNat := by rw [← Nat.pow_add]; congr 1; omega
    rw [this, ← Nat.mul_assoc, hcval]
  have hdm := Nat.div_add_mod' B (10 ^ cc)
  have hP : 0 < 10 ^ (dp' - W + K).toNat * 2 ^ ((L : Int) - sh').toNat := Nat.mul_pos (Nat.pow_pos (by omega)) (Nat.two_pow_pos _)
  have hle := h.le
  have hle2 := hle
  rw [← hex] at hle2
  refine ⟨fun ht => ?_, fun ht => ?_, fun G J hJ1 hJ2 hx hg => ?_⟩
  · rw [htr] at ht
    simp only [Bool.or_eq_false_iff] at ht
    have h0 : B % 10 ^ cc = 0 := by
      refine Nat.eq_zero_of_not_pos fun hp => ?_
      have := hclost.2 (by omega)
      rw [ht.2] at this; exact Bool.noConfusion this
    rw [hv, ← h.eq ht.1, ← hex]
    congr 2; omega
  · have hlt : vv K L D' e' sh' ≤ vv K L D e sh := by
      rw [hv, ← hex, Nat.mul_assoc, Nat.mul_assoc B]
      exact Nat.mul_le_mul_right _ (by omega)
    rw [htr] at ht
    cases htt : tr with
    | true => exact Nat.lt_of_le_of_lt hlt (h.lt htt)
    | false =>
      rw [htt, Bool.false_or] at ht
      have h0 := hclost.1 ht
      refine Nat.lt_of_lt_of_le ?_ hle
      rw [hv, ← hex, Nat.mul_assoc, Nat.mul_assoc B]
      exact Nat.mul_lt_mul_of_pos_right (by omega) hP
  · have hgv := h.gs G J hJ1 hJ2 hx hg
    rw [← hex] at hgv
    have hgr := grid hK hL hc.lo hc.pos hle2 he hsh hx hJ2 hJ1 hdp hr
    -- on the grid
    obtain ⟨u, hu⟩ : ∃ u : Nat, (u : Int) = 800 - dp' := ⟨(800 - dp').toNat, by omega⟩
    obtain ⟨v, hv2⟩ : ∃ v : Nat, (v : Int) = 800 - dp' + sh' - J := ⟨(800 - dp' + sh' - J).toNat, by omega⟩
    by_cases hW : W ≤ 800
    · rw [hv]
      have : cc = 0 := by omega
      rw [this, Nat.pow_zero, Nat.div_one, Nat.mul_one]; exact hgv
    · have e1 : G * 10 ^ K * 2 ^ ((L : Int) - J).toNat = G * 5 ^ u * 2 ^ v * (10 ^ cc * (10 ^ (dp' - W + K).toNat * 2 ^ ((L : Int) - sh').toNat)) := by
        have a1 : 10 ^ K = 10 ^ u * 10 ^ (dp' - 800 + K).toNat := by rw [← Nat.pow_add]; congr 1; omega
        have a2 : 10 ^ (dp' - 800 + K).toNat = 10 ^ cc * 10 ^ (dp' - W + K).toNat := by rw [← Nat.pow_add]; congr 1; omega
        have a3 : 10 ^ u = 5 ^ u * 2 ^ u := by rw [← Nat.mul_pow]
        have a4 : 2 ^ u * 2 ^ ((L : Int) - J).toNat = 2 ^ v * 2 ^ ((L : Int) - sh').toNat := by rw [← Nat.pow_add, ← Nat.pow_add]; congr 1; omega
        rw [a1, a2, a3]
        exact acF _ _ _ _ _ _ _ _ a4
      rw [e1] at hgv ⊢
      rw [hv]
      rw [acG (B / 10 ^ cc)]
      refine Nat.mul_le_mul_right _ ?_
      refine (Nat.le_div_iff_mul_le (Nat.pow_pos (by omega))).2 ?_
      refine Nat.le_of_mul_le_mul_right (c := 10 ^ (dp' - W + K).toNat * 2 ^ ((L : Int) - sh').toNat) ?_ hP
      rw [acH B] at hgv
      rw [Nat.mul_assoc (G * 5 ^ u * 2 ^ v)]
      exact hgv

/-- Does Go round up at p digits? -/
def upAt (a : Nat → Nat) (nd : Nat) (tr : Bool) (p : Int) : Bool :=
  if p < 0 ∨ (nd : Int) ≤ p then false
  else if a p.toNat = 5 ∧ p + 1 = nd then (if tr = true then true else decide (0 < p) && decide (a (p.toNat - 1) % 2 = 1))
  else decide (5 ≤ a p.toNat)

/-- The whole number that Go rounds to. -/
def rint (a : Nat → Nat) (nd : Nat) (dp : Int) (tr : Bool) : Nat :=
  (if dp ≤ nd then num a dp.toNat else num a nd * 10 ^ (dp - nd).toNat) + if upAt a nd tr dp = true then 1 else 0

theorem rhe_halves {x h : Nat} (hh : 0 < h) : rhe x (2 * h) = x / h / 2 + if x / h % 2 = 1 ∧ (x % h ≠ 0 ∨ x / h / 2 % 2 = 1) then 1 else 0 := by
  have hq : x / (2 * h) = x / h / 2 := by rw [Nat.div_div_eq_div_mul, Nat.mul_comm 2]
  have hr : x % (2 * h) = x % h + h * (x / h % 2) := by rw [Nat.mul_comm 2, Nat.mod_mul]
  have hl := Nat.mod_lt x hh
  unfold rhe
  rw [hq, hr]
  generalize x / h = g at *
  generalize x % h = r at *
  congr 1
  rcases (show g % 2 = 0 ∨ g % 2 = 1 by omega) with h0 | h1
  · rw [h0, Nat.mul_zero, if_neg (by omega), if_neg (by omega)]
  · rw [h1, Nat.mul_one]
    by_cases hr0 : r = 0
    · subst hr0
      by_cases ho : g / 2 % 2 = 1
      · rw [if_pos (by omega), if_pos (by omega)]
      · rw [if_neg (by omega), if_neg (by omega)]
    · rw [if_pos (by omega), if_pos (by omega)]

theorem round_ok {K L xx nd : Nat} {dp sh : Int} {tr : Bool} {a : Nat → Nat} (h : Inv K L xx (num a nd) (dp - nd) sh tr) (hd : ∀ i, i < nd → a i ≤ 9)
    (ht : 0 < nd → a (nd - 1) ≠ 0) (hs1 : -1101 ≤ sh) (hs2 : sh ≤ 1104) (hL : 3000 ≤ L) (hK : 0 ≤ dp - nd + K)
    (hx : xx < 10 ^ K * 2 ^ (54 - sh + L).toNat) : rint a nd dp tr = rhe xx (10 ^ K * 2 ^ ((L : Int) - sh).toNat) := by
  obtain ⟨H, hH⟩ : ∃ H, H = 10 ^ K * 2 ^ ((L : Int) - (sh + 1)).toNat := ⟨_, rfl⟩
  have hH0 : 0 < H := by rw [hH]; exact Nat.mul_pos (Nat.pow_pos (by omega)) (Nat.two_pow_pos _)
  have hDen : 10 ^ K * 2 ^ ((L : Int) - sh).toNat = 2 * H := by
    have : 2 ^ ((L : Int) - sh).toNat = 2 * 2 ^ ((L : Int) - (sh + 1)).toNat := by rw [← Nat.pow_succ']; congr 1; omega
    rw [hH, this]; exact Nat.mul_left_comm ..
  rw [hDen, rhe_halves hH0]
  -- the halves below both are the same
  have hle := h.le
  obtain ⟨v, hv⟩ : ∃ v, v = vv K L (num a nd) (dp - nd) sh := ⟨_, rfl⟩
  have hg : ∀ G, G * H ≤ xx → G * H ≤ v := fun G hG => by
    have := h.gs G (sh + 1) (by omega) (by omega) (by rw [show (55 - (sh + 1) + L : Int) = 54 - sh + L from by omega]; exact hx) (by rw [Nat.mul_assoc, ← hH]; exact hG)
    rw [Nat.mul_assoc, ← hH] at this
    rw [hv]; exact this
  rw [← hv] at hle
  have heq := h.eq
  have hlt := h.lt
  rw [← hv] at heq hlt
  have hfl : xx / H = v / H := by
    refine Nat.le_antisymm ?_ (Nat.div_le_div_right hle)
    refine (Nat.le_div_iff_mul_le hH0).2 (hg _ (Nat.div_mul_le_self _ _))
  have hrem : xx % H ≠ 0 ↔ (v % H ≠ 0 ∨ tr = true) := by
    have d1 := Nat.div_add_mod xx H
    have d2 := Nat.div_add_mod v H
    rw [hfl] at d1
    cases tr with
    | false => have := heq rfl; simp; omega
    | true => have := hlt rfl; simp; omega
  rw [hfl]
  -- the value as a decimal number
  have hvd : v = num a nd * 10 ^ (dp - nd + K).toNat * 2 ^ ((L : Int) - sh).toNat := hv
  unfold rint
  by_cases hc : (nd : Int) ≤ dp
  · have e1 : v = (num a nd * 10 ^ (dp - nd).toNat * 2) * H := by
      have : 10 ^ (dp - nd + K).toNat = 10 ^ (dp - nd).toNat * 10 ^ K := by rw [← Nat.pow_add]; congr 1; omega
      rw [hvd, this]
      calc num a nd * (10 ^ (dp - nd).toNat * 10 ^ K) * 2 ^ ((L : Int) - sh).toNat = num a nd * 10 ^ (dp - nd).toNat * (10 ^ K * 2 ^ ((L : Int) - sh).toNat) := by ac_rfl
        _ = _ := by rw [hDen]; ac_rfl
    have e2 : v / H = num a nd * 10 ^ (dp - nd).toNat * 2 := by rw [e1, Nat.mul_div_cancel _ hH0]
    have hup : upAt a nd tr dp = false := by unfold upAt; rw [if_pos (Or.inr hc)]
    rw [e2, hup, Nat.mul_div_cancel _ (by omega), Nat.mul_mod_left]
    simp only [Bool.false_eq_true, if_false, Nat.zero_ne_one, false_and]
    congr 1
    by_cases hcc : dp ≤ nd
    · have : dp = nd := by omega
      subst this
      simp
    · rw [if_neg hcc]
  · rw [if_pos (by omega)]
    obtain ⟨c, hcn⟩ : ∃ c : Nat, (c : Int) = nd - dp := ⟨(nd - dp).toNat, by omega⟩
    have hpow : 0 < 10 ^ c := Nat.pow_pos (by omega)
    have e1 : v * 10 ^ c = 2 * num a nd * H := by
      have : 10 ^ K = 10 ^ (dp - nd + K).toNat * 10 ^ c := by rw [← Nat.pow_add]; congr 1; omega
      calc v * 10 ^ c = num a nd * ((10 ^ (dp - nd + K).toNat * 10 ^ c) * 2 ^ ((L : Int) - sh).toNat) := by rw [hvd]; ac_rfl
        _ = num a nd * (2 * H) := by rw [← this, hDen]
        _ = 2 * num a nd * H := by ac_rfl
    have hr := ratio_eq hH0 hpow e1
    have hrem2 : (xx % H ≠ 0 ∨ v / H / 2 % 2 = 1) ↔ (2 * num a nd % 10 ^ c ≠ 0 ∨ tr = true ∨ v / H / 2 % 2 = 1) := by rw [hrem, hr.2, or_assoc]
    simp only [hrem2]
    rw [hr.1]
    have hlt10 := num_lt hd
    by_cases hneg : dp < 0
    · have h1 : num a dp.toNat = 0 := by rw [show dp.toNat = 0 from by omega]; rfl
      have h2 : 2 * num a nd / 10 ^ c = 0 := by
        refine Nat.div_eq_of_lt ?_
        have : 10 ^ (nd + 1) ≤ 10 ^ c := Nat.pow_le_pow_right (by omega) (by omega)
        rw [Nat.pow_succ] at this; omega
      have hup : upAt a nd tr dp = false := by unfold upAt; rw [if_pos (Or.inl hneg)]
      rw [h1, h2, hup]; simp
    · obtain ⟨p, rfl⟩ : ∃ p : Nat, dp = p := ⟨dp.toNat, by omega⟩
      obtain ⟨c', rfl⟩ : ∃ c', c = c' + 1 := ⟨c - 1, by omega⟩
      have hnd : nd = p + (c' + 1) := by omega
      subst hnd
      rw [Int.toNat_natCast]
      have hs := num_add a p (c' + 1)
      have hs2 : num (fun i => a (p + i)) (1 + c') = num (fun i => a (p + i)) 1 * 10 ^ c' + num (fun i => a (p + (1 + i))) c' := num_add _ 1 c'
      have hone : num (fun i => a (p + i)) 1 = a p := by simp [num]
      rw [show 1 + c' = c' + 1 from by omega, hone] at hs2
      have hf : num (fun i => a (p + (1 + i))) c' < 10 ^ c' := num_lt fun i hi => hd _ (by omega)
      have h9 := hd p (by omega)
      have hfz : num (fun i => a (p + (1 + i))) c' = 0 ↔ c' = 0 := by
        constructor
        · intro hz
          refine Nat.eq_zero_of_not_pos fun hpos => ?_
          obtain ⟨c2, rfl⟩ : ∃ c2, c' = c2 + 1 := ⟨c' - 1, by omega⟩
          rw [num] at hz
          have := ht (by omega)
          rw [show p + (c2 + 1 + 1) - 1 = p + (1 + c2) from by omega] at this
          exact this (by omega)
        · intro hz; subst hz; rfl
      generalize num (fun i => a (p + (1 + i))) c' = f2 at *
      have hp1 : 10 ^ (c' + 1) = 10 * 10 ^ c' := by rw [Nat.pow_succ, Nat.mul_comm]
      have hp0 : 0 < 10 ^ c' := Nat.pow_pos (by omega)
      rw [hs2] at hs
      generalize hz : 10 ^ c' = z at *
      rw [hp1] at hs ⊢
      generalize num a (p + (c' + 1)) = D at *
      -- D = q 10z + a_p z + f2
      have hD : D = 10 * z * num a p + (a p * z + f2) := by rw [hs, Nat.mul_comm]
      have hap : a p * z + f2 < 10 * z := by
        have : a p * z ≤ 9 * z := Nat.mul_le_mul_right _ h9
        omega
      have hG : 2 * D / (10 * z) = 2 * num a p + if 5 ≤ a p then 1 else 0 := by
        rw [hD, Nat.mul_add, show 2 * (10 * z * num a p) = 10 * z * (2 * num a p) from by ac_rfl, Nat.mul_add_div (by omega)]
        congr 1
        by_cases h5 : 5 ≤ a p
        · rw [if_pos h5]
          have : 5 * z ≤ a p * z := Nat.mul_le_mul_right _ h5
          exact Nat.div_eq_of_lt_le (by omega) (by omega)
        · rw [if_neg h5]
          have : a p * z ≤ 4 * z := Nat.mul_le_mul_right _ (by omega)
          exact Nat.div_eq_of_lt (by omega)
      have hR : 5 ≤ a p → (2 * D % (10 * z) ≠ 0 ↔ ¬ (a p = 5 ∧ c' = 0)) := fun h5 => by
        have hdm := Nat.div_add_mod (2 * D) (10 * z)
        rw [hG, if_pos h5] at hdm
        have h51 : 5 * z ≤ a p * z := Nat.mul_le_mul_right _ h5
        have e : 10 * z * (2 * num a p + 1) = 2 * (10 * z * num a p) + 10 * z := by rw [Nat.mul_add, Nat.mul_one]; congr 1; ac_rfl
        have hre : 2 * D % (10 * z) = 2 * (a p * z + f2) - 10 * z := by omega
        rw [hre]
        by_cases he : a p = 5
        · rw [he]
          constructor
          · intro hne hcc
            have := hfz.2 hcc.2
            omega
          · intro hcc
            have : f2 ≠ 0 := fun h => hcc ⟨rfl, hfz.1 h⟩
            omega
        · have : 6 * z ≤ a p * z := Nat.mul_le_mul_right _ (by omega)
          constructor
          · intro _ hcc; exact he hcc.1
          · intro _; omega
      have hq2 : 2 * D / (10 * z) / 2 = num a p := by rw [hG]; split <;> omega
      have hG2 : 2 * D / (10 * z) % 2 = 1 ↔ 5 ≤ a p := by rw [hG]; split <;> omega
      rw [hq2]
      congr 1
      -- when to round up
      have hup : upAt a (p + (c' + 1)) tr p = true ↔ (2 * D / (10 * z) % 2 = 1 ∧ (2 * D % (10 * z) ≠ 0 ∨ tr = true ∨ num a p % 2 = 1)) := by
        rw [hG2]
        unfold upAt
        rw [if_neg (by omega), Int.toNat_natCast]
        have hpar : num a p % 2 = 1 ↔ (0 < p ∧ a (p - 1) % 2 = 1) := by
          cases p with
          | zero => simp [num]
          | succ p => rw [num]; simp; omega
        by_cases h5 : a p = 5 ∧ (p : Int) + 1 = ((p + (c' + 1) : Nat) : Int)
        · rw [if_pos h5]
          have hc0 : c' = 0 := by omega
          have hr0 := hR (by omega)
          have : ¬ (2 * D % (10 * z) ≠ 0) := fun hh => (hr0.1 hh) ⟨h5.1, hc0⟩
          rw [hpar]
          cases tr with
          | true => simp; omega
          | false =>
            simp only [Bool.false_eq_true, if_false, Bool.and_eq_true, decide_eq_true_eq, false_or]
            constructor
            · intro hh; exact ⟨by omega, Or.inr ⟨by omega, hh.2⟩⟩
            · intro hh
              rcases hh.2 with h1 | h1
              · exact absurd h1 this
              · exact ⟨by omega, h1.2⟩
        · rw [if_neg h5]
          simp only [decide_eq_true_eq]
          constructor
          · intro hh
            refine ⟨hh, Or.inl ((hR hh).2 fun hcc => h5 ⟨hcc.1, by omega⟩)⟩
          · intro hh; exact hh.1
      by_cases hu : upAt a (p + (c' + 1)) tr p = true
      · rw [if_pos hu, if_pos (hup.1 hu)]
      · rw [if_neg hu, if_neg (fun hh => hu (hup.2 hh))]

end Go.Proofs.YtnpinogjajhlhaaGreatDoor.Fl
end
section
/- Digits put down one by one behind a shift to the right: the number of which they are the digits. No program here. -/
namespace Go.Proofs.YtnpinogjajhlhaaGreatDoor.Fl
set_option maxRecDepth 100000

/-- The virtual number X of W digits so far, and what is stored of it: z is still to be put down. -/
structure Put (g q : Nat → Nat) (nd k r1 W z M : Nat) (X : Nat) (lost : Bool) : Prop where
  eq : X * 10 * 2 ^ k + z = num g (min (r1 + W) nd) * 10 ^ M
  zlt : z < 10 * 2 ^ k
  first : W = 0 → 2 ^ k ≤ z ∧ X = 0
  xlt : X < 10 ^ W
  xge : 1 ≤ W → 10 ^ (W - 1) ≤ X
  sto : num q (min W 800) = X / 10 ^ (W - 800)
  lo : lost = true ↔ X % 10 ^ (W - 800) ≠ 0
  q0 : 1 ≤ W → q 0 ≠ 0
  q9 : ∀ i, i < min W 800 → q i ≤ 9

theorem num_set {q : Nat → Nat} {W v : Nat} : num (fun i => if i = W then v else q i) W = num q W := num_congr fun i hi => by rw [if_neg (by omega)]

theorem div_pow10_step (X d c : Nat) (hd : d ≤ 9) : (10 * X + d) / 10 ^ (c + 1) = X / 10 ^ c ∧ (10 * X + d) % 10 ^ (c + 1) = 10 * (X % 10 ^ c) + d := by
  have hp : 0 < 10 ^ c := Nat.pow_pos (by omega)
  have e : 10 ^ (c + 1) = 10 * 10 ^ c := by rw [Nat.pow_succ, Nat.mul_comm]
  rw [e]
  have h1 : (10 * X + d) / 10 = X := by omega
  have h2 : (10 * X + d) % 10 = d := by omega
  constructor
  · rw [← Nat.div_div_eq_div_mul, h1]
  · rw [Nat.mod_mul, h1, h2]; omega

/-- The step on the number alone. -/
theorem put_eq {K X z N z' c M : Nat} (heq : X * 10 * K + z = N * 10 ^ M) (hz' : z' = z % K * 10 + c) : (10 * X + z / K) * 10 * K + z' = N * 10 ^ (M + 1) + c := by
  have hdm := Nat.div_add_mod z K
  have e1 : (10 * X + z / K) * 10 * K = 10 * (X * 10 * K) + 10 * (K * (z / K)) := by
    rw [Nat.add_mul, Nat.add_mul]; congr 1 <;> ac_rfl
  have e2 : N * 10 ^ (M + 1) = 10 * (N * 10 ^ M) := by rw [Nat.pow_succ, ← Nat.mul_assoc, Nat.mul_comm]
  rw [e1, e2, ← heq, hz']
  omega

theorem dig_le {K z : Nat} (hK : 0 < K) (h : z < 10 * K) : z / K ≤ 9 := by
  have : z / K < 10 := (Nat.div_lt_iff_lt_mul hK).2 h
  omega

/-- A digit is put down while there are digits to pick up. -/
theorem Put.pick {g q : Nat → Nat} {nd k r1 W z M X : Nat} (h : Put g q nd k r1 W z M X false) (hr : r1 + W < nd) (hM : M = 0) (hnd : nd ≤ 800) (hr1 : 1 ≤ r1) (hg : g (r1 + W) ≤ 9) :
    Put g (fun i => if i = W then z / 2 ^ k else q i) nd k r1 (W + 1) (z % 2 ^ k * 10 + g (r1 + W)) M (10 * X + z / 2 ^ k) false := by
  subst hM
  have hK : 0 < 2 ^ k := Nat.two_pow_pos k
  have hd := dig_le hK h.zlt
  have hml := Nat.mod_lt z hK
  have heq := put_eq (z' := z % 2 ^ k * 10 + g (r1 + W)) (c := g (r1 + W)) h.eq rfl
  have hm1 : min (r1 + W) nd = r1 + W := by omega
  have hm2 : min (r1 + (W + 1)) nd = r1 + W + 1 := by omega
  have hc : W - 800 = 0 := by omega
  have hc2 : W + 1 - 800 = 0 := by omega
  have hw1 : min W 800 = W := by omega
  have hw2 : min (W + 1) 800 = W + 1 := by omega
  have hxlt := h.xlt
  have hsto := h.sto
  have hxge := h.xge
  have hfirst := h.first
  simp only [hc, hw1, Nat.pow_zero, Nat.div_one] at hsto
  rw [hm1] at heq
  have hp : 10 ^ (W + 1) = 10 * 10 ^ W := by rw [Nat.pow_succ, Nat.mul_comm]
  have hfd : W = 0 → 1 ≤ z / 2 ^ k := fun h0 => (Nat.one_le_div_iff hK).2 (hfirst h0).1
  have hdz : 0 ≤ z / 2 ^ k := Nat.zero_le _
  refine ⟨?_, by omega, fun h => by omega, ?_, fun _ => ?_, ?_, ?_, fun _ => ?_, fun i hi => ?_⟩
  · rw [heq, hm2, num, Nat.pow_zero, Nat.mul_one]
    simp only [Nat.zero_add, Nat.pow_one]; omega
  · rw [hp]; omega
  · rw [Nat.add_sub_cancel]
    by_cases h0 : W = 0
    · have := hfd h0; subst h0; rw [Nat.pow_zero]; omega
    · have h1 := hxge (by omega)
      obtain ⟨v, rfl⟩ : ∃ v, W = v + 1 := ⟨W - 1, by omega⟩
      rw [Nat.add_sub_cancel] at h1
      rw [Nat.pow_succ]; omega
  · simp only [hw2, hc2, Nat.pow_zero, Nat.div_one]; rw [num, num_set, hsto]; simp
  · simp only [hc2, Nat.pow_zero, Nat.mod_one]; simp
  · by_cases h0 : W = 0
    · rw [if_pos h0.symm]; have := hfd h0; omega
    · rw [if_neg (by omega)]; exact h.q0 (by omega)
  · by_cases h0 : i = W
    · simp only [h0, if_true]; exact hd
    · simp only [h0, if_false]; exact h.q9 i (by omega)

/-- A digit is put down, none is left to pick up: there is room. -/
theorem Put.room {g q : Nat → Nat} {nd k r1 W z M X : Nat} {lost : Bool} (h : Put g q nd k r1 W z M X lost) (hr : nd ≤ r1 + W) (hW : W < 800) :
    Put g (fun i => if i = W then z / 2 ^ k else q i) nd k r1 (W + 1) (z % 2 ^ k * 10) (M + 1) (10 * X + z / 2 ^ k) lost := by
  have hK : 0 < 2 ^ k := Nat.two_pow_pos k
  have hd := dig_le hK h.zlt
  have hml := Nat.mod_lt z hK
  have heq := put_eq (z' := z % 2 ^ k * 10) (c := 0) h.eq rfl
  have hm1 : min (r1 + W) nd = nd := by omega
  have hm2 : min (r1 + (W + 1)) nd = nd := by omega
  have hc : W - 800 = 0 := by omega
  have hc2 : W + 1 - 800 = 0 := by omega
  have hw1 : min W 800 = W := by omega
  have hw2 : min (W + 1) 800 = W + 1 := by omega
  have hxlt := h.xlt
  have hsto := h.sto
  have hxge := h.xge
  have hfirst := h.first
  have hlo := h.lo
  simp only [hc, hw1, Nat.pow_zero, Nat.div_one] at hsto
  simp only [hc, Nat.pow_zero, Nat.mod_one] at hlo
  rw [hm1] at heq
  have hp : 10 ^ (W + 1) = 10 * 10 ^ W := by rw [Nat.pow_succ, Nat.mul_comm]
  have hfd : W = 0 → 1 ≤ z / 2 ^ k := fun h0 => (Nat.one_le_div_iff hK).2 (hfirst h0).1
  have hdz : 0 ≤ z / 2 ^ k := Nat.zero_le _
  refine ⟨?_, by omega, fun h => by omega, ?_, fun _ => ?_, ?_, ?_, fun _ => ?_, fun i hi => ?_⟩
  · rw [heq, hm2, Nat.add_zero]
  · rw [hp]; omega
  · rw [Nat.add_sub_cancel]
    by_cases h0 : W = 0
    · have := hfd h0; subst h0; rw [Nat.pow_zero]; omega
    · have h1 := hxge (by omega)
      obtain ⟨v, rfl⟩ : ∃ v, W = v + 1 := ⟨W - 1, by omega⟩
      rw [Nat.add_sub_cancel] at h1
      rw [Nat.pow_succ]; omega
  · simp only [hw2, hc2, Nat.pow_zero, Nat.div_one]; rw [num, num_set, hsto]; simp
  · simp only [hc2, Nat.pow_zero, Nat.mod_one]; exact hlo
  · by_cases h0 : W = 0
    · rw [if_pos h0.symm]; have := hfd h0; omega
    · rw [if_neg (by omega)]; exact h.q0 (by omega)
  · by_cases h0 : i = W
    · simp only [h0, if_true]; exact hd
    · simp only [h0, if_false]; exact h.q9 i (by omega)

/-- A digit for which there is no room. -/
theorem Put.full {g q : Nat → Nat} {nd k r1 W z M X : Nat} {lost : Bool} (h : Put g q nd k r1 W z M X lost) (hr : nd ≤ r1 + W) (hW : 800 ≤ W) :
    Put g q nd k r1 (W + 1) (z % 2 ^ k * 10) (M + 1) (10 * X + z / 2 ^ k) (lost || decide (0 < z / 2 ^ k)) := by
  have hK : 0 < 2 ^ k := Nat.two_pow_pos k
  have hd := dig_le hK h.zlt
  have hml := Nat.mod_lt z hK
  have heq := put_eq (z' := z % 2 ^ k * 10) (c := 0) h.eq rfl
  have hm1 : min (r1 + W) nd = nd := by omega
  have hm2 : min (r1 + (W + 1)) nd = nd := by omega
  have hw1 : min W 800 = 800 := by omega
  have hw2 : min (W + 1) 800 = 800 := by omega
  have hc2 : W + 1 - 800 = (W - 800) + 1 := by omega
  have hst := div_pow10_step X (z / 2 ^ k) (W - 800) hd
  have hxlt := h.xlt
  have hxge := h.xge (by omega)
  have hsto := h.sto
  rw [hw1] at hsto
  rw [hm1] at heq
  have hp : 10 ^ (W + 1) = 10 * 10 ^ W := by rw [Nat.pow_succ, Nat.mul_comm]
  have hdz : 0 ≤ z / 2 ^ k := Nat.zero_le _
  refine ⟨?_, by omega, fun h => by omega, ?_, fun _ => ?_, ?_, ?_, fun _ => h.q0 (by omega), fun i hi => h.q9 i (by omega)⟩
  · rw [heq, hm2, Nat.add_zero]
  · rw [hp]; omega
  · rw [Nat.add_sub_cancel]
    obtain ⟨v, rfl⟩ : ∃ v, W = v + 1 := ⟨W - 1, by omega⟩
    rw [Nat.add_sub_cancel] at hxge
    rw [Nat.pow_succ]; omega
  · rw [hw2, hc2, hst.1, hsto]
  · rw [hc2, hst.2, Bool.or_eq_true, h.lo, decide_eq_true_eq]; omega

/-- All is put down; the noughts behind are struck. -/
theorem Put.done {g q : Nat → Nat} {nd k r1 W M X m : Nat} {lost : Bool} (h : Put g q nd k r1 W 0 M X lost) (hr : nd ≤ r1 + W) (hm : m ≤ min W 800) (hz : ∀ i, m ≤ i → i < min W 800 → q i = 0) :
    Cut X W (num q m) m lost ∧ num g nd * 10 ^ M = X * 10 * 2 ^ k ∧ 1 ≤ m := by
  have hW : 1 ≤ W := by
    refine Nat.pos_of_ne_zero fun h0 => ?_
    have := (h.first h0).1
    have := Nat.two_pow_pos k
    omega
  have hm1 : min (r1 + W) nd = nd := by omega
  have heq := h.eq
  rw [hm1, Nat.add_zero] at heq
  have hnum : ∀ d, m + d ≤ min W 800 → num q (m + d) = num q m * 10 ^ d := fun d => by
    induction d with
    | zero => intro _; simp
    | succ d ih =>
      intro hd
      rw [← Nat.add_assoc, num, ih (by omega), hz (m + d) (by omega) (by omega), Nat.pow_succ]
      rw [Nat.add_zero, Nat.mul_comm 10, Nat.mul_assoc]
  have h1 := hnum (min W 800 - m) (by omega)
  rw [show m + (min W 800 - m) = min W 800 from by omega, h.sto] at h1
  refine ⟨⟨hW, h.xge hW, h.xlt, by omega, by omega, ?_, h.lo⟩, heq.symm, ?_⟩
  · rw [h1, Nat.mul_assoc, ← Nat.pow_add]; congr 2; omega
  · refine Nat.pos_of_ne_zero fun h0 => ?_
    subst h0
    have := hz 0 (Nat.le_refl _) (by omega)
    exact h.q0 hW this

end Go.Proofs.YtnpinogjajhlhaaGreatDoor.Fl
end
