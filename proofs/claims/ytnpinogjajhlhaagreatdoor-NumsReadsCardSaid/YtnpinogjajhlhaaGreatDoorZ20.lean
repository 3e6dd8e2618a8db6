/- A part of the proof that lexiconlaw03.NumsReads answers true at every kind and every text: Rd, Ex3. No condition. -/
import Derived.Test.YtnpinogjajhlhaaGreatDoorZ10
import Derived.Test.YtnpinogjajhlhaaGreatDoorZ12
import Derived.Test.YtnpinogjajhlhaaGreatDoorZ06
section
/- What strconv's reading adds up to: the digits that are read against the number's own value. -/
namespace Go.Proofs.YtnpinogjajhlhaaGreatDoor.Fl
open Ieee

theorem ten_int (e : Int) (k : Nat) : 10 ^ (e + k).toNat * 10 ^ (-e).toNat = 10 ^ e.toNat * 10 ^ k * 10 ^ (-(e + k)).toNat := by
  rw [← Nat.pow_add, ← Nat.pow_add, ← Nat.pow_add]; congr 1; omega

/-- The number's value, as a ratio. -/
def vn (V : Nat) (E : Int) : Nat := V * 10 ^ E.toNat
def vd (E : Int) : Nat := 10 ^ (-E).toNat

theorem vd_pos (E : Int) : 0 < vd E := Nat.pow_pos (by omega)

theorem vn_cmp (M V : Nat) (E : Int) (k : Nat) : (M * 10 ^ k ≤ V → vn M (E + k) * vd E ≤ vn V E * vd (E + k)) ∧ (V ≤ M * 10 ^ k → vn V E * vd (E + k) ≤ vn M (E + k) * vd E) ∧
    (M * 10 ^ k = V → vn M (E + k) * vd E = vn V E * vd (E + k)) := by
  have h := ten_int E k
  have e1 : vn M (E + k) * vd E = M * 10 ^ k * (10 ^ E.toNat * vd (E + k)) := by
    unfold vn vd; rw [Nat.mul_assoc, h]; ac_rfl
  have e2 : vn V E * vd (E + k) = V * (10 ^ E.toNat * vd (E + k)) := by unfold vn; ac_rfl
  rw [e1, e2]
  exact ⟨fun h => Nat.mul_le_mul_right _ h, fun h => Nat.mul_le_mul_right _ h, fun h => by rw [h]⟩

section
variable {g : Nat → Nat} {n : Nat}

theorem mant_cut (h9 : ∀ i, i < n → g i ≤ 9) : mant g n * 10 ^ (n - min n 19) ≤ num g n ∧ num g n < (mant g n + 1) * 10 ^ (n - min n 19) ∧ ((¬ ∃ i, 19 ≤ i ∧ i < n ∧ g i ≠ 0) → mant g n * 10 ^ (n - min n 19) = num g n) := by
  have h := num_split g (i := min n 19) (w := n) (Nat.min_le_left _ _)
  have hl : num (fun j => g (min n 19 + j)) (n - min n 19) < 10 ^ (n - min n 19) := num_lt fun j hj => h9 _ (by omega)
  unfold mant
  rw [Nat.add_mul]
  refine ⟨by omega, by omega, fun hno => ?_⟩
  have hz : num (fun j => g (min n 19 + j)) (n - min n 19) = 0 := num_zero_iff.2 fun j hj => by
    refine Decidable.of_not_not fun hc => hno ⟨min n 19 + j, by omega, by omega, hc⟩
  omega

theorem mant_lt (h9 : ∀ i, i < n → g i ≤ 9) : mant g n < 10000000000000000000 := by
  have h := num_lt (a := g) (w := min n 19) (fun i hi => h9 i (by omega))
  have e : 10 ^ min n 19 ≤ 10 ^ 19 := Nat.pow_le_pow_right (by omega) (by omega)
  unfold mant
  have : (10 : Nat) ^ 19 = 10000000000000000000 := by decide
  omega

theorem num_zero_of_mant (hn : 1 ≤ n) (hg : g 0 = 0 → n = 1) (h : mant g n = 0) : num g n = 0 := by
  by_cases h0 : g 0 = 0
  · have := hg h0; subst this; simpa [mant] using h
  · have := num_pos (g := g) (n := min n 19) h0 (by omega)
    unfold mant at h; omega
end

section
variable {f : Format} {Lo : Nat} {g : Nat → Nat} {n : Nat} {x : Int}

/-- The value's power of ten. -/
def ve (n : Nat) (x : Int) : Int := x - n + 1

theorem ve_read (x : Int) : 1 + x - (min n 19 : Nat) = ve n x + (n - min n 19 : Nat) := by unfold ve; omega

/-- Nothing is left out: the rung of what is read is the value's. -/
theorem rd_eq (h9 : ∀ i, i < n → g i ≤ 9) (ht : ¬ ∃ i, 19 ≤ i ∧ i < n ∧ g i ≠ 0) {p : Int} (hp : p = 1 + x - (min n 19 : Nat)) {r B S : Nat}
    (h : RN B S (vn (mant g n) p) (vd p) r) : RN B S (vn (num g n) (ve n x)) (vd (ve n x)) r := by
  rw [ve_read] at hp
  subst hp
  exact h.same (vd_pos _) (vd_pos _) ((vn_cmp (mant g n) (num g n) (ve n x) (n - min n 19)).2.2 ((mant_cut h9).2.2 ht))

/-- Something may be left out: the value's rung lies between. -/
theorem rd_mid (h9 : ∀ i, i < n → g i ≤ 9) {p : Int} (hp : p = 1 + x - (min n 19 : Nat)) {r1 r r2 B S : Nat} (hB : 0 < B)
    (h1 : RN B S (vn (mant g n) p) (vd p) r1) (h2 : RN B S (vn (mant g n + 1) p) (vd p) r2) (h : RN B S (vn (num g n) (ve n x)) (vd (ve n x)) r) : r1 ≤ r ∧ r ≤ r2 := by
  rw [ve_read] at hp
  subst hp
  obtain ⟨c1, c2, -⟩ := mant_cut h9
  exact ⟨h1.mono hB (vd_pos _) (vd_pos _) h ((vn_cmp (mant g n) (num g n) (ve n x) (n - min n 19)).1 c1),
    h.mono hB (vd_pos _) (vd_pos _) h2 ((vn_cmp (mant g n + 1) (num g n) (ve n x) (n - min n 19)).2.1 (Nat.le_of_lt c2))⟩

/-- The table's form of a power. -/
theorem vn_tab (M i : Nat) {p : Int} (hp : p = (i : Int) - 348) : vn M p = M * 10 ^ (i - 348) ∧ vd p = 10 ^ (348 - i) := by
  unfold vn vd
  rw [show p.toNat = i - 348 by omega, show (-p).toNat = 348 - i by omega]
  exact ⟨rfl, rfl⟩

theorem rn_ex (hf : Fit f Lo) (V : Nat) (E : Int) : ∃ r, RN f.binade (2 ^ (Lo + 1)) (vn V E) (vd E) r :=
  rn_exists (F := f.fractionBits) (Nat.le_of_succ_le hf.frac) (vd_pos E)

theorem rn_nought (V : Nat) (E : Int) (hV : V = 0) {B S : Nat} (hB : 0 < B) : RN B S (vn V E) (vd E) 0 := by
  subst hV; exact rn_zero hB (by simp [vn])

/-- Beyond the range: no mantissa but nought, and a great power. -/
theorem rd_over (hf : Fit f Lo) (h9 : ∀ i, i < n → g i ≤ 9) {p : Int} (hp : p = 1 + x - (min n 19 : Nat)) (hM : 0 < mant g n) {k T r : Nat} (hT : (T : Int) ≤ p) (hk : 2 ^ k ≤ 10 ^ T)
    (hinf : f.infRung ≤ (k + Lo - f.fractionBits) * f.binade + f.binade) (h : RN f.binade (2 ^ (Lo + 1)) (vn (num g n) (ve n x)) (vd (ve n x)) r) : f.infRung ≤ r := by
  rw [ve_read] at hp
  obtain ⟨c1, -, -⟩ := mant_cut h9
  have h2 := (vn_cmp (mant g n) (num g n) (ve n x) (n - min n 19)).1 c1
  rw [← hp] at h2
  refine Nat.le_trans hinf ((rn_pow hf k).mono (binade_pos f) (by omega) (vd_pos _) h ?_)
  have e1 : vd p = 1 := by unfold vd; rw [show (-p).toNat = 0 by omega]
  rw [e1, Nat.mul_one] at h2
  rw [Nat.mul_one]
  refine Nat.le_trans (Nat.mul_le_mul_right _ ?_) h2
  unfold vn
  have e3 : 10 ^ T ≤ 10 ^ p.toNat := Nat.pow_le_pow_right (by omega) (by omega)
  exact Nat.le_trans (Nat.le_trans hk e3) (Nat.le_mul_of_pos_left _ hM)

/-- Below the least one's half. -/
theorem rd_under (h9 : ∀ i, i < n → g i ≤ 9) {p : Int} (hp : p = 1 + x - (min n 19 : Nat)) {T S B : Nat} (hB : 0 < B) (hT : p ≤ -(T : Int)) (hS : 10000000000000000000 * S ≤ 10 ^ T) :
    RN B S (vn (num g n) (ve n x)) (vd (ve n x)) 0 := by
  rw [ve_read] at hp
  obtain ⟨-, c2, -⟩ := mant_cut h9
  have h2 := (vn_cmp (mant g n + 1) (num g n) (ve n x) (n - min n 19)).2.1 (Nat.le_of_lt c2)
  rw [← hp] at h2
  refine rn_zero hB ?_
  have e1 : vn (mant g n + 1) p = mant g n + 1 := by unfold vn; rw [show p.toNat = 0 by omega, Nat.pow_zero, Nat.mul_one]
  rw [e1] at h2
  have hm := mant_lt h9
  have e3 : 10 ^ T ≤ vd p := Nat.pow_le_pow_right (by omega) (by omega)
  refine Nat.le_of_mul_le_mul_right (c := vd p) ?_ (vd_pos p)
  have h3 : vn (num g n) (ve n x) * S * vd p = vn (num g n) (ve n x) * vd p * S := by ac_rfl
  rw [h3]
  refine Nat.le_trans (Nat.mul_le_mul_right S h2) ?_
  have h4 : (mant g n + 1) * vd (ve n x) * S = vd (ve n x) * ((mant g n + 1) * S) := by ac_rfl
  rw [h4]
  refine Nat.mul_le_mul_left _ (Nat.le_trans (Nat.mul_le_mul_right S (show mant g n + 1 ≤ 10000000000000000000 by omega)) (Nat.le_trans hS e3))

theorem set_cut {tr : Bool} (hn : 1 ≤ n) (h9 : ∀ i, i < n → g i ≤ 9) (h0 : g 0 ≠ 0) (ht : tr = true ↔ ∃ i, 800 ≤ i ∧ i < n ∧ g i ≠ 0) : Cut (num g n) n (num g (min n 800)) (min n 800) tr := by
  have h := num_split g (i := min n 800) (w := n) (Nat.min_le_left _ _)
  have hl : num (fun j => g (min n 800 + j)) (n - min n 800) < 10 ^ (n - min n 800) := num_lt fun j hj => h9 _ (by omega)
  have hz : num (fun j => g (min n 800 + j)) (n - min n 800) = 0 ↔ ¬ ∃ i, 800 ≤ i ∧ i < n ∧ g i ≠ 0 := by
    rw [num_zero_iff]
    constructor
    · rintro hall ⟨i, h1, h2, h3⟩
      have := hall (i - min n 800) (by omega)
      rw [show min n 800 + (i - min n 800) = i by omega] at this
      exact h3 this
    · intro hno j hj
      exact Decidable.of_not_not fun hc => hno ⟨min n 800 + j, by omega, by omega, hc⟩
  have e : n - min n 800 = n - 800 := by omega
  rw [e] at h hl hz
  have hp : 0 < 10 ^ (n - 800) := Nat.pow_pos (by omega)
  have hd : num g n / 10 ^ (n - 800) = num g (min n 800) := by
    rw [h, Nat.mul_comm, Nat.mul_add_div hp, Nat.div_eq_of_lt hl, Nat.add_zero]
  have hm : num g n % 10 ^ (n - 800) = num (fun j => g (min n 800 + j)) (n - 800) := by
    rw [h, Nat.mul_comm, Nat.mul_add_mod, Nat.mod_eq_of_lt hl]
  exact ⟨hn, num_ge h0 (by omega), num_lt h9, Nat.min_le_left _ _, Nat.min_le_right _ _, by rw [e, hd], by rw [ht, hm, ne_eq, hz]; exact Classical.not_not.symm⟩

/-- The number scaled as floatBits' proof has it. -/
def xxOf (K L : Nat) (g : Nat → Nat) (n : Nat) (x : Int) : Nat := num g n * 10 ^ (1 + x - n + K).toNat * 2 ^ L

theorem xx_eq {K L : Nat} (hK : 0 ≤ ve n x + K) : xxOf K L g n x * vd (ve n x) = vn (num g n) (ve n x) * (10 ^ K * 2 ^ L) := by
  unfold xxOf vn vd
  have e : 10 ^ (1 + x - n + K).toNat * 10 ^ (-(ve n x)).toNat = 10 ^ (ve n x).toNat * 10 ^ K := by
    rw [← Nat.pow_add, ← Nat.pow_add]; congr 1; unfold ve at hK ⊢; omega
  calc num g n * 10 ^ (1 + x - n + K).toNat * 2 ^ L * 10 ^ (-(ve n x)).toNat = num g n * (10 ^ (1 + x - n + K).toNat * 10 ^ (-(ve n x)).toNat) * 2 ^ L := by ac_rfl
    _ = num g n * 10 ^ (ve n x).toNat * (10 ^ K * 2 ^ L) := by rw [e]; ac_rfl

theorem slow_st {K L : Nat} {tr : Bool} (hK : 2000 ≤ K) (hL : 3000 ≤ L) (hKx : 0 ≤ ve n x + K) (hdp : 1 + x ≤ 700) (hn : 1 ≤ n) (h9 : ∀ i, i < n → g i ≤ 9) (h0 : g 0 ≠ 0)
    (ht : tr = true ↔ ∃ i, 800 ≤ i ∧ i < n ∧ g i ≠ 0) : St K L (xxOf K L g n x) g (min n 800) (1 + x) 0 tr :=
  ⟨fun i hi => h9 i (by omega), by omega, Nat.min_le_right _ _, h0, inv_start hK hL (set_cut hn h9 h0 ht) (by unfold ve at hKx; omega) hdp⟩

theorem slow_lt {K L : Nat} (hn : 1 ≤ n) (h9 : ∀ i, i < n → g i ≤ 9) (hKx : 0 ≤ ve n x + K) : xxOf K L g n x < 10 ^ (1 + x + K).toNat * 2 ^ L := by
  unfold xxOf
  refine Nat.mul_lt_mul_of_pos_right ?_ (Nat.two_pow_pos _)
  have h := num_lt h9
  have e : 10 ^ (1 + x + K).toNat = 10 ^ n * 10 ^ (1 + x - n + K).toNat := by rw [← Nat.pow_add]; congr 1; unfold ve at hKx; omega
  rw [e]
  exact Nat.mul_lt_mul_of_pos_right h (Nat.pow_pos (by omega))

theorem slow_rn {K L r B S : Nat} (hKx : 0 ≤ ve n x + K) (h : RN B S (xxOf K L g n x) (10 ^ K * 2 ^ L) r) : RN B S (vn (num g n) (ve n x)) (vd (ve n x)) r :=
  h.same (Nat.mul_pos (Nat.pow_pos (by omega)) (Nat.two_pow_pos _)) (vd_pos _) (xx_eq hKx)

theorem slow_low {K L r1 r2 B c : Nat} (hB : 0 < B) (hKx : 0 ≤ ve n x + K) (h9 : ∀ i, i < n → g i ≤ 9) {p : Int} (hp : p = 1 + x - (min n 19 : Nat)) (hM : 0 < mant g n)
    (h1 : RN B (2 ^ c) (vn (mant g n) p) (vd p) r1) (h2 : RN B (2 ^ c) (vn (mant g n + 1) p) (vd p) r2) (hne : r1 ≠ r2) : 10 ^ K * 2 ^ L ≤ xxOf K L g n x * 2 ^ (c + 1) := by
  have hmono : vn (mant g n) p * vd p ≤ vn (mant g n + 1) p * vd p := Nat.mul_le_mul_right _ (Nat.mul_le_mul_right _ (by omega))
  have h12 := h1.mono hB (vd_pos p) (vd_pos p) h2 hmono
  have hlt : vd p < vn (mant g n + 1) p * 2 ^ c := by
    refine Nat.lt_of_not_le fun hle => ?_
    have := h2.unique hB (vd_pos p) (vd_pos p) (rn_zero hB hle) rfl
    omega
  have hdb : vn (mant g n + 1) p * 2 ^ c ≤ vn (mant g n) p * 2 ^ (c + 1) := by
    rw [Nat.pow_succ, Nat.mul_comm (2 ^ c) 2, ← Nat.mul_assoc]
    refine Nat.mul_le_mul_right _ ?_
    unfold vn
    rw [Nat.mul_right_comm]
    exact Nat.mul_le_mul_right _ (by omega)
  rw [ve_read] at hp
  have hc := (vn_cmp (mant g n) (num g n) (ve n x) (n - min n 19)).1 (mant_cut h9).1
  rw [← hp] at hc
  have hv : vd (ve n x) ≤ vn (num g n) (ve n x) * 2 ^ (c + 1) := by
    refine Nat.le_of_mul_le_mul_right (c := vd p) ?_ (vd_pos p)
    calc vd (ve n x) * vd p ≤ vd (ve n x) * (vn (mant g n) p * 2 ^ (c + 1)) := Nat.mul_le_mul_left _ (Nat.le_trans (Nat.le_of_lt hlt) hdb)
      _ = vn (mant g n) p * vd (ve n x) * 2 ^ (c + 1) := by ac_rfl
      _ ≤ vn (num g n) (ve n x) * vd p * 2 ^ (c + 1) := Nat.mul_le_mul_right _ hc
      _ = vn (num g n) (ve n x) * 2 ^ (c + 1) * vd p := by ac_rfl
  refine Nat.le_of_mul_le_mul_right (c := vd (ve n x)) ?_ (vd_pos _)
  calc 10 ^ K * 2 ^ L * vd (ve n x) ≤ 10 ^ K * 2 ^ L * (vn (num g n) (ve n x) * 2 ^ (c + 1)) := Nat.mul_le_mul_left _ hv
    _ = vn (num g n) (ve n x) * (10 ^ K * 2 ^ L) * 2 ^ (c + 1) := by ac_rfl
    _ = xxOf K L g n x * vd (ve n x) * 2 ^ (c + 1) := by rw [xx_eq hKx]
    _ = xxOf K L g n x * 2 ^ (c + 1) * vd (ve n x) := by ac_rfl

theorem slow_size {K L r1 r2 B c : Nat} (hB : 0 < B) (hKx : 0 ≤ ve n x + K) (h9 : ∀ i, i < n → g i ≤ 9) {p : Int} (hp : p = 1 + x - (min n 19 : Nat)) (hM : 0 < mant g n)
    (h1 : RN B (2 ^ c) (vn (mant g n) p) (vd p) r1) (h2 : RN B (2 ^ c) (vn (mant g n + 1) p) (vd p) r2) (hne : r1 ≠ r2) {J : Int} (hJ : Size K L (xxOf K L g n x) J) : J ≤ (c : Int) + 1 := by
  have := size_low (slow_low (L := L) hB hKx h9 hp hM h1 h2 hne) J hJ
  omega

end
end Go.Proofs.YtnpinogjajhlhaaGreatDoor.Fl
end
section
/- Two floats of one sign are equal where their rungs are. -/
namespace Go.Proofs.YtnpinogjajhlhaaGreatDoor.Fl
open Ieee
variable {f : Format} {Lo : Nat}

theorem two_exp (hf : Fit f Lo) : 2 ≤ 2 ^ f.exponentBits := by
  have := hf.top; have := hf.frac
  omega

theorem order_same (hf : Fit f Lo) (s : Bool) {a : Nat} (ha : a ≤ f.infRung) : f.order (f.word s a) (f.word s a) = some .eq := by
  unfold Format.order
  by_cases h : a < f.infRung
  · rw [read_word s h]
    simp only [Datum.order]
    exact congrArg some (Int.compare_eq_eq.2 rfl)
  · have : a = f.infRung := by omega
    subst this
    rw [read_inf (two_exp hf) s]
    simp only [Datum.order]
    cases s <;> rfl

theorem order_ne (hf : Fit f Lo) (s : Bool) {a b : Nat} (ha : a ≤ f.infRung) (hb : b ≤ f.infRung) (hne : a ≠ b) : f.order (f.word s a) (f.word s b) ≠ some .eq := by
  have key : ∀ x y : Nat, x ≤ f.infRung → y < x → f.order (f.word s x) (f.word s y) ≠ some .eq ∧ f.order (f.word s y) (f.word s x) ≠ some .eq := by
    intro x y hx hyx
    by_cases h : x < f.infRung
    · have o := order_gt hf h (show y < f.infRung by omega) hyx
      have hb := binade_pos f
      cases s with
      | false =>
        refine ⟨by rw [o.1]; decide, ?_⟩
        have o2 := o.1
        unfold Format.order at o2 ⊢
        rw [read_word false h, read_word false (by omega)] at o2 ⊢
        simp only [Datum.order, Option.some.injEq, ne_eq] at o2 ⊢
        intro hc
        rw [Int.compare_eq_gt] at o2
        rw [Int.compare_eq_eq] at hc
        rw [show min (vplace f y) (vplace f x) = min (vplace f x) (vplace f y) from Int.min_comm ..] at hc
        omega
      | true =>
        refine ⟨by rw [o.2]; decide, ?_⟩
        have o2 := o.2
        unfold Format.order at o2 ⊢
        rw [read_word true h, read_word true (by omega)] at o2 ⊢
        simp only [Datum.order, Option.some.injEq, ne_eq] at o2 ⊢
        intro hc
        rw [Int.compare_eq_lt] at o2
        rw [Int.compare_eq_eq] at hc
        rw [show min (vplace f y) (vplace f x) = min (vplace f x) (vplace f y) from Int.min_comm ..] at hc
        omega
    · have : x = f.infRung := by omega
      subst this
      unfold Format.order
      rw [read_inf (two_exp hf) s, read_word s hyx]
      simp only [Datum.order]
      cases s <;> exact ⟨by decide, by decide⟩
  rcases Nat.lt_or_gt_of_ne hne with h | h
  · exact (key b a hb h).2
  · exact (key a b ha h).1

end Go.Proofs.YtnpinogjajhlhaaGreatDoor.Fl
end
