/- A part of the proof that lexiconlaw03.NumsReads answers true at every kind and every text: DcLess, DcLeft, DcShift. No condition. -/
import Derived.Test.YtnpinogjajhlhaaGreatDoorZ08
import GoSem.PinnedTables
section
/- Go's cheat sheet for shifts to the left: how many digits more. No program here. -/
namespace Go.Proofs.YtnpinogjajhlhaaGreatDoor.Fl
set_option maxRecDepth 100000

/-- The sheet's row k: digits more at most; the digits of 5^k. -/
def cheat (k : Nat) : Nat × List UInt8 := Go.Pinned.cheatRows.getD k (0, [])
def cdig (k i : Nat) : Nat := ((cheat k).2.getD i 48).toNat - 48
def clen (k : Nat) : Nat := (cheat k).2.length

def cheatOk (k : Nat) : Bool :=
  decide (1 ≤ (cheat k).1) && decide ((cheat k).1 ≤ 19) && decide (10 ^ ((cheat k).1 - 1) < 2 ^ k) && decide (2 ^ k < 10 ^ (cheat k).1) && decide (clen k + (cheat k).1 = k + 1) && decide (clen k ≤ 50) &&
  decide (num (cdig k) (clen k) = 5 ^ k) && (cheat k).2.all (fun c => decide (48 ≤ c.toNat) && decide (c.toNat ≤ 57)) && decide (1 ≤ clen k) && decide (cdig k (clen k - 1) = 5)
theorem cheat_all : ((List.range 60).all fun k => cheatOk (k + 1)) = true := by decide +kernel
theorem cheat_ok {k : Nat} (h1 : 1 ≤ k) (h2 : k ≤ 60) : cheatOk k = true := by
  have := List.all_eq_true.1 cheat_all (k - 1) (List.mem_range.2 (by omega))
  rw [show k - 1 + 1 = k from by omega] at this
  exact this

/-- Is the fraction 0.g less than 0.s? -/
def fless (g : Nat → Nat) (nd : Nat) (s : Nat → Nat) (l : Nat) : Bool := decide (num g nd * 10 ^ l < num s l * 10 ^ nd)

theorem num_split (a : Nat → Nat) {i w : Nat} (h : i ≤ w) : num a w = num a i * 10 ^ (w - i) + num (fun j => a (i + j)) (w - i) := by
  have := num_add a i (w - i)
  rwa [show i + (w - i) = w from by omega] at this

/-- The texts part at place i. -/
theorem fless_part {g s : Nat → Nat} {nd l i : Nat} (hi : i < nd) (hl : i < l) (heq : ∀ j, j < i → g j = s j) (hg : ∀ j, j < nd → g j ≤ 9) (hs : ∀ j, j < l → s j ≤ 9) (hne : g i ≠ s i) : fless g nd s l = decide (g i < s i) := by
  unfold fless
  have e : num g i = num s i := num_congr heq
  have hg1 := num_split g (show i + 1 ≤ nd by omega)
  have hs1 := num_split s (show i + 1 ≤ l by omega)
  have hgl : num (fun j => g (i + 1 + j)) (nd - (i + 1)) < 10 ^ (nd - (i + 1)) := num_lt fun j hj => hg _ (by omega)
  have hsl : num (fun j => s (i + 1 + j)) (l - (i + 1)) < 10 ^ (l - (i + 1)) := num_lt fun j hj => hs _ (by omega)
  generalize num (fun j => g (i + 1 + j)) (nd - (i + 1)) = x at *
  generalize num (fun j => s (i + 1 + j)) (l - (i + 1)) = y at *
  rw [num, e] at hg1
  rw [num] at hs1
  have pn : 10 ^ nd = 10 ^ (i + 1) * 10 ^ (nd - (i + 1)) := by rw [← Nat.pow_add]; congr 1; omega
  have pl : 10 ^ l = 10 ^ (i + 1) * 10 ^ (l - (i + 1)) := by rw [← Nat.pow_add]; congr 1; omega
  rw [hg1, hs1, pn, pl]
  have hp : 0 < 10 ^ (i + 1) := Nat.pow_pos (by omega)
  generalize 10 ^ (nd - (i + 1)) = P at *
  generalize 10 ^ (l - (i + 1)) = Q at *
  generalize 10 ^ (i + 1) = R at *
  generalize num s i = z at *
  -- (10 z + g) P + x against (10 z + s) Q + y
  have key : ((10 * z + g i) * P + x) * (R * Q) < ((10 * z + s i) * Q + y) * (R * P) ↔ ((10 * z + g i) * P + x) * Q < ((10 * z + s i) * Q + y) * P := by
    have e1 : ∀ A B : Nat, A * (R * B) = R * (A * B) := fun A B => by ac_rfl
    rw [e1, e1]
    exact Nat.mul_lt_mul_left hp
  have d1 : ((10 * z + g i) * P + x) * Q = (10 * z + g i) * P * Q + x * Q := Nat.add_mul ..
  have d2 : ((10 * z + s i) * Q + y) * P = (10 * z + s i) * Q * P + y * P := Nat.add_mul ..
  rw [decide_eq_decide, key, d1, d2]
  have c1 : (10 * z + s i) * Q * P = (10 * z + s i) * (P * Q) := by ac_rfl
  have c2 : (10 * z + g i) * P * Q = (10 * z + g i) * (P * Q) := Nat.mul_assoc ..
  have hPQ : x * Q < P * Q ∨ Q = 0 := by
    rcases Nat.eq_zero_or_pos Q with h | h
    · exact Or.inr h
    · exact Or.inl (Nat.mul_lt_mul_of_pos_right hgl h)
  have hQP : y * P < P * Q ∨ P = 0 := by
    rcases Nat.eq_zero_or_pos P with h | h
    · exact Or.inr h
    · left; rw [Nat.mul_comm P Q]; exact Nat.mul_lt_mul_of_pos_right hsl h
  have hP0 : P ≠ 0 := by omega
  have hQ0 : Q ≠ 0 := by omega
  rw [c1, c2]
  rcases Nat.lt_or_gt_of_ne hne with h | h
  · refine ⟨fun _ => h, fun _ => ?_⟩
    have : (10 * z + g i + 1) * (P * Q) ≤ (10 * z + s i) * (P * Q) := Nat.mul_le_mul_right _ (by omega)
    rw [Nat.add_mul _ 1, Nat.one_mul] at this
    omega
  · refine ⟨fun hh => ?_, fun hh => absurd hh (by omega)⟩
    have : (10 * z + s i + 1) * (P * Q) ≤ (10 * z + g i) * (P * Q) := Nat.mul_le_mul_right _ (by omega)
    rw [Nat.add_mul _ 1, Nat.one_mul] at this
    omega

/-- The first text is the head of the second, which goes on. -/
theorem fless_short {g s : Nat → Nat} {nd l : Nat} (hl : nd < l) (heq : ∀ j, j < nd → g j = s j) (hlast : s (l - 1) ≠ 0) : fless g nd s l = true := by
  unfold fless
  have e : num g nd = num s nd := num_congr heq
  have hs := num_split s (Nat.le_of_lt hl)
  have hpos : 0 < num (fun j => s (nd + j)) (l - nd) := by
    obtain ⟨v, hv⟩ : ∃ v, l - nd = v + 1 := ⟨l - nd - 1, by omega⟩
    rw [hv, num, show nd + v = l - 1 from by omega]; omega
  rw [e, hs, decide_eq_true_eq, Nat.add_mul]
  have : 10 ^ l = 10 ^ (l - nd) * 10 ^ nd := by rw [← Nat.pow_add]; congr 1; omega
  rw [this, Nat.mul_assoc]
  have := Nat.mul_pos hpos (Nat.pow_pos (n := nd) (show 0 < 10 by omega))
  omega

/-- The second text is the head of the first. -/
theorem fless_long {g s : Nat → Nat} {nd l : Nat} (hl : l ≤ nd) (heq : ∀ j, j < l → g j = s j) : fless g nd s l = false := by
  unfold fless
  have e : num g l = num s l := num_congr heq
  have hg := num_split g hl
  rw [hg, e, decide_eq_false_iff_not, Nat.add_mul]
  have : 10 ^ nd = 10 ^ (nd - l) * 10 ^ l := by rw [← Nat.pow_add]; congr 1; omega
  rw [this, Nat.mul_assoc]; omega

/-- How many digits more: what the sheet says is so. -/
theorem cheat_digits {g : Nat → Nat} {nd k : Nat} (h1 : 1 ≤ k) (h2 : k ≤ 60) (hg : ∀ i, i < nd → g i ≤ 9) (hg0 : g 0 ≠ 0) (hnd : 0 < nd) {δ : Nat}
    (hδ : δ = (cheat k).1 - if fless g nd (cdig k) (clen k) = true then 1 else 0) : 10 ^ (nd + δ - 1) ≤ num g nd * 2 ^ k ∧ num g nd * 2 ^ k < 10 ^ (nd + δ) := by
  have hok := cheat_ok h1 h2
  unfold cheatOk at hok
  simp only [Bool.and_eq_true, decide_eq_true_eq] at hok
  obtain ⟨⟨⟨⟨⟨⟨⟨⟨⟨hd1, _⟩, hlo⟩, hup⟩, hlen⟩, _⟩, hnum⟩, _⟩, _⟩, _⟩ := hok
  have hlt := num_lt hg
  have hge := num_ge hg0 hnd
  -- less: num g nd 10^len < 5^k 10^nd, that is num g nd 2^k < 10^(nd + δ0 - 1)
  have key : fless g nd (cdig k) (clen k) = true ↔ num g nd * 2 ^ k < 10 ^ (nd + (cheat k).1 - 1) := by
    unfold fless
    rw [hnum, decide_eq_true_eq]
    have hp : 0 < 2 ^ k := Nat.two_pow_pos k
    have hq : 0 < 10 ^ clen k := Nat.pow_pos (by omega)
    have e1 : num g nd * 10 ^ clen k * 2 ^ k = num g nd * 2 ^ k * 10 ^ clen k := Nat.mul_right_comm ..
    have e2 : 5 ^ k * 10 ^ nd * 2 ^ k = 10 ^ (nd + (cheat k).1 - 1) * 10 ^ clen k := by
      have : 5 ^ k * 10 ^ nd * 2 ^ k = 10 ^ nd * (5 ^ k * 2 ^ k) := by
        rw [Nat.mul_right_comm, Nat.mul_comm]
      rw [this, ← Nat.mul_pow, ← Nat.pow_add, ← Nat.pow_add]; congr 1; omega
    constructor
    · intro h
      have := Nat.mul_lt_mul_of_pos_right h hp
      rw [e1, e2] at this
      exact Nat.lt_of_mul_lt_mul_right this
    · intro h
      have := Nat.mul_lt_mul_of_pos_right h hq
      rw [← e1, ← e2] at this
      exact Nat.lt_of_mul_lt_mul_right this
  by_cases hf : fless g nd (cdig k) (clen k) = true
  · rw [if_pos hf] at hδ
    have h3 := key.1 hf
    refine ⟨?_, by rw [hδ, show nd + ((cheat k).1 - 1) = nd + (cheat k).1 - 1 from by omega]; exact h3⟩
    -- at least a tenth of 2^k
    by_cases hd : (cheat k).1 = 1
    · rw [hδ, hd]
      calc 10 ^ (nd + (1 - 1) - 1) = 10 ^ (nd - 1) * 1 := by simp
        _ ≤ num g nd * 2 ^ k := Nat.mul_le_mul hge (Nat.two_pow_pos k)
    · have : 10 ^ (nd + δ - 1) = 10 ^ (nd - 1) * 10 ^ ((cheat k).1 - 1) := by rw [← Nat.pow_add]; congr 1; omega
      rw [this]
      exact Nat.mul_le_mul hge (Nat.le_of_lt hlo)
  · rw [if_neg hf, Nat.sub_zero] at hδ
    have h3 := fun h => hf (key.2 h)
    rw [hδ]
    refine ⟨Nat.le_of_not_lt h3, ?_⟩
    rw [Nat.pow_add]
    exact Nat.mul_lt_mul_of_le_of_lt (Nat.le_of_lt hlt) hup (by omega)

end Go.Proofs.YtnpinogjajhlhaaGreatDoor.Fl
end
section
/- Digits put down from the right behind a shift to the left. No program here. -/
namespace Go.Proofs.YtnpinogjajhlhaaGreatDoor.Fl
set_option maxRecDepth 100000

theorem num_zero_iff {f : Nat → Nat} {c : Nat} : num f c = 0 ↔ ∀ i, i < c → f i = 0 := by
  induction c with
  | zero => simp [num]
  | succ c ih =>
    rw [num]
    constructor
    · intro h i hi
      by_cases e : i = c
      · subst e; omega
      · exact ih.1 (by omega) i (by omega)
    · intro h
      have := ih.2 fun i hi => h i (by omega)
      have := h c (by omega)
      omega

theorem num_cons (f : Nat → Nat) (c : Nat) : num f (c + 1) = f 0 * 10 ^ c + num (fun i => f (1 + i)) c := by
  have := num_add f 1 c
  rw [show 1 + c = c + 1 from by omega] at this
  rw [this]; simp [num]

/-- The digits from place w on, behind a shift of the digits from place r on; n is still to be put down; lost: one beyond 800 is not nought. -/
structure Lp (g e : Nat → Nat) (nd W k r w n : Nat) (lost : Bool) : Prop where
  eq : num (fun i => g (r + i)) (nd - r) * 2 ^ k = n * 10 ^ (W - w) + num (fun i => e (w + i)) (W - w)
  e9 : ∀ i, w ≤ i → i < W → e i ≤ 9
  lo : lost = true ↔ ∃ i, 800 ≤ i ∧ w ≤ i ∧ i < W ∧ e i ≠ 0

theorem Lp.put {g e : Nat → Nat} {nd W k r r' w n t : Nat} {lost : Bool} (h : Lp g e nd W k r w n lost) (hw : 1 ≤ w) (hwW : w ≤ W)
    (heq : num (fun i => g (r' + i)) (nd - r') * 2 ^ k = t * 10 ^ (W - w) + num (fun i => e (w + i)) (W - w)) :
    Lp g (fun i => if i = w - 1 then t % 10 else e i) nd W k r' (w - 1) (t / 10) (lost || (decide (800 ≤ w - 1) && decide (t % 10 ≠ 0))) := by
  refine ⟨?_, fun i h1 h2 => ?_, ?_⟩
  · have hc : W - (w - 1) = (W - w) + 1 := by omega
    have he : num (fun i => (fun i => if i = w - 1 then t % 10 else e i) (w - 1 + i)) (W - w + 1) = t % 10 * 10 ^ (W - w) + num (fun i => e (w + i)) (W - w) := by
      rw [num_cons]
      congr 1
      · simp
      · refine num_congr fun i hi => ?_
        show (if w - 1 + (1 + i) = w - 1 then t % 10 else e (w - 1 + (1 + i))) = e (w + i)
        rw [if_neg (by omega), show w - 1 + (1 + i) = w + i from by omega]
    rw [hc, he, heq, Nat.pow_succ]
    have hdm := Nat.div_add_mod t 10
    have : t * 10 ^ (W - w) = t / 10 * (10 ^ (W - w) * 10) + t % 10 * 10 ^ (W - w) := by
      conv => lhs; rw [← hdm]
      rw [Nat.add_mul]
      congr 1
      rw [Nat.mul_comm 10, Nat.mul_assoc, Nat.mul_comm 10]
    omega
  · by_cases hi : i = w - 1
    · rw [if_pos hi]; omega
    · rw [if_neg hi]; exact h.e9 i (by omega) h2
  · rw [Bool.or_eq_true, h.lo, Bool.and_eq_true, decide_eq_true_eq, decide_eq_true_eq]
    constructor
    · rintro (⟨i, h1, h2, h3, h4⟩ | ⟨h1, h2⟩)
      · exact ⟨i, h1, by omega, h3, by rw [if_neg (by omega)]; exact h4⟩
      · exact ⟨w - 1, h1, Nat.le_refl _, by omega, by rw [if_pos rfl]; exact h2⟩
    · rintro ⟨i, h1, h2, h3, h4⟩
      by_cases hi : i = w - 1
      · right; subst hi; rw [if_pos rfl] at h4; exact ⟨h1, h4⟩
      · left; rw [if_neg hi] at h4; exact ⟨i, h1, by omega, h3, h4⟩

/-- A digit more is picked up. -/
theorem Lp.pick {g e : Nat → Nat} {nd W k r w n : Nat} {lost : Bool} (h : Lp g e nd W k r w n lost) (hr : 1 ≤ r) (hrn : r ≤ nd) (hW : W - w = nd - r) :
    num (fun i => g (r - 1 + i)) (nd - (r - 1)) * 2 ^ k = (n + g (r - 1) * 2 ^ k) * 10 ^ (W - w) + num (fun i => e (w + i)) (W - w) := by
  have hc : nd - (r - 1) = (nd - r) + 1 := by omega
  have hs : num (fun i => g (r - 1 + i)) (nd - r + 1) = g (r - 1) * 10 ^ (nd - r) + num (fun i => g (r + i)) (nd - r) := by
    rw [num_cons]
    congr 1
    refine num_congr fun i hi => ?_
    show g (r - 1 + (1 + i)) = g (r + i)
    congr 1; omega
  have heq := h.eq
  rw [hc, hs, Nat.add_mul, heq, hW, Nat.add_mul, Nat.mul_right_comm]; omega

theorem Lp.nlt {g e : Nat → Nat} {nd W k r w n : Nat} {lost : Bool} (h : Lp g e nd W k r w n lost) (hg : ∀ i, i < nd → g i ≤ 9) (hW : W - w = nd - r) : n < 2 ^ k := by
  have h1 : num (fun i => g (r + i)) (nd - r) < 10 ^ (nd - r) := num_lt fun i hi => hg _ (by omega)
  have heq := h.eq
  rw [hW] at heq
  refine Nat.lt_of_mul_lt_mul_right (a := 10 ^ (nd - r)) ?_
  have h2 := Nat.mul_lt_mul_of_pos_right h1 (Nat.two_pow_pos k)
  rw [Nat.mul_comm (10 ^ (nd - r))] at h2
  omega

/-- With all picked up: how much is left. -/
theorem Lp.left {g e : Nat → Nat} {nd W k w n : Nat} {lost : Bool} (h : Lp g e nd W k 0 w n lost) (hwW : w ≤ W) (h1 : 10 ^ (W - 1) ≤ num g nd * 2 ^ k) (h2 : num g nd * 2 ^ k < 10 ^ W) :
    (1 ≤ w → 0 < n) ∧ (w = 0 → n = 0) ∧ n < 10 ^ w := by
  have heq := h.eq
  have e0 : num (fun i => g (0 + i)) (nd - 0) = num g nd := by rw [Nat.sub_zero]; exact num_congr fun i _ => by rw [Nat.zero_add]
  rw [e0] at heq
  have hC : num (fun i => e (w + i)) (W - w) < 10 ^ (W - w) := num_lt fun i hi => h.e9 _ (by omega) (by omega)
  have hp : 10 ^ W = 10 ^ w * 10 ^ (W - w) := by rw [← Nat.pow_add]; congr 1; omega
  have hn : n < 10 ^ w := by
    refine Nat.lt_of_mul_lt_mul_right (a := 10 ^ (W - w)) ?_
    rw [← hp]; omega
  refine ⟨fun hw => ?_, fun hw => ?_, hn⟩
  · refine Nat.pos_of_ne_zero fun h0 => ?_
    subst h0
    rw [Nat.zero_mul, Nat.zero_add] at heq
    have : 10 ^ (W - w) ≤ 10 ^ (W - 1) := Nat.pow_le_pow_right (by omega) (by omega)
    omega
  · subst hw
    rw [Nat.pow_zero] at hn; omega

/-- All is put down; the noughts behind are struck. -/
theorem Lp.done {g e : Nat → Nat} {nd W k m : Nat} {lost : Bool} (h : Lp g e nd W k 0 0 0 lost) (hW : 1 ≤ W) (h1 : 10 ^ (W - 1) ≤ num g nd * 2 ^ k) (h2 : num g nd * 2 ^ k < 10 ^ W)
    (hm : m ≤ min W 800) (hz : ∀ i, m ≤ i → i < min W 800 → e i = 0) : Cut (num g nd * 2 ^ k) W (num e m) m lost ∧ 1 ≤ m ∧ e 0 ≠ 0 := by
  have heq := h.eq
  have e0 : num (fun i => g (0 + i)) (nd - 0) = num g nd := by rw [Nat.sub_zero]; exact num_congr fun i _ => by rw [Nat.zero_add]
  have e1 : num (fun i => e (0 + i)) (W - 0) = num e W := by rw [Nat.sub_zero]; exact num_congr fun i _ => by rw [Nat.zero_add]
  rw [e0, e1, Nat.zero_mul, Nat.zero_add] at heq
  rw [heq] at h1 h2 ⊢
  have he0 : e 0 ≠ 0 := fun hz0 => by
    obtain ⟨c, rfl⟩ : ∃ c, W = c + 1 := ⟨W - 1, by omega⟩
    rw [num_cons, hz0, Nat.zero_mul, Nat.zero_add, Nat.add_sub_cancel] at h1
    have : num (fun i => e (1 + i)) c < 10 ^ c := num_lt fun i hi => h.e9 _ (by omega) (by omega)
    omega
  have hnum : ∀ d, m + d ≤ min W 800 → num e (m + d) = num e m * 10 ^ d := fun d => by
    induction d with
    | zero => intro _; simp
    | succ d ih =>
      intro hd
      rw [← Nat.add_assoc, num, ih (by omega), hz (m + d) (by omega) (by omega), Nat.pow_succ]
      rw [Nat.add_zero, Nat.mul_comm 10, Nat.mul_assoc]
  have h3 := hnum (min W 800 - m) (by omega)
  rw [show m + (min W 800 - m) = min W 800 from by omega] at h3
  have hsp := num_split e (show min W 800 ≤ W by omega)
  have hr : num (fun j => e (min W 800 + j)) (W - min W 800) < 10 ^ (W - min W 800) := num_lt fun i hi => h.e9 _ (by omega) (by omega)
  have hc : W - min W 800 = W - 800 := by omega
  have hp : 0 < 10 ^ (W - 800) := Nat.pow_pos (by omega)
  have hdiv : num e W / 10 ^ (W - 800) = num e (min W 800) ∧ num e W % 10 ^ (W - 800) = num (fun j => e (min W 800 + j)) (W - 800) := by
    rw [hc] at hsp hr
    rw [hsp]
    constructor
    · rw [Nat.mul_comm, Nat.mul_add_div hp, Nat.div_eq_of_lt hr, Nat.add_zero]
    · rw [Nat.mul_comm, Nat.mul_add_mod, Nat.mod_eq_of_lt hr]
  refine ⟨⟨hW, h1, h2, by omega, by omega, ?_, ?_⟩, ?_, he0⟩
  · rw [hdiv.1, h3, Nat.mul_assoc, ← Nat.pow_add]; congr 2; omega
  · rw [hdiv.2, h.lo]
    constructor
    · rintro ⟨i, i1, i2, i3, i4⟩ hz0
      have := num_zero_iff.1 hz0 (i - 800) (by omega)
      rw [show min W 800 + (i - 800) = i from by omega] at this
      exact i4 this
    · intro hne
      refine Classical.byContradiction fun hno => hne (num_zero_iff.2 fun i hi => ?_)
      refine Classical.byContradiction fun hi0 => hno ⟨min W 800 + i, by omega, by omega, by omega, hi0⟩
  · refine Nat.pos_of_ne_zero fun h0 => ?_
    subst h0
    exact he0 (hz 0 (Nat.le_refl _) (by omega))

end Go.Proofs.YtnpinogjajhlhaaGreatDoor.Fl
end
section
/- What a shift does to the number that the decimal stands for. No program here. -/
namespace Go.Proofs.YtnpinogjajhlhaaGreatDoor.Fl
set_option maxRecDepth 100000

theorem inv_right {K L xx D D' X W M nd nd' k : Nat} {dp dp' sh : Int} {tr lost : Bool} (hK : 2000 ≤ K) (hL : 3000 ≤ L) (h : Inv K L xx D (dp - nd) sh tr) (hc : Cut X W D' nd' lost)
    (hX : D * 10 ^ M = X * 10 * 2 ^ k) (hdp' : dp' - W = dp - nd - M + 1) (hnd : nd ≤ 800) (hM : M ≤ 100) (hdp : -1000 ≤ dp) (hsh : sh ≤ 2000) (hdpu : dp' ≤ 700) (hr : -310 ≤ dp' ∨ 0 ≤ sh - k) :
    Inv K L xx D' (dp' - nd') (sh - k) (tr || lost) := by
  refine inv_step hK hL h hc ?_ (by omega) rfl rfl (by omega) hdpu hr
  unfold vv
  have e1 : 10 ^ (dp' - W + K).toNat * 10 ^ M = 10 * 10 ^ (dp - nd + K).toNat := by
    rw [← Nat.pow_add, ← Nat.pow_succ']; congr 1; omega
  have e2 : 2 ^ ((L : Int) - (sh - k)).toNat = 2 ^ k * 2 ^ ((L : Int) - sh).toNat := by rw [← Nat.pow_add]; congr 1; omega
  have hp : 0 < 10 ^ M := Nat.pow_pos (by omega)
  refine Nat.eq_of_mul_eq_mul_right hp ?_
  rw [e2]
  generalize 10 ^ (dp' - W + K).toNat = p1 at *
  generalize 10 ^ (dp - nd + K).toNat = p2 at *
  generalize 2 ^ ((L : Int) - sh).toNat = p3 at *
  generalize 2 ^ k = p4 at *
  generalize 10 ^ M = p5 at *
  calc X * p1 * (p4 * p3) * p5 = X * (p1 * p5) * (p4 * p3) := by ac_rfl
    _ = X * (10 * p2) * (p4 * p3) := by rw [e1]
    _ = X * 10 * p4 * p2 * p3 := by ac_rfl
    _ = D * p5 * p2 * p3 := by rw [hX]
    _ = D * p2 * p3 * p5 := by ac_rfl

theorem inv_left {K L xx D D' W nd nd' k : Nat} {dp dp' sh : Int} {tr lost : Bool} (hK : 2000 ≤ K) (hL : 3000 ≤ L) (h : Inv K L xx D (dp - nd) sh tr) (hc : Cut (D * 2 ^ k) W D' nd' lost)
    (hdp' : dp' - W = dp - nd) (hnd : nd ≤ 800) (hdp : -1000 ≤ dp) (hsh : sh + k ≤ 2000) (hdpu : dp' ≤ 700) (hr : -310 ≤ dp' ∨ 0 ≤ sh + k) :
    Inv K L xx D' (dp' - nd') (sh + k) (tr || lost) := by
  refine inv_step hK hL h hc ?_ (by omega) rfl rfl (by omega) hdpu hr
  unfold vv
  rw [hdp']
  have e2 : 2 ^ ((L : Int) - sh).toNat = 2 ^ k * 2 ^ ((L : Int) - (sh + k)).toNat := by rw [← Nat.pow_add]; congr 1; omega
  rw [e2]
  generalize 2 ^ ((L : Int) - (sh + k)).toNat = p3 at *
  generalize 2 ^ k = p4 at *
  ac_rfl

/-- What is cut is not more than it was. -/
theorem cut_le {K L X W D' nd' : Nat} {dp' sh : Int} {lost : Bool} (hc : Cut X W D' nd' lost) (he : 0 ≤ dp' - W + K) : vv K L D' (dp' - nd') sh ≤ X * 10 ^ (dp' - W + K).toNat * 2 ^ ((L : Int) - sh).toNat := by
  unfold vv
  refine Nat.mul_le_mul_right _ ?_
  have hn := hc.nd_le
  have e : 10 ^ (dp' - nd' + K).toNat = 10 ^ (W - nd') * 10 ^ (dp' - W + K).toNat := by rw [← Nat.pow_add]; congr 1; omega
  rw [e, ← Nat.mul_assoc, hc.val]
  exact Nat.mul_le_mul_right _ (Nat.div_mul_le_self _ _)

theorem left_le {K L D D' W nd nd' k : Nat} {dp dp' sh : Int} {lost : Bool} (hc : Cut (D * 2 ^ k) W D' nd' lost) (hdp' : dp' - W = dp - nd) (he : 0 ≤ dp - nd + K) (hsh : sh + k ≤ L) :
    vv K L D' (dp' - nd') (sh + k) ≤ vv K L D (dp - nd) sh := by
  refine Nat.le_trans (cut_le hc (by omega)) ?_
  unfold vv
  rw [hdp']
  have e2 : 2 ^ ((L : Int) - sh).toNat = 2 ^ k * 2 ^ ((L : Int) - (sh + k)).toNat := by rw [← Nat.pow_add]; congr 1; omega
  rw [e2]
  generalize 2 ^ ((L : Int) - (sh + k)).toNat = p3 at *
  generalize 2 ^ k = p4 at *
  generalize 10 ^ (dp - nd + K).toNat = p5 at *
  exact Nat.le_of_eq (by ac_rfl)

/-- The start: a number of W digits cut to 800. -/
theorem inv_start {K L X W D nd : Nat} {dp : Int} {lost : Bool} (hK : 2000 ≤ K) (hL : 3000 ≤ L) (hc : Cut X W D nd lost) (he : 0 ≤ dp - W + K) (hdpu : dp ≤ 700) :
    Inv K L (X * 10 ^ (dp - W + K).toNat * 2 ^ L) D (dp - nd) 0 lost := by
  have h0 : Inv K L (X * 10 ^ (dp - W + K).toNat * 2 ^ L) X (dp - W) 0 false := by
    have hv : vv K L X (dp - W) 0 = X * 10 ^ (dp - W + K).toNat * 2 ^ L := by unfold vv; simp
    exact ⟨fun _ => hv, fun h => Bool.noConfusion h, fun G J _ _ _ hg => by rw [hv]; exact hg⟩
  have := inv_step (tr' := lost) (sh' := 0) hK hL h0 hc (by unfold vv; simp) he (by simp) rfl (by omega) hdpu (Or.inr (by omega))
  exact this

/-- The size of the value, off the point's place. -/
theorem vv_bounds {K L nd : Nat} {g : Nat → Nat} {dp sh : Int} (hg : ∀ i, i < nd → g i ≤ 9) (hg0 : g 0 ≠ 0) (hnd : 0 < nd) (he : 0 ≤ dp - nd + K) :
    10 ^ (dp - 1 + K).toNat * 2 ^ ((L : Int) - sh).toNat ≤ vv K L (num g nd) (dp - nd) sh ∧ vv K L (num g nd) (dp - nd) sh < 10 ^ (dp + K).toNat * 2 ^ ((L : Int) - sh).toNat := by
  unfold vv
  have h1 := num_ge hg0 hnd
  have h2 := num_lt hg
  have e1 : 10 ^ (dp - 1 + K).toNat = 10 ^ (nd - 1) * 10 ^ (dp - nd + K).toNat := by rw [← Nat.pow_add]; congr 1; omega
  have e2 : 10 ^ (dp + K).toNat = 10 ^ nd * 10 ^ (dp - nd + K).toNat := by rw [← Nat.pow_add]; congr 1; omega
  constructor
  · rw [e1]; exact Nat.mul_le_mul_right _ (Nat.mul_le_mul_right _ h1)
  · rw [e2]; exact Nat.mul_lt_mul_of_pos_right (Nat.mul_lt_mul_of_pos_right h2 (Nat.pow_pos (by omega))) (Nat.two_pow_pos _)

/-- At least five tenths: off the first digit. -/
theorem vv_half {K L nd : Nat} {g : Nat → Nat} {dp sh : Int} (hg : ∀ i, i < nd → g i ≤ 9) (hnd : 0 < nd) (he : 0 ≤ dp - nd + K) :
    (5 ≤ g 0 → 5 * 10 ^ (dp - 1 + K).toNat * 2 ^ ((L : Int) - sh).toNat ≤ vv K L (num g nd) (dp - nd) sh) ∧ (g 0 < 5 → vv K L (num g nd) (dp - nd) sh < 5 * 10 ^ (dp - 1 + K).toNat * 2 ^ ((L : Int) - sh).toNat) := by
  unfold vv
  obtain ⟨c, rfl⟩ : ∃ c, nd = c + 1 := ⟨nd - 1, by omega⟩
  have hs := num_cons g c
  have hlt : num (fun i => g (1 + i)) c < 10 ^ c := num_lt fun i hi => hg _ (by omega)
  have e1 : 10 ^ (dp - 1 + K).toNat = 10 ^ c * 10 ^ (dp - ((c + 1 : Nat) : Int) + K).toNat := by rw [← Nat.pow_add]; congr 1; omega
  rw [e1]
  constructor
  · intro h5
    refine Nat.mul_le_mul_right _ ?_
    rw [← Nat.mul_assoc]
    refine Nat.mul_le_mul_right _ ?_
    have : 5 * 10 ^ c ≤ g 0 * 10 ^ c := Nat.mul_le_mul_right _ h5
    omega
  · intro h5
    refine Nat.mul_lt_mul_of_pos_right ?_ (Nat.two_pow_pos _)
    rw [← Nat.mul_assoc]
    refine Nat.mul_lt_mul_of_pos_right ?_ (Nat.pow_pos (by omega))
    have : (g 0 + 1) * 10 ^ c ≤ 5 * 10 ^ c := Nat.mul_le_mul_right _ (by omega)
    rw [Nat.add_mul, Nat.one_mul] at this
    omega

end Go.Proofs.YtnpinogjajhlhaaGreatDoor.Fl
end
