/- A part of the proof that lexiconlaw03.NumsReads answers true at every kind and every text: DwWholeA, WkRead, WkWorks, Nw. No condition. -/
import Derived.Test.YtnpinogjajhlhaaGreatDoorZ36
import Derived.Test.YtnpinogjajhlhaaGreatDoorZ31
import Derived.Test.YtnpinogjajhlhaaGreatDoorZ35
import Derived.Test.YtnpinogjajhlhaaGreatDoorZ28
section
/- nums.Whole of every kind and text, walked. -/
namespace Go.Proofs.YtnpinogjajhlhaaGreatDoor.Fl
open Go.RowKit

def IntSort (s : Int) : Prop := s = 2 ∨ s = 3 ∨ s = 4 ∨ s = 5

/-- What nums.Whole makes of a text, of a kind whose sort is s. -/
def WoSpec (s : Int) (S : ByteArray) (neg : Bool) (V : Nat) (X : Int) (b : Nat) (err : Int) : Prop :=
  (¬ IntSort s ∧ RdSpec s S neg V X b err) ∨ (IntSort s ∧ (S.toList = [] ∨ numLen S ≠ S.size) ∧ b = 0 ∧ err = 30) ∨ (IntSort s ∧ S.toList ≠ [] ∧ numLen S = S.size ∧ WhSpec s neg V X b err)

theorem WoSpec.unique {s : Int} {S : ByteArray} {neg : Bool} {V : Nat} {X : Int} {b1 b2 : Nat} {e1 e2 : Int} (h1 : WoSpec s S neg V X b1 e1) (h2 : WoSpec s S neg V X b2 e2) : b1 = b2 ∧ e1 = e2 := by
  rcases h1 with ⟨a1, a2⟩ | ⟨a1, a2, a3, a4⟩ | ⟨a1, a2, a3, a4⟩ <;> rcases h2 with ⟨c1, c2⟩ | ⟨c1, c2, c3, c4⟩ | ⟨c1, c2, c3, c4⟩
  · exact a2.unique c2
  · exact absurd c1 a1
  · exact absurd c1 a1
  · exact absurd a1 c1
  · exact ⟨by omega, by omega⟩
  · rcases a2 with h | h
    · exact absurd h c2
    · exact absurd c3 h
  · exact absurd a1 c1
  · rcases c2 with h | h
    · exact absurd h a2
    · exact absurd a3 h
  · exact a4.unique c4

def WoPost (s : Int) (S : ByteArray) (neg : Bool) (V : Nat) (X : Int) (B : Nat) (w : World) (e : Ending) (w' : World) : Prop :=
  ∃ (b : Nat) (err : Int), WoSpec s S neg V X b err ∧ e = .returned (.tuple #[.int .u64 b, .int .i64 err]) ∧ Below B w w'

set_option maxRecDepth 100000 in
theorem whole_bad (k : Int) (S : ByteArray) (hsz : S.size ≤ 67108864) (hs : IntSort (sortK k)) (h : S.toList = [] ∨ numLen S ≠ S.size) (w : World) (B : Nat) :
    Calls Tryz.prog 6 #[.int .u8 k, .string S] w (fun e w' => e = .returned (.tuple #[.int .u64 (0 : Nat), .int .i64 30]) ∧ Below B w w') := by
  have HS := Lib.hid (sort_walk k)
  unfold IntSort at hs
  generalize sortK k = s at *
  have b0 : (s == 0) = false := by rw [beq_eq_false_iff_ne]; omega
  have b1 : (s == 1) = false := by rw [beq_eq_false_iff_ne]; omega
  have b6 : (s == 6) = false := by rw [beq_eq_false_iff_ne]; omega
  have b7 : (s == 7) = false := by rw [beq_eq_false_iff_ne]; omega
  have HNUM := Lib.hid (pnum_walk S (by omega))
  clear hs
  cases be : S.toList.isEmpty with
  | true =>
    clear h
    go_enter Tryz.func6, Tryz.ntmps6
    go_wp2_with fail
    refine (HS.out _).mono ?_
    rintro e w' ⟨rfl, rfl⟩
    go_wp2_with fail
    go_ret2
    exact ⟨rfl, Below.refl _ _⟩
  | false =>
    have hn : numLen S ≠ S.size := by
      rcases h with h | h
      · rw [h] at be; exact Bool.noConfusion be
      · exact h
    generalize numLen S = nl at *
    have hnb : ((nl : Int) == (S.size : Int)) = false := by rw [beq_eq_false_iff_ne]; omega
    have hni : ¬ (nl : Int) = (S.size : Int) := by omega
    clear h hn
    go_enter Tryz.func6, Tryz.ntmps6
    go_wp2_with fail
    refine (HS.out _).mono ?_
    rintro e w' ⟨rfl, rfl⟩
    go_wp2_with fail
    refine (HNUM.out _).mono ?_
    rintro e w2 ⟨rfl, rfl⟩
    go_wp2_with fail
    go_ret2
    exact ⟨rfl, Below.refl _ _⟩

set_option maxRecDepth 100000 in
theorem whole_read (k : Int) (S : ByteArray) (s : Int) (hk : sortK k = s) (hs : s = 0 ∨ s = 1 ∨ s = 6 ∨ s = 7) (w : World) (R : Ending → World → Prop)
    (HR : Hid (Calls Tryz.prog 5 #[.int .u8 k, .string S] w (fun e w' => ∃ (b : Nat) (err : Int), e = .returned (.tuple #[.int .u64 b, .int .i64 err]) ∧ R e w'))) :
    Calls Tryz.prog 6 #[.int .u8 k, .string S] w R := by
  have HS := Lib.hid (sort_walk k)
  rw [hk] at HS
  clear hk
  rcases hs with rfl | rfl | rfl | rfl
  all_goals
    go_enter Tryz.func6, Tryz.ntmps6
    go_wp2_with fail
    refine (HS.out _).mono ?_
    rintro e w' ⟨rfl, rfl⟩
    go_wp2_with fail
    refine HR.out.mono ?_
    rintro e w' ⟨b, err, rfl, hr⟩
    have HRR := Lib.hid hr
    clear hr
    go_wp2_with fail
    exact HRR.out

theorem nwhole_walk (k : Int) (S : ByteArray) (hsz : S.size ≤ 67108864) {neg : Bool} {ds : List UInt8} {pt : Bool} {fs : List UInt8} {hx : Bool} {c : UInt8} {sg es : List UInt8} (hN : S.toList ≠ [] → numLen S = S.size → NumL S.data.toList neg ds pt fs hx c sg es)
    (w : World) (B : Nat) (hB : B ≤ w.heap.size) (hF : FlAt w B) : Calls Tryz.prog 6 #[.int .u8 k, .string S] w (WoPost (sortK k) S neg (valV ds fs) (valX fs hx sg es) B w) := by
  have hs : sortK k = 0 ∨ sortK k = 1 ∨ sortK k = 6 ∨ sortK k = 7 ∨ sortK k = 2 ∨ sortK k = 3 ∨ sortK k = 4 ∨ sortK k = 5 := by
    unfold sortK
    repeat' split
    all_goals simp
  by_cases hi : IntSort (sortK k)
  · by_cases h : S.toList ≠ [] ∧ numLen S = S.size
    · refine (whole_num k S (hN h.1 h.2) h.1 h.2 hsz hi w B hB hF.lib).mono ?_
      rintro e w' ⟨b, err, hs, rfl, hw⟩
      exact ⟨b, err, Or.inr (Or.inr ⟨hi, h.1, h.2, hs⟩), rfl, hw⟩
    · have h2 : S.toList = [] ∨ numLen S ≠ S.size := by
        by_cases h1 : S.toList = []
        · exact Or.inl h1
        · exact Or.inr fun h3 => h ⟨h1, h3⟩
      refine (whole_bad k S hsz hi h2 w B).mono ?_
      rintro e w' ⟨rfl, hw⟩
      exact ⟨0, 30, Or.inr (Or.inl ⟨hi, h2, rfl, rfl⟩), rfl, hw⟩
  · refine whole_read k S _ rfl (by unfold IntSort at hi; omega) w _ (Lib.hid ((nread_walk k S hsz hN w B hB hF).mono ?_))
    rintro e w' ⟨b, err, hs, rfl, hw⟩
    exact ⟨b, err, rfl, b, err, Or.inl ⟨hi, hs⟩, rfl, hw⟩
end Go.Proofs.YtnpinogjajhlhaaGreatDoor.Fl
end
section
/- Read, Whole, Number at the texts of the closed head. -/
namespace Go.Proofs.YtnpinogjajhlhaaGreatDoor.Fl
open Go.RowKit Go.Lib

def PairEnd (b : Nat) (err : Int) (B : Nat) (w : World) (e : Ending) (w' : World) : Prop := e = .returned (.tuple #[.int .u64 b, .int .i64 err]) ∧ Below B w w'

theorem rd1 (B : Nat) (w : World) (hB : B ≤ w.heap.size) (hF : FlAt w B) :
    Calls Tryz.prog 5 #[.int .u8 2, .string ⟨#[49, 54, 55, 55, 55, 50, 49, 55]⟩] w (PairEnd 1266679808 0 B w) := by
  refine (nread_walk 2 ⟨#[49, 54, 55, 55, 55, 50, 49, 55]⟩ (by decide) (neg := false) (ds := [49, 54, 55, 55, 55, 50, 49, 55]) (pt := false) (fs := []) (hx := false) (c := 101) (sg := []) (es := []) (fun _ _ => ⟨rfl, by decide, by unfold allD; decide, by unfold allD; decide, fun _ => rfl, nofun, Or.inl rfl, Or.inl rfl, by unfold allD; decide, nofun, fun _ => ⟨rfl, rfl⟩⟩) w B hB hF).mono ?_
  rintro e w' ⟨b, err, hs, rfl, hb⟩
  have h2 : RdSpec (sortK 2) ⟨#[49, 54, 55, 55, 55, 50, 49, 55]⟩ false (valV [49, 54, 55, 55, 55, 50, 49, 55] []) (valX [] false [] []) 1266679808 0 := by
    refine Or.inr (Or.inr (Or.inl ⟨by decide, Or.inr (Or.inr (Or.inr (Or.inr ⟨by decide +kernel, by decide +kernel, by decide +kernel, by decide +kernel, by decide +kernel, 1266679808, ⟨fun _ => by decide +kernel, fun h => absurd h (by decide), by decide +kernel, fun h => absurd h (by decide)⟩, Or.inr ⟨by decide +kernel, by decide +kernel, rfl⟩⟩)))⟩))
  obtain ⟨rfl, rfl⟩ := hs.unique h2
  exact ⟨rfl, hb⟩

theorem rd2 (B : Nat) (w : World) (hB : B ≤ w.heap.size) (hF : FlAt w B) :
    Calls Tryz.prog 5 #[.int .u8 5, .string ⟨#[50, 49, 52, 55, 52, 56, 51, 54, 52, 56]⟩] w (PairEnd 0 31 B w) := by
  refine (nread_walk 5 ⟨#[50, 49, 52, 55, 52, 56, 51, 54, 52, 56]⟩ (by decide) (neg := false) (ds := [50, 49, 52, 55, 52, 56, 51, 54, 52, 56]) (pt := false) (fs := []) (hx := false) (c := 101) (sg := []) (es := []) (fun _ _ => ⟨rfl, by decide, by unfold allD; decide, by unfold allD; decide, fun _ => rfl, nofun, Or.inl rfl, Or.inl rfl, by unfold allD; decide, nofun, fun _ => ⟨rfl, rfl⟩⟩) w B hB hF).mono ?_
  rintro e w' ⟨b, err, hs, rfl, hb⟩
  have h2 : RdSpec (sortK 5) ⟨#[50, 49, 52, 55, 52, 56, 51, 54, 52, 56]⟩ false (valV [50, 49, 52, 55, 52, 56, 51, 54, 52, 56] []) (valX [] false [] []) 0 31 := by
    refine Or.inr (Or.inr (Or.inr (Or.inr ⟨Or.inl (by decide), Or.inr ⟨⟨by decide +kernel, ?_, by decide +kernel⟩, Or.inr ⟨by decide +kernel, rfl, rfl⟩⟩⟩)))
    unfold allD; decide +kernel
  obtain ⟨rfl, rfl⟩ := hs.unique h2
  exact ⟨rfl, hb⟩

theorem rd3 (B : Nat) (w : World) (hB : B ≤ w.heap.size) (hF : FlAt w B) :
    Calls Tryz.prog 5 #[.int .u8 5, .string ⟨#[48, 48, 55]⟩] w (PairEnd 0 30 B w) := by
  refine (nread_walk 5 ⟨#[48, 48, 55]⟩ (by decide) (neg := false) (ds := [48, 48, 55]) (pt := false) (fs := []) (hx := false) (c := 101) (sg := []) (es := []) (fun _ _ => ⟨rfl, by decide, by unfold allD; decide, by unfold allD; decide, fun _ => rfl, nofun, Or.inl rfl, Or.inl rfl, by unfold allD; decide, nofun, fun _ => ⟨rfl, rfl⟩⟩) w B hB hF).mono ?_
  rintro e w' ⟨b, err, hs, rfl, hb⟩
  have h2 : RdSpec (sortK 5) ⟨#[48, 48, 55]⟩ false (valV [48, 48, 55] []) (valX [] false [] []) 0 30 := by
    refine Or.inr (Or.inr (Or.inr (Or.inr ⟨Or.inl (by decide), Or.inl ⟨fun h => ?_, rfl, rfl⟩⟩)))
    exact absurd (h.2.2 (by decide +kernel)) (by decide +kernel)
  obtain ⟨rfl, rfl⟩ := hs.unique h2
  exact ⟨rfl, hb⟩

theorem wh1 (B : Nat) (w : World) (hB : B ≤ w.heap.size) (hF : FlAt w B) :
    Calls Tryz.prog 6 #[.int .u8 5, .string ⟨#[50, 46, 53, 48, 101, 49]⟩] w (PairEnd 25 0 B w) := by
  refine (nwhole_walk 5 ⟨#[50, 46, 53, 48, 101, 49]⟩ (by decide) (neg := false) (ds := [50]) (pt := true) (fs := [53, 48]) (hx := true) (c := 101) (sg := []) (es := [49]) (fun _ _ => ⟨rfl, by decide, by unfold allD; decide, by unfold allD; decide, nofun, fun _ => by decide, Or.inl rfl, Or.inl rfl, by unfold allD; decide, fun _ => by decide, nofun⟩) w B hB hF).mono ?_
  rintro e w' ⟨b, err, hs, rfl, hb⟩
  have h2 : WoSpec (sortK 5) ⟨#[50, 46, 53, 48, 101, 49]⟩ false (valV [50] [53, 48]) (valX [53, 48] true [] [49]) 25 0 := by
    refine Or.inr (Or.inr ⟨Or.inl (by decide), by decide +kernel, by decide +kernel, Or.inr ⟨25, 1, by decide +kernel, by decide, Or.inr (Or.inl ⟨by decide +kernel, by decide +kernel, rfl⟩)⟩⟩)
  obtain ⟨rfl, rfl⟩ := hs.unique h2
  exact ⟨rfl, hb⟩

theorem nu1 (w : World) : Calls Tryz.prog 7 #[.string ⟨#[45, 49, 46, 53, 101, 43]⟩] w (IntEndU .i64 4 w) := by
  have h := pnum_walk ⟨#[45, 49, 46, 53, 101, 43]⟩ (by decide) w
  rw [show numLen ⟨#[45, 49, 46, 53, 101, 43]⟩ = 4 by decide +kernel] at h
  exact h
end Go.Proofs.YtnpinogjajhlhaaGreatDoor.Fl
end
section
/- works, walked. -/
namespace Go.Proofs.YtnpinogjajhlhaaGreatDoor.Fl
open Go.RowKit Go.Lib

set_option maxHeartbeats 1000000 in
set_option maxRecDepth 100000 in
theorem works_walk (B : Nat) (w : World) (hB : B ≤ w.heap.size) (hF : FlAt w B) :
    Calls Tryz.prog 4 #[] w (fun e w' => e = .returned (.bool true) ∧ Below B w w') := by
  have HF := Lib.hid hF
  clear hF
  go_enter Tryz.func4, Tryz.ntmps4
  go_wp2_with fail
  refine (showa_walk B w hB HF.out.t64.pow HF.out.lib).mono ?_
  rintro e w1 ⟨rfl, hb⟩
  have H1 : Hid (Below B w w1 ∧ B ≤ w1.heap.size) := ⟨hb, Nat.le_trans hB hb.size⟩
  clear hb
  go_wp2_with fail
  refine (showb_walk B w1 H1.out.2 (HF.out.below H1.out.1).t64.pow (HF.out.below H1.out.1).lib).mono ?_
  rintro e w2 ⟨rfl, hb⟩
  have H2 : Hid (Below B w w2 ∧ B ≤ w2.heap.size) := ⟨H1.out.1.trans hb, Nat.le_trans H1.out.2 hb.size⟩
  clear hb H1
  go_wp2_with fail
  refine (showc_walk B w2 H2.out.2 (HF.out.below H2.out.1).t64.pow (HF.out.below H2.out.1).lib).mono ?_
  rintro e w3 ⟨rfl, hb⟩
  have H3 : Hid (Below B w w3 ∧ B ≤ w3.heap.size) := ⟨H2.out.1.trans hb, Nat.le_trans H2.out.2 hb.size⟩
  clear hb H2
  go_wp2_with fail
  refine (rd1 B w3 H3.out.2 (HF.out.below H3.out.1)).mono ?_
  rintro e w4 ⟨rfl, hb⟩
  have H4 : Hid (Below B w w4 ∧ B ≤ w4.heap.size) := ⟨H3.out.1.trans hb, Nat.le_trans H3.out.2 hb.size⟩
  clear hb H3
  go_wp2_with fail
  refine (wh1 B w4 H4.out.2 (HF.out.below H4.out.1)).mono ?_
  rintro e w5 ⟨rfl, hb⟩
  have H5 : Hid (Below B w w5 ∧ B ≤ w5.heap.size) := ⟨H4.out.1.trans hb, Nat.le_trans H4.out.2 hb.size⟩
  clear hb H4
  go_wp2_with fail
  refine (rd2 B w5 H5.out.2 (HF.out.below H5.out.1)).mono ?_
  rintro e w6 ⟨rfl, hb⟩
  have H6 : Hid (Below B w w6 ∧ B ≤ w6.heap.size) := ⟨H5.out.1.trans hb, Nat.le_trans H5.out.2 hb.size⟩
  clear hb H5
  go_wp2_with fail
  refine (rd3 B w6 H6.out.2 (HF.out.below H6.out.1)).mono ?_
  rintro e w7 ⟨rfl, hb⟩
  have H7 : Hid (Below B w w7 ∧ B ≤ w7.heap.size) := ⟨H6.out.1.trans hb, Nat.le_trans H6.out.2 hb.size⟩
  clear hb H6 HF
  go_wp2_with (first
    | (go_at_call 7; refine (nu1 _).mono ?_; rintro e w8 ⟨rfl, rfl⟩)
    | (go_at_call 12; refine (narrow_k _).mono ?_; rintro e w8 ⟨rfl, rfl⟩)
    | (go_at_call 13; refine (widen_k _).mono ?_; rintro e w8 ⟨rfl, rfl⟩)
    | (go_at_call 14; refine (cut_k _).mono ?_; rintro e w8 ⟨rfl, rfl⟩)
    | (go_at_call 15; refine (fits_k _).mono ?_; rintro e w8 ⟨rfl, rfl⟩)
    | (go_at_call 16; refine (compare_k _).mono ?_; rintro e w8 ⟨rfl, rfl⟩))
  go_ret
  exact ⟨rfl, H7.out.1⟩
end Go.Proofs.YtnpinogjajhlhaaGreatDoor.Fl
end
section
/- Whole numbers as words of 32 bits, the lowest first: sums, shifts, comparing, taking away. No program here. -/
namespace Go.Proofs.YtnpinogjajhlhaaGreatDoor.Fl

/-- What the first n words are worth. -/
def wv (g : Nat → Nat) : Nat → Nat
  | 0 => 0
  | n + 1 => wv g n + g n * 4294967296 ^ n

theorem wpos (n : Nat) : 0 < 4294967296 ^ n := Nat.pow_pos (by decide)
theorem wsucc (n : Nat) : 4294967296 ^ (n + 1) = 4294967296 ^ n * 4294967296 := Nat.pow_succ ..

theorem wv_lt {g : Nat → Nat} : ∀ {n : Nat}, (∀ i, i < n → g i < 4294967296) → wv g n < 4294967296 ^ n
  | 0, _ => by show 0 < 1; decide
  | n + 1, h => by
    have ih := wv_lt (g := g) (n := n) fun i hi => h i (by omega)
    have h1 := h n (by omega)
    rw [wv, wsucc]
    have h2 : (g n + 1) * 4294967296 ^ n ≤ 4294967296 * 4294967296 ^ n := Nat.mul_le_mul_right _ h1
    rw [Nat.add_mul, Nat.one_mul] at h2
    rw [Nat.mul_comm (4294967296 ^ n)]
    omega

theorem wv_congr {g h : Nat → Nat} : ∀ {n : Nat}, (∀ i, i < n → g i = h i) → wv g n = wv h n
  | 0, _ => rfl
  | n + 1, e => by rw [wv, wv, wv_congr fun i hi => e i (by omega), e n (by omega)]

theorem wv_zero {g : Nat → Nat} : ∀ {n : Nat}, (∀ i, i < n → g i = 0) → wv g n = 0
  | 0, _ => rfl
  | n + 1, e => by rw [wv, wv_zero fun i hi => e i (by omega), e n (by omega), Nat.zero_mul]

/-- One word put anew. -/
def upd (h : Nat → Nat) (i x : Nat) (j : Nat) : Nat := if j = i then x else h j

theorem upd_at (h : Nat → Nat) (i x : Nat) : upd h i x i = x := if_pos rfl
theorem upd_ne (h : Nat → Nat) {i x j : Nat} (e : j ≠ i) : upd h i x j = h j := if_neg e
theorem wv_upd (h : Nat → Nat) (i x : Nat) : wv (upd h i x) i = wv h i := wv_congr fun j hj => upd_ne h (by omega)
theorem upd_lt {h : Nat → Nat} {i x : Nat} (hx : x < 4294967296) {n : Nat} (hh : ∀ j, j < n → h j < 4294967296) : ∀ j, j < n → upd h i x j < 4294967296 := fun j hj => by
  unfold upd; split
  · exact hx
  · exact hh j hj

/-- How many bits a number has. -/
def blen (N : Nat) : Nat := if N = 0 then 0 else N.log2 + 1

theorem blen_zero : blen 0 = 0 := rfl
theorem blen_lt (N : Nat) : N < 2 ^ blen N := by
  unfold blen; split
  · rename_i h; rw [h]; decide
  · exact Nat.lt_log2_self
theorem blen_le {N : Nat} (h : N ≠ 0) : 2 ^ (blen N - 1) ≤ N := by
  unfold blen; rw [if_neg h]; exact Nat.log2_self_le h
theorem blen_pos {N : Nat} (h : N ≠ 0) : 1 ≤ blen N := by unfold blen; rw [if_neg h]; omega
theorem blen_unique {N b : Nat} (h1 : 2 ^ b ≤ N) (h2 : N < 2 ^ (b + 1)) : blen N = b + 1 := by
  have h0 : N ≠ 0 := by have := Nat.two_pow_pos b; omega
  have a1 := blen_lt N
  have a2 := blen_le h0
  have a3 := blen_pos h0
  have c1 : b < blen N := (Nat.pow_lt_pow_iff_right (show 1 < 2 by decide)).1 (Nat.lt_of_le_of_lt h1 a1)
  have c2 : blen N - 1 < b + 1 := (Nat.pow_lt_pow_iff_right (show 1 < 2 by decide)).1 (Nat.lt_of_le_of_lt a2 h2)
  omega
theorem blen_mono {N M : Nat} (h : N ≤ M) : blen N ≤ blen M := by
  by_cases h0 : N = 0
  · rw [h0]; exact Nat.zero_le _
  · have a1 := blen_le h0
    have a2 := blen_lt M
    have := (Nat.pow_lt_pow_iff_right (show 1 < 2 by decide)).1 (Nat.lt_of_le_of_lt a1 (Nat.lt_of_le_of_lt h a2))
    omega
theorem blen_half {N : Nat} (h : N ≠ 0) : blen N = blen (N / 2) + 1 := by
  by_cases h1 : N = 1
  · subst h1; rfl
  · have h2 : N / 2 ≠ 0 := by omega
    have a1 := blen_le h2
    have a2 := blen_lt (N / 2)
    have a3 := blen_pos h2
    refine blen_unique ?_ ?_
    · obtain ⟨b, hb⟩ : ∃ b, blen (N / 2) = b + 1 := ⟨blen (N / 2) - 1, by omega⟩
      rw [hb] at a1 ⊢
      rw [Nat.pow_succ]; simp only [Nat.add_sub_cancel] at a1; omega
    · rw [Nat.pow_succ]; omega

/-- How many words a number has. -/
def wlen (N : Nat) : Nat := (blen N + 31) / 32

theorem w_two (n : Nat) : 4294967296 ^ n = 2 ^ (32 * n) := by rw [Nat.pow_mul]

theorem wlen_le {N n : Nat} (h : N < 4294967296 ^ n) : wlen N ≤ n := by
  unfold wlen
  by_cases h0 : N = 0
  · rw [h0, blen_zero]; omega
  · rw [w_two] at h
    have := (Nat.pow_lt_pow_iff_right (show 1 < 2 by decide)).1 (Nat.lt_of_le_of_lt (blen_le h0) h)
    omega
theorem lt_wlen (N : Nat) : N < 4294967296 ^ wlen N := by
  rw [w_two]
  exact Nat.lt_of_lt_of_le (blen_lt N) (Nat.pow_le_pow_right (by decide) (by unfold wlen; omega))
theorem wlen_zero : wlen 0 = 0 := rfl
theorem wlen_mono {N M : Nat} (h : N ≤ M) : wlen N ≤ wlen M := by unfold wlen; have := blen_mono h; omega
theorem blen_wlen (N : Nat) : blen N ≤ 32 * wlen N := by unfold wlen; omega

theorem wv_top {g : Nat → Nat} {n : Nat} (h : g n ≠ 0) : 4294967296 ^ n ≤ wv g (n + 1) := by
  rw [wv]
  have : 1 * 4294967296 ^ n ≤ g n * 4294967296 ^ n := Nat.mul_le_mul_right _ (by omega)
  omega

/-- Words without noughts behind: as many as the number has. -/
theorem wlen_wv {g : Nat → Nat} {n : Nat} (hg : ∀ i, i < n → g i < 4294967296) (ht : n = 0 ∨ g (n - 1) ≠ 0) : wlen (wv g n) = n := by
  refine Nat.le_antisymm (wlen_le (wv_lt hg)) ?_
  rcases ht with rfl | ht
  · exact Nat.zero_le _
  · cases n with
    | zero => exact Nat.zero_le _
    | succ n =>
      have h1 := wv_top (g := g) (n := n) ht
      have h2 := lt_wlen (wv g (n + 1))
      have := (Nat.pow_lt_pow_iff_right (show 1 < 4294967296 by decide)).1 (Nat.lt_of_le_of_lt h1 h2)
      omega

/-- The bits, by the last word. -/
theorem blen_wv {g : Nat → Nat} {n : Nat} (hg : ∀ i, i < n + 1 → g i < 4294967296) (ht : g n ≠ 0) : blen (wv g (n + 1)) = 32 * n + blen (g n) := by
  have h1 := wv_lt (g := g) (n := n) fun i hi => hg i (by omega)
  have a1 := blen_le ht
  have a2 := blen_lt (g n)
  have a3 := blen_pos ht
  obtain ⟨b, hb⟩ : ∃ b, blen (g n) = b + 1 := ⟨blen (g n) - 1, by omega⟩
  rw [hb] at a1 a2 ⊢
  simp only [Nat.add_sub_cancel] at a1
  rw [show 32 * n + (b + 1) = 32 * n + b + 1 by omega]
  have hp := wpos n
  have e := w_two n
  refine blen_unique ?_ ?_
  · rw [wv, Nat.pow_add, ← e, Nat.mul_comm]
    have := Nat.mul_le_mul_right (4294967296 ^ n) a1
    omega
  · rw [wv, show 32 * n + b + 1 = 32 * n + (b + 1) by omega, Nat.pow_add, ← e, Nat.mul_comm (4294967296 ^ n)]
    have h2 : (g n + 1) * 4294967296 ^ n ≤ 2 ^ (b + 1) * 4294967296 ^ n := Nat.mul_le_mul_right _ a2
    rw [Nat.add_mul, Nat.one_mul] at h2
    omega

/-- Times: a round. -/
theorem times_step {g h : Nat → Nat} {m a i c x : Nat} (hx : x = g i) (e : wv h i + c * 4294967296 ^ i = wv g i * m + a) :
    wv (upd h i ((c + x * m) % 4294967296)) (i + 1) + (c + x * m) / 4294967296 * 4294967296 ^ (i + 1) = wv g (i + 1) * m + a := by
  subst hx
  rw [wv, wv_upd, upd_at, wv, wsucc]
  have hd := Nat.div_add_mod (c + g i * m) 4294967296
  generalize (c + g i * m) % 4294967296 = r at *
  generalize (c + g i * m) / 4294967296 = q at *
  generalize 4294967296 ^ i = W at *
  have e1 : q * (W * 4294967296) = 4294967296 * q * W := by ac_rfl
  have e2 : (4294967296 * q + r) * W = (c + g i * m) * W := by rw [hd]
  rw [Nat.add_mul, Nat.add_mul] at e2
  have e3 : (wv g i + g i * W) * m = wv g i * m + g i * m * W := by rw [Nat.add_mul]; congr 1; ac_rfl
  rw [e1, e3]
  omega

theorem times_carry {c x m : Nat} (hc : c < 4294967296) (hx : x < 4294967296) (hm : m < 4294967296) : (c + x * m) / 4294967296 < 4294967296 ∧ c + x * m < 18446744073709551616 ∧ x * m < 18446744073709551616 := by
  have h : x * m ≤ 4294967295 * 4294967295 := Nat.mul_le_mul (by omega) (by omega)
  omega

theorem times_end {g h : Nat → Nat} {m a n c : Nat} (e : wv h n + c * 4294967296 ^ n = wv g n * m + a) : wv (upd h n c) (n + 1) = wv g n * m + a := by
  rw [wv, wv_upd, upd_at]; exact e

theorem wlen_times {N m a : Nat} (hm : m < 4294967296) (ha : a < 4294967296) : wlen (N * m + a) ≤ wlen N + 1 := by
  refine wlen_le ?_
  have h1 := lt_wlen N
  rw [wsucc]
  generalize 4294967296 ^ wlen N = W at *
  have h2 : (N + 1) * m ≤ W * m := Nat.mul_le_mul_right _ h1
  have h3 : W * m + W ≤ W * 4294967296 := by
    have : W * (m + 1) ≤ W * 4294967296 := Nat.mul_le_mul_left _ hm
    rw [Nat.mul_add, Nat.mul_one] at this; exact this
  rw [Nat.add_mul, Nat.one_mul] at h2
  by_cases h4 : m = 0
  · subst h4
    have : 1 * 4294967296 ≤ W * 4294967296 := Nat.mul_le_mul_right _ (by omega)
    omega
  · by_cases hW : 4294967296 ≤ W
    · omega
    · -- few words: the number itself is small
      have h5 : N * m ≤ (W - 1) * m := Nat.mul_le_mul_right _ (by omega)
      have h6 : (W - 1) * m ≤ (W - 1) * 4294967295 := Nat.mul_le_mul_left _ (by omega)
      have h7 : 4294967296 * W = W * 4294967296 := Nat.mul_comm ..
      have h8 : (W - 1) * 4294967295 + 4294967295 = W * 4294967295 := by
        obtain ⟨V, rfl⟩ : ∃ V, W = V + 1 := ⟨W - 1, by omega⟩
        rw [Nat.add_sub_cancel, Nat.add_mul, Nat.one_mul]
      omega

/-- Left: a round. -/
theorem left_step {g h : Nat → Nat} {q r i x : Nat} (hr : r ≤ 32) (hx : x = g i) (h2 : h (i + q) < 2 ^ r)
    (e : wv h (i + q + 1) = wv g i * 2 ^ r * 4294967296 ^ q) (hg : g i < 4294967296) :
    wv (upd (upd h (i + q) (h (i + q) + x * 2 ^ r % 4294967296)) (i + q + 1) (x * 2 ^ r / 4294967296)) (i + q + 1 + 1) = wv g (i + 1) * 2 ^ r * 4294967296 ^ q ∧
      x * 2 ^ r / 4294967296 < 2 ^ r ∧ h (i + q) + x * 2 ^ r % 4294967296 < 4294967296 ∧ (x * 2 ^ r % 4294967296) % 2 ^ r = 0 := by
  subst hx
  have hp := Nat.two_pow_pos r
  have hdvd : 4294967296 = 2 ^ (32 - r) * 2 ^ r := by rw [← Nat.pow_add, show 32 - r + r = 32 by omega]
  have hm : (g i * 2 ^ r % 4294967296) % 2 ^ r = 0 := by
    have : 2 ^ r ∣ 4294967296 := ⟨2 ^ (32 - r), by rw [Nat.mul_comm]; exact hdvd⟩
    rw [Nat.mod_mod_of_dvd _ this, Nat.mul_mod_left]
  have hlt : g i * 2 ^ r / 4294967296 < 2 ^ r := by
    refine (Nat.div_lt_iff_lt_mul (by decide)).2 ?_
    rw [Nat.mul_comm]
    exact Nat.mul_lt_mul_of_pos_left hg hp
  have hlow : h (i + q) + g i * 2 ^ r % 4294967296 < 4294967296 := by
    have h1 := Nat.mod_lt (g i * 2 ^ r) (show 0 < 4294967296 by decide)
    have h3 := Nat.div_add_mod (g i * 2 ^ r % 4294967296) (2 ^ r)
    rw [hm, Nat.add_zero] at h3
    have h4 : g i * 2 ^ r % 4294967296 / 2 ^ r < 2 ^ (32 - r) := by
      refine (Nat.div_lt_iff_lt_mul hp).2 ?_
      rw [← hdvd]; exact h1
    have h5 : 2 ^ r * (g i * 2 ^ r % 4294967296 / 2 ^ r + 1) ≤ 2 ^ r * 2 ^ (32 - r) := Nat.mul_le_mul_left _ h4
    rw [Nat.mul_comm (2 ^ r) (2 ^ (32 - r)), ← hdvd, Nat.mul_add, h3] at h5
    omega
  refine ⟨?_, hlt, hlow, hm⟩
  have hd := Nat.div_add_mod (g i * 2 ^ r) 4294967296
  have e0 : wv h (i + q + 1) = wv h (i + q) + h (i + q) * 4294967296 ^ (i + q) := rfl
  rw [wv, wv_upd, upd_at, wv, wv_upd, upd_at, wv, wsucc]
  rw [e0] at e
  generalize g i * 2 ^ r % 4294967296 = lo at *
  generalize hhi : g i * 2 ^ r / 4294967296 = hi at *
  have e1 : hi * (4294967296 ^ (i + q) * 4294967296) = 4294967296 * hi * 4294967296 ^ (i + q) := by ac_rfl
  have e2 : (4294967296 * hi + lo) * 4294967296 ^ (i + q) = g i * 2 ^ r * 4294967296 ^ (i + q) := by rw [hd]
  rw [Nat.add_mul] at e2
  have e3 : (wv g i + g i * 4294967296 ^ i) * 2 ^ r * 4294967296 ^ q = wv g i * 2 ^ r * 4294967296 ^ q + g i * 2 ^ r * 4294967296 ^ (i + q) := by
    rw [Nat.pow_add, Nat.add_mul, Nat.add_mul]; congr 1; ac_rfl
  rw [e1, e3, Nat.add_mul]
  omega

theorem left_end (N n : Nat) : N * 2 ^ (n % 32) * 4294967296 ^ (n / 32) = N * 2 ^ n := by
  rw [w_two, Nat.mul_assoc, ← Nat.pow_add]; congr 2; omega

/-- Comparing: a place from the top. -/
theorem wv_cmp {g h : Nat → Nat} {n i : Nat} (hi : i < n) (hh : ∀ j, j < i → g j < 4294967296) (e : ∀ j, i < j → j < n → g j = h j) (hlt : g i < h i) : wv g n < wv h n := by
  induction n with
  | zero => omega
  | succ n ih =>
    rw [wv, wv]
    by_cases hin : i = n
    · subst hin
      have h1 := wv_lt hh
      have h2 : (g i + 1) * 4294967296 ^ i ≤ h i * 4294967296 ^ i := Nat.mul_le_mul_right _ hlt
      rw [Nat.add_mul, Nat.one_mul] at h2
      omega
    · rw [e n (by omega) (by omega)]
      have := ih (by omega) (fun j h1 h2 => e j h1 (by omega))
      omega

/-- Fewer words: a lesser number. -/
theorem wv_short {g h : Nat → Nat} {n m : Nat} (hg : ∀ i, i < n → g i < 4294967296) (ht : h (m - 1) ≠ 0) (hnm : n < m) : wv g n < wv h m := by
  obtain ⟨k, rfl⟩ : ∃ k, m = k + 1 := ⟨m - 1, by omega⟩
  refine Nat.lt_of_lt_of_le (wv_lt hg) (Nat.le_trans (Nat.pow_le_pow_right (by decide) (by omega)) (wv_top ht))

/-- Taking away: a round. y: the word of the lesser number, nought behind its end. -/
theorem less_step {g h y : Nat → Nat} {i d d' v : Nat} (hv : v + d + y i = g i + d' * 4294967296) (e : wv h i + wv y i = wv g i + d * 4294967296 ^ i) :
    wv (upd h i v) (i + 1) + wv y (i + 1) = wv g (i + 1) + d' * 4294967296 ^ (i + 1) := by
  rw [wv, wv_upd, upd_at, wv, wv, wsucc]
  generalize 4294967296 ^ i = W at *
  have e1 : (v + d + y i) * W = (g i + d' * 4294967296) * W := by rw [hv]
  rw [Nat.add_mul, Nat.add_mul, Nat.add_mul] at e1
  have e2 : d' * (W * 4294967296) = d' * 4294967296 * W := by ac_rfl
  rw [e2]
  omega

theorem less_end {g h y : Nat → Nat} {n d : Nat} (hd : d ≤ 1) (hh : ∀ i, i < n → h i < 4294967296) (e : wv h n + wv y n = wv g n + d * 4294967296 ^ n) (hle : wv y n ≤ wv g n) : wv h n = wv g n - wv y n := by
  have h1 := wv_lt hh
  rcases (show d = 0 ∨ d = 1 by omega) with rfl | rfl
  · rw [Nat.zero_mul] at e; omega
  · rw [Nat.one_mul] at e; omega

/-- Words behind the end as noughts. -/
def pad (g : Nat → Nat) (n j : Nat) : Nat := if j < n then g j else 0
theorem wv_pad {g : Nat → Nat} {n : Nat} : ∀ {m : Nat}, n ≤ m → wv (pad g n) m = wv g n := by
  intro m h
  induction m with
  | zero => have : n = 0 := by omega
            subst this; rfl
  | succ m ih =>
    by_cases hm : n = m + 1
    · subst hm
      exact wv_congr fun i hi => if_pos hi
    · rw [wv, ih (by omega)]
      unfold pad
      rw [if_neg (by omega), Nat.zero_mul, Nat.add_zero]

/-- Dividing: a round. -/
theorem div_yes {x0 q x y p : Nat} (e : x0 = q * (2 * p) * y + x) (h : y * p ≤ x) : x0 = (q * 2 + 1) * p * y + (x - y * p) := by
  have e1 : q * (2 * p) * y = q * 2 * p * y := by ac_rfl
  have e2 : (q * 2 + 1) * p * y = q * 2 * p * y + y * p := by rw [Nat.add_mul, Nat.one_mul, Nat.add_mul, Nat.mul_comm p y]
  rw [e, e1, e2]; omega
theorem div_no {x0 q x y p : Nat} (e : x0 = q * (2 * p) * y + x) : x0 = q * 2 * p * y + x := by
  rw [e]; congr 1; ac_rfl
theorem div_skip {x y i : Nat} (hy : y ≠ 0) (h : blen x < blen y + i) : x < y * 2 ^ i := by
  have h1 := blen_lt x
  have h2 := blen_le hy
  have h3 := blen_pos hy
  have h4 : 2 ^ (blen y - 1) * 2 ^ i ≤ y * 2 ^ i := Nat.mul_le_mul_right _ h2
  rw [← Nat.pow_add] at h4
  exact Nat.lt_of_lt_of_le h1 (Nat.le_trans (Nat.pow_le_pow_right (by decide) (by omega)) h4)
theorem div_q {x0 q x y p m : Nat} (e : x0 = q * p * y + x) (h : x0 < p * m * y) : q < m := by
  refine Nat.lt_of_not_le fun hc => ?_
  have : m * p * y ≤ q * p * y := Nat.mul_le_mul_right _ (Nat.mul_le_mul_right _ hc)
  rw [Nat.mul_comm m p] at this
  omega
theorem div_end {x0 q x y : Nat} (e : x0 = q * 1 * y + x) (h : x < y) : q = x0 / y ∧ x = x0 % y := by
  rw [Nat.mul_one] at e
  have hy : 0 < y := by omega
  constructor
  · rw [e, Nat.mul_comm, Nat.mul_add_div hy, Nat.div_eq_of_lt h, Nat.add_zero]
  · rw [e, Nat.mul_comm, Nat.mul_add_mod, Nat.mod_eq_of_lt h]
end Go.Proofs.YtnpinogjajhlhaaGreatDoor.Fl
end
