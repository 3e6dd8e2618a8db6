/- A part of the proof that lexiconlaw03.NumsReads answers true at every kind and every text: NatL, NatS, NatD. No condition. -/
import Derived.Test.YtnpinogjajhlhaaGreatDoorZ38
import Derived.Test.YtnpinogjajhlhaaGreatDoorZ06
section
/- left, walked: a whole number times a power of two. -/
namespace Go.Proofs.YtnpinogjajhlhaaGreatDoor.Fl
open Go.RowKit

theorem wlen_left {N n : Nat} : wlen (N * 2 ^ n) ≤ wlen N + n / 32 + 1 := by
  refine wlen_le ?_
  have h1 := lt_wlen N
  have h2 : 2 ^ n ≤ 4294967296 ^ (n / 32 + 1) := by rw [w_two]; exact Nat.pow_le_pow_right (by decide) (by omega)
  rw [show wlen N + n / 32 + 1 = wlen N + (n / 32 + 1) by omega, Nat.pow_add]
  exact Nat.lt_of_lt_of_le (Nat.mul_lt_mul_of_pos_right h1 (Nat.two_pow_pos n)) (Nat.mul_le_mul_left _ h2)

theorem shl_lt {z r : Nat} (hz : z < 4294967296) (hr : r < 32) : z * 2 ^ r < 18446744073709551616 := by
  have h1 : 2 ^ r ≤ 2 ^ 31 := Nat.pow_le_pow_right (by decide) (by omega)
  have h2 : z * 2 ^ r ≤ 4294967295 * 2 ^ 31 := Nat.mul_le_mul (by omega) h1
  omega

theorem or_u32 {x y : Nat} (i : Nat) (hx : x % 2 ^ i = 0) (hx1 : x < 2 ^ 32) (hy : y < 2 ^ i) (hy1 : y < 2 ^ 32) : bits .or .u32 (y : Int) (x : Int) = ((y + x : Nat) : Int) := by
  rw [bits_or_comm, bits_join IntKind.u32 32 (by decide) (fun n h0 h1 => IntWalk.u32_in n ⟨h0, by omega⟩) i (x : Int) (y : Int) (by omega) (by exact_mod_cast hx) (by omega) (by omega) (by exact_mod_cast hy) (by omega)]
  push_cast; omega

set_option maxRecDepth 100000 in
theorem rleft_walk (v : Value) (N nn : Nat) (w : World) (hv : NatAt w v N) (hn : nn ≤ 10000000) (hl : wlen N ≤ 1000000) :
    Calls Tryz.prog 133 #[v, .int .i64 nn] w (NatPost (N * 2 ^ nn) w.heap.size w) := by
  obtain ⟨g, n, ao, c, rfl, hg, ht, hN, hnc, hcm, hwl, hcase⟩ := hv.cells
  rw [hwl] at hl
  by_cases h0 : n = 0
  · subst h0
    have h0 : N = 0 := by rw [← hN]; rfl
    subst h0
    have HV := Lib.hid hv
    have hbe : (((0 : Nat) : Int) == 0) = true := rfl
    clear hv hcase hN hwl ht
    go_enter Tryz.func133, Tryz.ntmps133
    go_wp2_with fail
    go_ret
    exact ⟨_, rfl, by rw [Nat.zero_mul]; exact HV.out, Below.refl _ _⟩
  · have hbe := beq_nat0 h0
    obtain ⟨b, rfl, hb2, hb3⟩ := hcase.resolve_left h0
    obtain ⟨q, hq⟩ : ∃ q, nn / 32 = q := ⟨_, rfl⟩
    obtain ⟨r, hr⟩ : ∃ r, nn % 32 = r := ⟨_, rfl⟩
    have hq2 : (nn : Int) / 32 = (q : Int) := by omega
    have hr2 : (nn : Int) % 32 = (r : Int) := by omega
    have hr3 : (r : Int) ≤ 31 := by omega
    have hq3 : (q : Int) ≤ 10000000 := by omega
    have HG := Lib.hid (And.intro hg hb3)
    have HQ := Lib.hid (And.intro hq hr)
    have HN := Lib.hid hN
    obtain ⟨i0, hi, hz0, hz1, hz2⟩ := info_parts u32info
    clear hv hg hcase hN hwl ht hcm hnc h0 hb3 hq hr
    go_enter Tryz.func133, Tryz.ntmps133
    go_wp2_with (at_make; refine wpList_make_full _ rfl _ _ 124 rfl w.heap.size 33 i0 (.int .u32 0) 1 Tryz.underlying124 hi hz0 hz1 .i64 .i64 _ _ (n + q + 1) rfl rfl (by omega) (by omega) (by rw [hz2]; omega) (by unfold maxLen; omega) (Nat.le_refl _) ?_; intro w1 hown1 hgrow1)
    obtain ⟨hW, hF⟩ := made_words hown1
    have HB := Lib.hid ((Below.refl w.heap.size w).grown hgrow1 (Nat.le_refl _) (fun k hk => by cases hk))
    obtain ⟨BB, hBB⟩ : ∃ BB, w.heap.size = BB := ⟨_, rfl⟩
    rw [hBB] at hW hF HB hb2 ⊢
    have HBB := Lib.hid hBB
    have h0 : Hid (WAt w1 BB (fun _ => 0) (n + q + 1) ∧ (∀ i, w1.frozen? ⟨BB, i, none⟩ = false)) := ⟨hW, hF⟩
    have H2 := Lib.hid hb2
    clear hW hF hBB hown1 hgrow1 hb2 hi hz0 hz1 hz2
    go_wp2_with fail
    go_loopg [8] n (fun mm iv wr => ∃ (h : Nat → Nat) (k : Nat), iv = .int .i64 k ∧ Aside (mm = n - k ∧ k ≤ n ∧ h (k + q) < 2 ^ r ∧ wv h (k + q + 1) = wv g k * 2 ^ r * 4294967296 ^ q ∧ (∀ j, j < n + q + 1 → h j < 4294967296) ∧ WAt wr BB h (n + q + 1) ∧ (∀ i, wr.frozen? ⟨BB, i, none⟩ = false) ∧ Below BB w wr))
    case atStart =>
      refine ⟨fun _ => 0, 0, rfl, ⟨rfl, by omega, Nat.two_pow_pos r, ?_, fun j hj => (by decide : (0 : Nat) < 4294967296), h0.out.1, h0.out.2, HB.out⟩⟩
      rw [wv_zero fun i hi => rfl]
      show 0 = wv g 0 * _ * _
      simp [wv]
    case round =>
      obtain ⟨h, k, rfl, hA⟩ := hrel
      have hkn := hA.out.2.1
      by_cases hl : k < n
      · have hlt : (k : Int) < n := by omega
        obtain ⟨z, hz⟩ : ∃ z, g k = z := ⟨_, rfl⟩
        have hgk : z < 4294967296 := by rw [← hz]; exact HG.out.1 k hl
        have hcell : wr.cell? ⟨b, k, none⟩ = some (.int .u32 (z : Nat)) := by rw [← hz]; exact (hA.out.2.2.2.2.2.2.2.cell (p := ⟨b, k, none⟩) H2.out).trans (HG.out.2 k hl)
        have hz2 : (z : Int) ≤ 4294967295 := by omega
        have hstep := left_step (h := h) (q := q) (by omega) hz.symm hA.out.2.2.1 hA.out.2.2.2.1 (HG.out.1 k hl)
        obtain ⟨V, hV⟩ : ∃ V, z * 2 ^ r = V := ⟨_, rfl⟩
        have hVlt := shl_lt hgk (show r < 32 by omega)
        have hsh : IntKind.u64.wrap ((z : Int) * 2 ^ r) = (V : Int) := by
          have e : (z : Int) * 2 ^ r = (V : Int) := by rw [← hV]; push_cast; rfl
          rw [e, IntWalk.u64_in _ ⟨by omega, by omega⟩]
        rw [hV] at hstep hVlt
        obtain ⟨y, hy⟩ : ∃ y, h (k + q) = y := ⟨_, rfl⟩
        rw [hy] at hstep
        have hcell2 : wr.cell? ⟨BB, k + q, none⟩ = some (.int .u32 (y : Nat)) := by rw [← hy]; exact hA.out.2.2.2.2.2.1 (k + q) (by omega)
        have hcell3 := hA.out.2.2.2.2.2.1 (k + q + 1) (by omega)
        have hfr := hA.out.2.2.2.2.2.2.1 (k + q)
        have hfr3 := hA.out.2.2.2.2.2.2.1 (k + q + 1)
        have hyr : y < 2 ^ r := by rw [← hy]; exact hA.out.2.2.1
        have hor : bits .or .u32 (y : Int) ((V : Int) % 4294967296) = ((y + V % 4294967296 : Nat) : Int) := by
          have e : (V : Int) % 4294967296 = ((V % 4294967296 : Nat) : Int) := by omega
          rw [e]
          exact or_u32 r hstep.2.2.2 (by have := Nat.mod_lt V (show 0 < 4294967296 by decide); omega) hyr (by have := hstep.2.2.1; omega)
        obtain ⟨s, hs⟩ : ∃ s, y + V % 4294967296 = s := ⟨_, rfl⟩
        rw [hs] at hor hstep
        have hV2 : (V : Int) ≤ 18446744073709551615 := by omega
        have HS := Lib.hid (And.intro hstep (And.intro hVlt hs))
        clear hz hgk hV hVlt hstep hy hyr hs
        go_wp2_with fail
        go_roundg (n - (k + 1))
        case measure => have := hA.out.1; omega
        case rel =>
          have hd : (V : Int) / 4294967296 = ((V / 4294967296 : Nat) : Int) := by omega
          rw [hd]
          have h1 := HS.out.1
          have h32 : V / 4294967296 < 4294967296 := by have := HS.out.2.1; omega
          refine ⟨upd (upd h (k + q) s) (k + q + 1) (V / 4294967296), k + 1, by go_num, ⟨rfl, by omega, ?_, ?_, upd_lt h32 (upd_lt h1.2.2.1 hA.out.2.2.2.2.1), (hA.out.2.2.2.2.2.1.set _).set _, frozen_set (frozen_set hA.out.2.2.2.2.2.2.1 _ _) _ _, (hA.out.2.2.2.2.2.2.2.setCell (Nat.le_refl _) _).setCell (Nat.le_refl _) _⟩⟩
          · rw [show k + 1 + q = k + q + 1 by omega, upd_at]; exact h1.2.1
          · rw [show k + 1 + q + 1 = k + q + 1 + 1 by omega]; exact h1.1
      · obtain rfl : k = n := by omega
        have hend : wv h (k + q + 1) = N * 2 ^ nn := by
          rw [hA.out.2.2.2.1, HN.out, ← HQ.out.1, ← HQ.out.2, left_end]
        have HE := Lib.hid hend
        clear hend
        go_wp2_with fail
        refine (rtrim_walk BB h (k + q + 1) (k + q + 1) _ (Nat.le_refl _) (by unfold maxLen; omega) hA.out.2.2.2.2.2.1 hA.out.2.2.2.2.1).mono ?_
        rintro e w' ⟨⟨v, rfl, hv⟩, rfl⟩
        have HV := Lib.hid hv
        clear hv
        go_wp2_with fail
        go_ret
        refine ⟨v, rfl, ?_, by rw [HBB.out]; exact hA.out.2.2.2.2.2.2.2⟩
        have := HV.out
        rw [HE.out] at this
        exact this
end Go.Proofs.YtnpinogjajhlhaaGreatDoor.Fl
end
section
/- less, walked: a whole number without another. -/
namespace Go.Proofs.YtnpinogjajhlhaaGreatDoor.Fl
open Go.RowKit

set_option maxHeartbeats 1000000 in
set_option maxRecDepth 100000 in
theorem rless_walk (u v : Value) (N M : Nat) (w : World) (hu : NatAt w u N) (hv : NatAt w v M) (hle : M ≤ N) (hl : wlen N ≤ 100000000) :
    Calls Tryz.prog 151 #[u, v] w (NatPost (N - M) w.heap.size w) := by
  obtain ⟨g, n, ao, c, rfl, hg, ht, hN, hnc, hcm, hwl, hcase⟩ := hu.cells
  obtain ⟨y, m, ao2, c2, rfl, hg2, ht2, hM, hnc2, hcm2, hwl2, hcase2⟩ := hv.cells
  have hmn : m ≤ n := by rw [← hwl, ← hwl2]; exact wlen_mono hle
  rw [hwl] at hl
  have hln : (n : Int) ≤ 100000000 := by omega
  have HC := Lib.hid (And.intro hcase hcase2)
  have HG := Lib.hid (And.intro hg hg2)
  have HN := Lib.hid (And.intro hN (And.intro hM hle))
  obtain ⟨i0, hi, hz0, hz1, hz2⟩ := info_parts u32info
  clear hcase hcase2 hg hg2 hN hM hwl hwl2 ht ht2 hu hv hnc hnc2 hcm hcm2 hle
  go_enter Tryz.func151, Tryz.ntmps151
  go_wp2_with (at_make; refine wpList_make_full _ rfl _ _ 124 rfl w.heap.size 33 i0 (.int .u32 0) 1 Tryz.underlying124 hi hz0 hz1 .i64 .i64 _ _ n rfl rfl (by omega) (by omega) (by rw [hz2]; omega) (by unfold maxLen; omega) (Nat.le_refl _) ?_; intro w1 hown1 hgrow1)
  obtain ⟨hW, hF⟩ := made_words hown1
  have HB := Lib.hid ((Below.refl w.heap.size w).grown hgrow1 (Nat.le_refl _) (fun k hk => by cases hk))
  obtain ⟨BB, hBB⟩ : ∃ BB, w.heap.size = BB := ⟨_, rfl⟩
  rw [hBB] at hW hF HB HC ⊢
  have HBB := Lib.hid hBB
  have h0 : Hid (WAt w1 BB (fun _ => 0) n ∧ (∀ i, w1.frozen? ⟨BB, i, none⟩ = false)) := ⟨hW, hF⟩
  clear hW hF hBB hown1 hgrow1 hi hz0 hz1 hz2
  go_wp2_with fail
  go_loopg [6, 7] n (fun mm dv iv wr => ∃ (h : Nat → Nat) (k d : Nat), dv = .int .i64 d ∧ iv = .int .i64 k ∧ Aside (mm = n - k ∧ k ≤ n ∧ d ≤ 1 ∧ wv h k + wv (pad y m) k = wv g k + d * 4294967296 ^ k ∧ (∀ j, j < n → h j < 4294967296) ∧ WAt wr BB h n ∧ (∀ i, wr.frozen? ⟨BB, i, none⟩ = false) ∧ Below BB w wr))
  case atStart =>
    refine ⟨fun _ => 0, 0, 0, rfl, rfl, ⟨rfl, by omega, by omega, ?_, fun j hj => (by decide : (0 : Nat) < 4294967296), h0.out.1, h0.out.2, HB.out⟩⟩
    simp [wv]
  case round =>
    obtain ⟨h, k, d, rfl, rfl, hA⟩ := hrel
    have hkn := hA.out.2.1
    have hd1 := hA.out.2.2.1
    by_cases hl : k < n
    · have hlt : (k : Int) < n := by omega
      obtain ⟨z, hz⟩ : ∃ z, g k = z := ⟨_, rfl⟩
      have hgk : z < 4294967296 := by rw [← hz]; exact HG.out.1 k hl
      obtain ⟨b, hb1, hb2, hb3⟩ := HC.out.1.resolve_left (by omega)
      have hcell : wr.cell? ⟨b, k, none⟩ = some (.int .u32 (z : Nat)) := by rw [← hz]; exact (hA.out.2.2.2.2.2.2.2.cell (p := ⟨b, k, none⟩) hb2).trans (hb3 k hl)
      have hcell2 := hA.out.2.2.2.2.2.1 k hl
      have hfr := hA.out.2.2.2.2.2.2.1 k
      have hz2 : (z : Int) ≤ 4294967295 := by omega
      have HZ := Lib.hid (And.intro hz hgk)
      clear hz hgk hb2 hb3
      subst hb1
      have close : ∀ (x dd' vv' : Nat), pad y m k = x → vv' < 4294967296 → vv' + d + x = z + dd' * 4294967296 → dd' ≤ 1 →
          ∃ (h' : Nat → Nat) (k' d' : Nat), Value.int .i64 (dd' : Nat) = .int .i64 d' ∧ Value.int .i64 ((k : Int) + 1) = .int .i64 k' ∧ Aside (n - (k + 1) = n - k' ∧ k' ≤ n ∧ d' ≤ 1 ∧ wv h' k' + wv (pad y m) k' = wv g k' + d' * 4294967296 ^ k' ∧ (∀ j, j < n → h' j < 4294967296) ∧ WAt (wr.setCell ⟨BB, k, none⟩ (.int .u32 (vv' : Nat))) BB h' n ∧ (∀ i, (wr.setCell ⟨BB, k, none⟩ (.int .u32 (vv' : Nat))).frozen? ⟨BB, i, none⟩ = false) ∧ Below BB w (wr.setCell ⟨BB, k, none⟩ (.int .u32 (vv' : Nat)))) := by
        intro x dd' vv' hx hv' he hd'
        refine ⟨upd h k vv', k + 1, dd', rfl, by go_num, ⟨rfl, by omega, hd', ?_, upd_lt hv' hA.out.2.2.2.2.1, hA.out.2.2.2.2.2.1.set _, frozen_set hA.out.2.2.2.2.2.2.1 _ _, hA.out.2.2.2.2.2.2.2.setCell (Nat.le_refl _) _⟩⟩
        exact less_step (by rw [hx, HZ.out.1]; exact he) hA.out.2.2.2.1
      have HCL := Lib.hid close
      clear close
      by_cases hm : k < m
      · have hltm : (k : Int) < m := by omega
        obtain ⟨x, hx⟩ : ∃ x, y k = x := ⟨_, rfl⟩
        have hgx : x < 4294967296 := by rw [← hx]; exact HG.out.2 k hm
        obtain ⟨b', hb1', hb2', hb3'⟩ := HC.out.2.resolve_left (by omega)
        have hcell' : wr.cell? ⟨b', k, none⟩ = some (.int .u32 (x : Nat)) := by rw [← hx]; exact (hA.out.2.2.2.2.2.2.2.cell (p := ⟨b', k, none⟩) hb2').trans (hb3' k hm)
        have hx2 : (x : Int) ≤ 4294967295 := by omega
        have HX : Hid (pad y m k = x ∧ x < 4294967296) := ⟨by unfold pad; rw [if_pos hm]; exact hx, hgx⟩
        clear hx hgx hb2' hb3'
        subst hb1'
        by_cases hneg : (z : Int) - d - x < 0
        · go_wp2_with fail
          go_roundg (n - (k + 1))
          case measure => have := hA.out.1; omega
          case rel =>
            have e : (z : Int) - d - x + 4294967296 = ((z + 4294967296 - d - x : Nat) : Int) := by omega
            rw [e]
            exact HCL.out x 1 _ HX.out.1 (by omega) (by omega) (by omega)
        · go_wp2_with fail
          go_roundg (n - (k + 1))
          case measure => have := hA.out.1; omega
          case rel =>
            have e : (z : Int) - d - x = ((z - d - x : Nat) : Int) := by omega
            rw [e]
            exact HCL.out x 0 _ HX.out.1 (by omega) (by omega) (by omega)
      · have hltm : ¬ (k : Int) < m := by omega
        by_cases hneg : (z : Int) - d < 0
        · go_wp2_with fail
          go_roundg (n - (k + 1))
          case measure => have := hA.out.1; omega
          case rel =>
            have e : (z : Int) - d + 4294967296 = ((z + 4294967296 - d : Nat) : Int) := by omega
            rw [e]
            exact HCL.out 0 1 _ (by unfold pad; rw [if_neg hm]) (by omega) (by omega) (by omega)
        · go_wp2_with fail
          go_roundg (n - (k + 1))
          case measure => have := hA.out.1; omega
          case rel =>
            have e : (z : Int) - d = ((z - d : Nat) : Int) := by omega
            rw [e]
            exact HCL.out 0 0 _ (by unfold pad; rw [if_neg hm]) (by omega) (by omega) (by omega)
    · obtain rfl : k = n := by omega
      have hend := less_end hd1 hA.out.2.2.2.2.1 hA.out.2.2.2.1 (by rw [wv_pad hmn, HN.out.1, HN.out.2.1]; exact HN.out.2.2)
      rw [wv_pad hmn, HN.out.1, HN.out.2.1] at hend
      have HE := Lib.hid hend
      clear hend
      go_wp2_with fail
      refine (rtrim_walk BB h k k _ (Nat.le_refl _) (by unfold maxLen; omega) hA.out.2.2.2.2.2.1 hA.out.2.2.2.2.1).mono ?_
      rintro e w' ⟨⟨v, rfl, hv⟩, rfl⟩
      have HV := Lib.hid hv
      clear hv
      go_wp2_with fail
      go_ret
      refine ⟨v, rfl, ?_, by rw [HBB.out]; exact hA.out.2.2.2.2.2.2.2⟩
      have := HV.out
      rw [HE.out] at this
      exact this
end Go.Proofs.YtnpinogjajhlhaaGreatDoor.Fl
end
section
/- divide, walked: how often one whole number goes into another, and what is left. -/
namespace Go.Proofs.YtnpinogjajhlhaaGreatDoor.Fl
open Go.RowKit

theorem cmpV_ge {N M : Nat} (h : M ≤ N) : 0 ≤ cmpV N M := by unfold cmpV; rw [if_neg (by omega)]; split <;> omega
theorem cmpV_neg {N M : Nat} (h : ¬ M ≤ N) : cmpV N M < 0 := by unfold cmpV; rw [if_pos (by omega)]; omega

def DivPost (q : Nat) (R : Nat) (B : Nat) (w : World) (e : Ending) (w' : World) : Prop := ∃ v, e = .returned (.tuple #[.int .u64 q, v]) ∧ NatAt w' v R ∧ Below B w w'

set_option maxHeartbeats 1000000 in
set_option maxRecDepth 100000 in
theorem rdivide_walk (u v : Value) (N M : Nat) (w : World) (hu : NatAt w u N) (hv : NatAt w v M) (hM : 0 < M) (hlt : ∀ c, c = 62 → N < M * 2 ^ c) (hl : wlen N ≤ 900000) (hl2 : wlen M ≤ 900000) :
    Calls Tryz.prog 134 #[u, v] w (DivPost (N / M) (N % M) w.heap.size w) := by
  have HU := Lib.hid hu
  have HV := Lib.hid hv
  have HL := Lib.hid (And.intro hl (And.intro hl2 hM))
  have HT := Lib.hid hlt
  clear hu hv hl hl2 hM hlt
  go_enter Tryz.func134, Tryz.ntmps134
  go_wp2_with fail
  go_loopg [0, 6, 7] 62 (fun mm xv qv iv wr => ∃ (q j : Nat), qv = .int .u64 q ∧ iv = .int .i64 ((j : Int) - 1) ∧ Aside (mm = j ∧ j ≤ 62 ∧ (∃ x, N = q * 2 ^ j * M + x ∧ x < M * 2 ^ j ∧ NatAt wr xv x) ∧ Below w.heap.size w wr))
  case atStart =>
    refine ⟨0, 62, rfl, rfl, ⟨rfl, Nat.le_refl _, ⟨N, ?_, HT.out 62 rfl, HU.out⟩, Below.refl _ _⟩⟩
    simp
  case round =>
    obtain ⟨q, j, rfl, rfl, hA⟩ := hrel
    have hj := hA.out.2.1
    obtain ⟨x, hx1, hx2, hx3⟩ := hA.out.2.2.1
    by_cases h0 : j = 0
    · subst h0
      have hd : decide ((0 : Int) ≤ ((0 : Nat) : Int) - 1) = false := by simp
      have hd2 : ((0 : Nat) : Int) - 1 < 0 := by omega
      have HX := Lib.hid (And.intro hx1 (And.intro hx2 hx3))
      clear hx1 hx2 hx3
      go_wp2_with fail
      go_ret2
      have h1 := HX.out.1
      have h2 := HX.out.2.1
      rw [Nat.pow_zero] at h1
      rw [Nat.pow_zero, Nat.mul_one] at h2
      obtain ⟨e1, e2⟩ := div_end h1 h2
      refine ⟨_, ?_, by rw [← e2]; exact HX.out.2.2, hA.out.2.2.2⟩
      rw [← e1]; rfl
    · obtain ⟨k, rfl⟩ : ∃ k, j = k + 1 := ⟨j - 1, by omega⟩
      have hk : (((k + 1 : Nat) : Int) - 1) = (k : Int) := by omega
      have hk0 : (0 : Int) ≤ (k : Int) := by omega
      have hk62 : (k : Int) ≤ 61 := by omega
      have hq : q < 2 ^ (61 - k) := by
        refine div_q (p := 2 ^ (k + 1)) (y := M) hx1 ?_
        rw [← Nat.pow_add, Nat.mul_comm, show k + 1 + (61 - k) = 62 by omega]
        exact HT.out 62 rfl
      have hq2 : (q : Int) ≤ 2305843009213693952 := by
        have : 2 ^ (61 - k) ≤ 2 ^ 61 := Nat.pow_le_pow_right (by decide) (by omega)
        omega
      have hxN : x ≤ N := by rw [hx1]; omega
      have hbx : blen x ≤ 32 * wlen x := blen_wlen x
      have hwx := wlen_mono hxN
      have hby : blen M ≤ 32 * wlen M := blen_wlen M
      have hbx2 : ((blen x : Nat) : Int) ≤ 100000000 := by have := HL.out.1; omega
      have hby2 : ((blen M : Nat) : Int) ≤ 100000000 := by have := HL.out.2.1; omega
      have hwl := HL.out
      have HW : Hid (wlen x ≤ 900000 ∧ wlen M ≤ 900000 ∧ M ≠ 0) := ⟨by omega, by omega, by omega⟩
      have hyr := HV.out.below hA.out.2.2.2
      have HX := Lib.hid (And.intro hx1 (And.intro hx2 (And.intro hx3 hyr)))
      clear hx1 hx2 hx3 hq hxN hbx hwx hby hwl hyr h0
      by_cases hsk : blen x < blen M + k
      · have hsk2 : ((blen x : Nat) : Int) < (blen M : Nat) + (k : Int) := by omega
        have HSK := Lib.hid (div_skip HW.out.2.2 hsk)
        clear hsk
        go_wp2_with fail
        refine (rbits_walk _ M _ HX.out.2.2.2 (by have := HW.out; omega)).mono ?_
        rintro e w' ⟨rfl, rfl⟩
        go_wp2_with fail
        refine (rbits_walk _ x _ HX.out.2.2.1 (by have := HW.out; omega)).mono ?_
        rintro e w' ⟨rfl, rfl⟩
        go_wp2_with fail
        go_roundg k
        case measure => have := hA.out.1; omega
        case rel =>
          refine ⟨q * 2, k, by go_num, by first | rfl | go_num, ⟨rfl, by omega, ⟨x, ?_, HSK.out, HX.out.2.2.1⟩, hA.out.2.2.2⟩⟩
          have := HX.out.1
          rw [Nat.pow_succ, Nat.mul_comm (2 ^ k)] at this
          exact div_no this
      · have hsk2 : ¬ ((blen x : Nat) : Int) < (blen M : Nat) + (k : Int) := by omega
        clear hsk
        go_wp2_with fail
        refine (rbits_walk _ M _ HX.out.2.2.2 (by have := HW.out; omega)).mono ?_
        rintro e w' ⟨rfl, rfl⟩
        go_wp2_with fail
        refine (rbits_walk _ x _ HX.out.2.2.1 (by have := HW.out; omega)).mono ?_
        rintro e w' ⟨rfl, rfl⟩
        go_wp2_with fail
        refine (rleft_walk _ M k _ HX.out.2.2.2 (by omega) (by have := HW.out; omega)).mono ?_
        rintro e w1 ⟨t, rfl, ht1, hb1⟩
        have H1 := Lib.hid (And.intro ht1 (And.intro hb1 (HX.out.2.2.1.below hb1)))
        clear ht1 hb1
        go_wp2_with fail
        refine (rcompare_walk _ _ x (M * 2 ^ k) _ H1.out.2.2 H1.out.1 (by have := HW.out; omega) (by have := HW.out; have := wlen_left (N := M) (n := k); omega)).mono ?_
        rintro e w2 ⟨rfl, hb2⟩
        have H2 := Lib.hid (And.intro hb2 (And.intro (H1.out.1.below hb2) (H1.out.2.2.below hb2)))
        have HB2 := Lib.hid (hA.out.2.2.2.trans ((H1.out.2.1.mono hA.out.2.2.2.size).trans (hb2.mono (Nat.le_trans hA.out.2.2.2.size H1.out.2.1.size))))
        clear hb2
        by_cases hge : M * 2 ^ k ≤ x
        · have hc := cmpV_ge hge
          have HG := Lib.hid hge
          clear hge
          go_wp2_with fail
          refine (rless_walk _ _ x (M * 2 ^ k) _ H2.out.2.2 H2.out.2.1 HG.out (by have := HW.out; omega)).mono ?_
          rintro e w3 ⟨t3, rfl, ht3, hb3⟩
          have H3 := Lib.hid (And.intro ht3 hb3)
          clear ht3 hb3
          go_wp2_with fail
          go_roundg k
          case measure => have := hA.out.1; omega
          case rel =>
            refine ⟨q * 2 + 1, k, by go_num, by first | rfl | go_num, ⟨rfl, by omega, ⟨x - M * 2 ^ k, ?_, ?_, H3.out.1⟩, HB2.out.trans (H3.out.2.mono HB2.out.size)⟩⟩
            · have := HX.out.1
              rw [Nat.pow_succ, Nat.mul_comm (2 ^ k)] at this
              exact div_yes this HG.out
            · have h1 := HX.out.2.1
              rw [Nat.pow_succ] at h1
              have e : M * (2 ^ k * 2) = M * 2 ^ k + M * 2 ^ k := by rw [← Nat.mul_assoc]; omega
              rw [e] at h1
              have := HG.out
              omega
        · have hc := cmpV_neg hge
          have HG := Lib.hid hge
          clear hge
          go_wp2_with fail
          go_roundg k
          case measure => have := hA.out.1; omega
          case rel =>
            refine ⟨q * 2, k, by go_num, by first | rfl | go_num, ⟨rfl, by omega, ⟨x, ?_, Nat.lt_of_not_le HG.out, H2.out.2.2⟩, HB2.out⟩⟩
            have := HX.out.1
            rw [Nat.pow_succ, Nat.mul_comm (2 ^ k)] at this
            exact div_no this
end Go.Proofs.YtnpinogjajhlhaaGreatDoor.Fl
end
