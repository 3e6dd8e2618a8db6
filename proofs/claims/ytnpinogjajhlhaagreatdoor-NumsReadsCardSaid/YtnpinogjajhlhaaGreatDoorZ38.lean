/- A part of the proof that lexiconlaw03.NumsReads answers true at every kind and every text: NatM, NatT, NatB, NatC. No condition. -/
import Derived.Test.YtnpinogjajhlhaaGreatDoorZ01
import Derived.Test.YtnpinogjajhlhaaGreatDoorZ37
import Derived.Deep.DeepCutAuto
import Derived.Deep.CutBlock
section
/- A whole number in memory: a slice of words; trim, walked. -/
namespace Go.Proofs.YtnpinogjajhlhaaGreatDoor.Fl
open Go.RowKit

/-- Words in a block. -/
def WAt (w : World) (b : Nat) (g : Nat → Nat) (n : Nat) : Prop := ∀ i, i < n → w.cell? ⟨b, i, none⟩ = some (.int .u32 (g i : Nat))

/-- A slice that is a whole number. -/
def NatAt (w : World) (v : Value) (N : Nat) : Prop :=
  ∃ g n, (∀ i, i < n → g i < 4294967296) ∧ (n = 0 ∨ g (n - 1) ≠ 0) ∧ wv g n = N ∧ ((v = .slice none 0 0 ∧ n = 0) ∨ ∃ b c, v = .slice (some ⟨b, 0, none⟩) n c ∧ n ≤ c ∧ c ≤ maxLen ∧ WAt w b g n)

theorem WAt.below {w w' : World} {b : Nat} {g : Nat → Nat} {n B : Nat} (h : WAt w b g n) (hb : Below B w w') (hB : 0 < n → b < B) : WAt w' b g n := fun i hi => by
  rw [hb.cell (p := ⟨b, i, none⟩) (hB (by omega))]; exact h i hi

theorem WAt.lt {w : World} {b : Nat} {g : Nat → Nat} {n : Nat} (h : WAt w b g n) (hn : 0 < n) : b < w.heap.size := World.block_lt_of_cell? w ⟨b, 0, none⟩ (h 0 hn)

theorem NatAt.below {w w' : World} {v : Value} {N : Nat} (h : NatAt w v N) (hb : Below w.heap.size w w') : NatAt w' v N := by
  obtain ⟨g, n, h1, h2, h3, h4⟩ := h
  refine ⟨g, n, h1, h2, h3, ?_⟩
  rcases h4 with h4 | ⟨b, c, h5, h6, h7, h8⟩
  · exact Or.inl h4
  · exact Or.inr ⟨b, c, h5, h6, h7, h8.below hb fun hn => h8.lt hn⟩

theorem NatAt.drewN {w : World} {v : Value} {N : Nat} (h : NatAt w v N) (n : Nat) : NatAt (w.drewN n) v N := h.below (belowN (Below.refl _ _) n)

theorem NatAt.nil (w : World) : NatAt w (.slice none 0 0) 0 := ⟨fun _ => 0, 0, fun i hi => by omega, Or.inl rfl, rfl, Or.inl ⟨rfl, rfl⟩⟩

/-- A slice of words, noughts behind them allowed. -/
def SlAt (w : World) (v : Value) (b : Nat) (g : Nat → Nat) (n : Nat) : Prop := ∃ c, v = .slice (some ⟨b, 0, none⟩) n c ∧ n ≤ c ∧ c ≤ maxLen ∧ WAt w b g n ∧ ∀ i, i < n → g i < 4294967296

def NatPost (N : Nat) (B : Nat) (w : World) (e : Ending) (w' : World) : Prop := ∃ v, e = .returned v ∧ NatAt w' v N ∧ Below B w w'

def TrPost (N : Nat) (w : World) (e : Ending) (w' : World) : Prop := (∃ v, e = .returned v ∧ NatAt w' v N) ∧ w' = w

set_option maxRecDepth 100000 in
theorem rtrim_walk (b : Nat) (g : Nat → Nat) (n c : Nat) (w : World) (hc : n ≤ c) (hm : c ≤ maxLen) (hw : WAt w b g n) (hg : ∀ i, i < n → g i < 4294967296) :
    Calls Tryz.prog 131 #[.slice (some ⟨b, 0, none⟩) n c] w (TrPost (wv g n) w) := by
  have HW := Lib.hid hw
  have HG := Lib.hid hg
  have HC := Lib.hid (And.intro hc hm)
  have hn : (n : Int) ≤ 9223372036854775807 := by unfold maxLen at hm; omega
  clear hw hg hm
  go_enter Tryz.func131, Tryz.ntmps131
  go_wp2_with fail
  go_loopg [3] n (fun mm v wr => ∃ j : Nat, v = .int .i64 j ∧ Aside (mm = j ∧ j ≤ n ∧ wv g j = wv g n) ∧ wr = w)
  case atStart => exact ⟨n, rfl, ⟨rfl, Nat.le_refl _, rfl⟩, rfl⟩
  case round =>
    obtain ⟨j, rfl, hA, rfl⟩ := hrel
    have hjn := hA.out.2.1
    by_cases hz : j = 0
    · subst hz
      have hd : decide ((0 : Int) < ((0 : Nat) : Int)) = false := by simp
      go_wp2_with fail
      go_ret
      exact ⟨⟨_, rfl, g, 0, fun i hi => by omega, Or.inl rfl, hA.out.2.2, Or.inr ⟨b, c, rfl, Nat.zero_le _, HC.out.2, fun i hi => by omega⟩⟩, rfl⟩
    · obtain ⟨k, rfl⟩ : ∃ k, j = k + 1 := ⟨j - 1, by omega⟩
      have c1 := HW.out k (by omega)
      have hd : 0 < ((k + 1 : Nat) : Int) := by omega
      have hk : (((k + 1 : Nat) : Int) - 1) = (k : Int) := by omega
      have hk2 : (k : Int) < n := by omega
      by_cases h0 : g k = 0
      · have hb0 : (((g k : Nat) : Int) == 0) = true := by rw [h0]; rfl
        have H0 := Lib.hid h0
        clear h0 hz
        go_wp2_with fail
        go_roundg k
        case measure => have := hA.out.1; omega
        case rel =>
          refine ⟨k, ?_, ⟨rfl, by omega, ?_⟩, rfl⟩
          · first | rfl | go_num
          · rw [← hA.out.2.2, wv, H0.out, Nat.zero_mul, Nat.add_zero]
      · have hb0 : (((g k : Nat) : Int) == 0) = false := by rw [beq_eq_false_iff_ne]; omega
        have H0 := Lib.hid h0
        clear h0 hz
        go_wp2_with fail
        go_ret
        exact ⟨⟨_, rfl, g, k + 1, fun i hi => HG.out i (by omega), Or.inr H0.out, hA.out.2.2, Or.inr ⟨b, c, rfl, by omega, HC.out.2, fun i hi => HW.out i (by omega)⟩⟩, rfl⟩
end Go.Proofs.YtnpinogjajhlhaaGreatDoor.Fl
end
section
/- one, times, tens, walked. -/
namespace Go.Proofs.YtnpinogjajhlhaaGreatDoor.Fl
open Go.RowKit

theorem NatPost.mono {N B B' : Nat} {w : World} {e : Ending} {w' : World} (h : NatPost N B w e w') (hB : B' ≤ B) : NatPost N B' w e w' := by
  obtain ⟨v, h1, h2, h3⟩ := h
  exact ⟨v, h1, h2, h3.mono hB⟩

set_option maxRecDepth 100000 in
theorem rone_walk (w : World) : Calls Tryz.prog 107 #[.int .u64 1] w (NatPost 1 w.heap.size w) := by
  go_enter Tryz.func107, Tryz.ntmps107
  go_wp2_with fail
  refine (rtrim_walk _ (fun i => if i = 0 then 1 else 0) 2 2 _ (by omega) (by unfold maxLen; omega) ?_ ?_).mono ?_
  · intro i hi
    rw [World.cell?_alloc_at _ _ _ _ rfl]
    rcases (show i = 0 ∨ i = 1 by omega) with rfl | rfl <;> rfl
  · intro i hi
    show (if i = 0 then 1 else 0) < 4294967296
    split <;> decide
  · rintro e w' ⟨⟨v, rfl, hv⟩, rfl⟩
    have HV := Lib.hid hv
    clear hv
    go_wp2_with fail
    go_ret
    exact ⟨v, rfl, HV.out, (Below.refl _ _).alloc (Nat.le_refl _) _⟩

theorem u32info : (Tryz.prog.info? 33).map (fun i => (i.zero, i.size, i.bytes)) = some (some (.int .u32 0), 1, 4) := by kernel_rfl

theorem made_words {w : World} {base g n cap : Nat} (h : w.ownsRow base 33 1 (.slice (some ⟨g, 0, none⟩) n cap) n (madeCells (Value.int .u32 0).cells (n * 1)).toList) :
    WAt w g (fun _ => 0) n ∧ (∀ i, w.frozen? ⟨g, i, none⟩ = false) := by
  refine ⟨fun i hi => ?_, fun i => h.frozenAt i⟩
  rw [h.cellAt i (by omega)]
  have : (madeCells (Value.int .u32 0).cells (n * 1)).toList = List.replicate (n * 1) (.int .u32 0) := toList_madeCells_one _ _
  rw [this, List.getElem?_replicate, if_pos (by omega)]
  rfl

theorem WAt.set {w : World} {b : Nat} {g : Nat → Nat} {n : Nat} (h : WAt w b g n) {k : Nat} (x : Nat) : WAt (w.setCell ⟨b, k, none⟩ (.int .u32 (x : Nat))) b (upd g k x) n := fun i hi => by
  by_cases e : i = k
  · subst e; rw [upd_at]; exact World.cell?_setCell_same _ _ _ (h i hi)
  · rw [upd_ne _ e]; exact cell_other (h i hi) (fun x => e x.symm)

theorem frozen_set {w : World} {b : Nat} (h : ∀ i, w.frozen? ⟨b, i, none⟩ = false) (a : Addr) (v : Value) : ∀ i, (w.setCell a v).frozen? ⟨b, i, none⟩ = false := fun i => by rw [World.frozen?_setCell]; exact h i

theorem NatAt.cells {w : World} {v : Value} {N : Nat} (h : NatAt w v N) : ∃ g n ao c, v = .slice ao n c ∧ (∀ i, i < n → g i < 4294967296) ∧ (n = 0 ∨ g (n - 1) ≠ 0) ∧ wv g n = N ∧ n ≤ c ∧ c ≤ maxLen ∧ wlen N = n ∧ (n = 0 ∨ ∃ b, ao = some ⟨b, 0, none⟩ ∧ b < w.heap.size ∧ WAt w b g n) := by
  obtain ⟨g, n, h1, h2, h3, h4⟩ := h
  have hl : wlen N = n := by rw [← h3]; exact wlen_wv h1 h2
  rcases h4 with ⟨rfl, rfl⟩ | ⟨b, c, rfl, h6, h7, h8⟩
  · exact ⟨g, 0, none, 0, rfl, h1, h2, h3, Nat.le_refl _, by unfold maxLen; omega, hl, Or.inl rfl⟩
  · refine ⟨g, n, _, c, rfl, h1, h2, h3, h6, h7, hl, ?_⟩
    by_cases hn : n = 0
    · exact Or.inl hn
    · exact Or.inr ⟨b, rfl, h8.lt (by omega), h8⟩

set_option maxRecDepth 100000 in
theorem rtimes_walk (v : Value) (N m a : Nat) (w : World) (hv : NatAt w v N) (hm : m < 4294967296) (ha : a < 4294967296) (hl : wlen N ≤ 1000000) :
    Calls Tryz.prog 104 #[v, .int .u32 m, .int .u32 a] w (NatPost (N * m + a) w.heap.size w) := by
  obtain ⟨g, n, ao, c, rfl, hg, -, hN, hnc, hcm, hwl, hcase⟩ := hv.cells
  rw [hwl] at hl
  have HG := Lib.hid hg
  have HC := Lib.hid hcase
  have HN := Lib.hid hN
  have HM : Hid (m < 4294967296 ∧ a < 4294967296) := ⟨hm, ha⟩
  have hm2 : (m : Int) ≤ 4294967295 := by omega
  have ha2 : (a : Int) ≤ 4294967295 := by omega
  obtain ⟨i0, hi, hz0, hz1, hz2⟩ := info_parts u32info
  clear hv hg hwl hN hcase hm ha hnc hcm
  go_enter Tryz.func104, Tryz.ntmps104
  go_wp2_with (at_make; refine wpList_make_full _ rfl _ _ 124 rfl w.heap.size 33 i0 (.int .u32 0) 1 Tryz.underlying124 hi hz0 hz1 .i64 .i64 _ _ (n + 1) rfl rfl (by omega) (by omega) (by rw [hz2]; omega) (by unfold maxLen; omega) (Nat.le_refl _) ?_; intro w1 hown1 hgrow1)
  obtain ⟨hW, hF⟩ := made_words hown1
  have HB := Lib.hid ((Below.refl w.heap.size w).grown hgrow1 (Nat.le_refl _) (fun k hk => by cases hk))
  obtain ⟨BB, hBB⟩ : ∃ BB, w.heap.size = BB := ⟨_, rfl⟩
  rw [hBB] at hW hF HB HC ⊢
  have HBB := Lib.hid hBB
  have h0 : Hid (WAt w1 BB (fun _ => 0) (n + 1) ∧ (∀ i, w1.frozen? ⟨BB, i, none⟩ = false)) := ⟨hW, hF⟩
  clear hW hF hBB hown1 hgrow1
  go_wp2_with fail
  go_loopg [8, 9] n (fun mm cv iv wr => ∃ (h : Nat → Nat) (k cy : Nat), cv = .int .u64 cy ∧ iv = .int .i64 k ∧ Aside (mm = n - k ∧ k ≤ n ∧ cy < 4294967296 ∧ wv h k + cy * 4294967296 ^ k = wv g k * m + a ∧ (∀ j, j < n + 1 → h j < 4294967296) ∧ WAt wr BB h (n + 1) ∧ (∀ i, wr.frozen? ⟨BB, i, none⟩ = false) ∧ Below BB w wr))
  case atStart =>
    refine ⟨fun _ => 0, 0, a, rfl, rfl, ⟨rfl, by omega, HM.out.2, ?_, fun j hj => (by decide : (0 : Nat) < 4294967296), h0.out.1, h0.out.2, HB.out⟩⟩
    show wv _ 0 + a * 4294967296 ^ 0 = wv g 0 * m + a
    simp [wv]
  case round =>
    obtain ⟨h, k, cy, rfl, rfl, hA⟩ := hrel
    have hcy : (cy : Int) ≤ 4294967295 := by have := hA.out.2.2.1; omega
    have hkn := hA.out.2.1
    by_cases hl : k < n
    · have hlt : (k : Int) < n := by omega
      obtain ⟨b, hb1, hb2, hb3⟩ := HC.out.resolve_left (by omega)
      obtain ⟨z, hz⟩ : ∃ z, g k = z := ⟨_, rfl⟩
      have hgk : z < 4294967296 := by rw [← hz]; exact HG.out k hl
      have hp := times_carry hA.out.2.2.1 hgk HM.out.1
      have hz2 : (z : Int) ≤ 4294967295 := by omega
      have hpc : (z : Int) * (m : Int) = ((z * m : Nat) : Int) := by push_cast; rfl
      have hp1 : 0 ≤ (z : Int) * (m : Int) := by omega
      have hp2 : (z : Int) * (m : Int) ≤ 18446744073709551615 := by have := hp.2.2; omega
      have hp3 : (cy : Int) + (z : Int) * (m : Int) ≤ 18446744073709551615 := by have := hp.2.1; omega
      have hcell : wr.cell? ⟨b, k, none⟩ = some (.int .u32 (z : Nat)) := by rw [← hz]; exact (hA.out.2.2.2.2.2.2.2.cell (p := ⟨b, k, none⟩) hb2).trans (hb3 k hl)
      have hcell2 := hA.out.2.2.2.2.2.1 k (by omega)
      have hfr := hA.out.2.2.2.2.2.2.1 k
      have HP := Lib.hid (And.intro hz (And.intro hgk (And.intro hpc hp)))
      clear hgk hp hb2 hb3 hz hpc
      subst hb1
      go_wp2_with fail
      go_roundg (n - (k + 1))
      case measure => have := hA.out.1; omega
      case rel =>
        have hq : ((cy : Int) + (z : Int) * (m : Int)) / 4294967296 = (((cy + z * m) / 4294967296 : Nat) : Int) := by have := HP.out.2.2.1; omega
        have hr : ((cy : Int) + (z : Int) * (m : Int)) % 4294967296 = (((cy + z * m) % 4294967296 : Nat) : Int) := by have := HP.out.2.2.1; omega
        rw [hq, hr]
        have hstep := times_step HP.out.1.symm hA.out.2.2.2.1
        exact ⟨upd h k ((cy + z * m) % 4294967296), k + 1, _, rfl, by go_num, ⟨rfl, by omega, HP.out.2.2.2.1, hstep, upd_lt (Nat.mod_lt _ (by decide)) hA.out.2.2.2.2.1, hA.out.2.2.2.2.2.1.set _, frozen_set hA.out.2.2.2.2.2.2.1 _ _, hA.out.2.2.2.2.2.2.2.setCell (Nat.le_refl _) _⟩⟩
    · obtain rfl : k = n := by omega
      have hcell2 := hA.out.2.2.2.2.2.1 k (by omega)
      have hfr := hA.out.2.2.2.2.2.2.1 k
      go_wp2_with fail
      have hend := times_end hA.out.2.2.2.1
      have HE := Lib.hid hend
      refine (rtrim_walk BB (upd h k cy) (k + 1) (k + 1) _ (Nat.le_refl _) (by unfold maxLen; omega) (hA.out.2.2.2.2.2.1.set _) (upd_lt hA.out.2.2.1 hA.out.2.2.2.2.1)).mono ?_
      rintro e w' ⟨⟨v, rfl, hv⟩, rfl⟩
      have HV := Lib.hid hv
      clear hv hend
      go_wp2_with fail
      go_ret
      refine ⟨v, rfl, ?_, by rw [HBB.out]; exact hA.out.2.2.2.2.2.2.2.setCell (Nat.le_refl _) _⟩
      have := HV.out
      rw [HE.out, HN.out] at this
      exact this

set_option maxRecDepth 100000 in
theorem rtens_walk (v : Value) (N n : Nat) (w : World) (hv : NatAt w v N) (hl : wlen N + n ≤ 1000000) :
    Calls Tryz.prog 106 #[v, .int .i64 n] w (NatPost (N * 10 ^ n) w.heap.size w) := by
  have HV := Lib.hid hv
  have HL := Lib.hid hl
  have hn : (n : Int) ≤ 1000000 := by omega
  clear hv hl
  go_enter Tryz.func106, Tryz.ntmps106
  go_wp2_with fail
  go_loopg [0, 5] n (fun mm xv iv wr => ∃ k : Nat, iv = .int .i64 k ∧ Aside (mm = n - k ∧ k ≤ n ∧ NatAt wr xv (N * 10 ^ k) ∧ wlen (N * 10 ^ k) ≤ wlen N + k ∧ Below w.heap.size w wr))
  case atStart => exact ⟨0, rfl, ⟨rfl, Nat.zero_le _, by rw [Nat.pow_zero, Nat.mul_one]; exact HV.out, by rw [Nat.pow_zero, Nat.mul_one]; exact Nat.le_refl _, Below.refl _ _⟩⟩
  case round =>
    rename_i xv _
    obtain ⟨k, rfl, hA⟩ := hrel
    have hkn := hA.out.2.1
    by_cases hlt : k < n
    · have hl : (k : Int) < n := by omega
      go_wp2_with fail
      refine (rtimes_walk _ (N * 10 ^ k) 10 0 _ hA.out.2.2.1 (by decide) (by decide) (by have := hA.out.2.2.2.1; have := HL.out; omega)).mono ?_
      rintro e w' ⟨v2, rfl, hv2, hb2⟩
      have HV2 := Lib.hid (And.intro hv2 hb2)
      clear hv2 hb2
      go_wp2_with fail
      go_roundg (n - (k + 1))
      case measure => have := hA.out.1; omega
      case rel =>
        have e1 : N * 10 ^ k * 10 + 0 = N * 10 ^ (k + 1) := by rw [Nat.add_zero, Nat.pow_succ, Nat.mul_assoc]
        have h1 := HV2.out.1
        have h2 := wlen_times (N := N * 10 ^ k) (m := 10) (a := 0) (by decide) (by decide)
        rw [e1] at h1 h2
        have h3 := hA.out.2.2.2.1
        exact ⟨k + 1, by go_num, ⟨rfl, by omega, h1, by omega, hA.out.2.2.2.2.trans (HV2.out.2.mono hA.out.2.2.2.2.size)⟩⟩
    · obtain rfl : k = n := by omega
      go_wp2_with fail
      go_ret
      exact ⟨_, rfl, hA.out.2.2.1, hA.out.2.2.2.2⟩
end Go.Proofs.YtnpinogjajhlhaaGreatDoor.Fl
end
section
/- bits and compare of whole numbers, walked. -/
namespace Go.Proofs.YtnpinogjajhlhaaGreatDoor.Fl
open Go.RowKit

theorem beq_nat0 {n : Nat} (h : n ≠ 0) : (((n : Nat) : Int) == 0) = false := by rw [beq_eq_false_iff_ne]; omega

set_option maxRecDepth 100000 in
theorem rbits_walk (v : Value) (N : Nat) (w : World) (hv : NatAt w v N) (hl : wlen N ≤ 100000000) :
    Calls Tryz.prog 132 #[v] w (IntEndU .i64 (blen N : Nat) w) := by
  obtain ⟨g, n, ao, c, rfl, hg, ht, hN, hnc, hcm, hwl, hcase⟩ := hv.cells
  rw [hwl] at hl
  by_cases hn : n = 0
  · subst hn
    have h0 : N = 0 := by rw [← hN]; rfl
    subst h0
    have hbe : (((0 : Nat) : Int) == 0) = true := rfl
    clear hv hcase hN hwl ht
    go_enter Tryz.func132, Tryz.ntmps132
    go_wp2_with fail
    go_ret
    exact ⟨rfl, rfl⟩
  · obtain ⟨k, rfl⟩ : ∃ k, n = k + 1 := ⟨n - 1, by omega⟩
    have ht0 : g k ≠ 0 := ht.resolve_left hn
    obtain ⟨b, rfl, hb2, hb3⟩ := hcase.resolve_left hn
    have hbe := beq_nat0 hn
    have hk : (((k + 1 : Nat) : Int) - 1) = (k : Int) := by omega
    have hcell := hb3 k (by omega)
    obtain ⟨z, hz⟩ : ∃ z, g k = z := ⟨_, rfl⟩
    have hbl := blen_wv hg ht0
    have hgz := hg k (by omega)
    rw [hz] at hbl ht0 hgz hcell
    rw [hN] at hbl
    have HB := Lib.hid (And.intro hbl hgz)
    have hz2 : (z : Int) ≤ 4294967295 := by omega
    have hk2 : (k : Int) ≤ 100000000 := by omega
    clear hv hcase hN hwl ht hb3 hg hbl hgz hz hn ht0
    go_enter Tryz.func132, Tryz.ntmps132
    go_wp2_with fail
    go_loopg [3, 4] z (fun mm nv tv wr => ∃ j t : Nat, nv = .int .i64 j ∧ tv = .int .u32 t ∧ Aside (mm = t ∧ t ≤ z ∧ j + blen t = blen N ∧ blen N ≤ 4000000000) ∧ wr = w)
    case atStart =>
      have h1 := HB.out.1
      have h2 : blen z ≤ 32 := by
        have h3 := wlen_le (N := z) (n := 1) (by have := HB.out.2; omega)
        have := blen_wlen z; omega
      exact ⟨32 * k, z, by go_num, rfl, ⟨rfl, Nat.le_refl _, h1.symm, by omega⟩, rfl⟩
    case round =>
      obtain ⟨j, t, rfl, rfl, hA, rfl⟩ := hrel
      have ht1 := hA.out.2.1
      have ht2 : (t : Int) ≤ 4294967295 := by omega
      by_cases h0 : t = 0
      · subst h0
        have hd : decide ((0 : Int) < ((0 : Nat) : Int)) = false := by simp
        have hj := hA.out.2.2.1
        rw [blen_zero, Nat.add_zero] at hj
        have HJ := Lib.hid hj
        clear hj
        go_wp2_with fail
        go_ret
        exact ⟨by rw [← HJ.out]; rfl, rfl⟩
      · have hd : 0 < (t : Int) := by omega
        have hb := blen_half h0
        have hj : (j : Int) ≤ 4000000000 := by have := hA.out.2.2; omega
        have HJ := Lib.hid (And.intro hb h0)
        clear hb h0
        go_wp2_with fail
        go_roundg (t / 2)
        case measure => have := hA.out.1; have := HJ.out.2; omega
        case rel =>
          have h1 := HJ.out.1
          have h2 := hA.out
          exact ⟨j + 1, t / 2, by go_num, by first | rfl | go_num, ⟨rfl, by omega, by omega, h2.2.2.2⟩, rfl⟩
end Go.Proofs.YtnpinogjajhlhaaGreatDoor.Fl
end
section
/- compare of whole numbers, walked. -/
namespace Go.Proofs.YtnpinogjajhlhaaGreatDoor.Fl
open Go.RowKit

def cmpV (N M : Nat) : Int := if N < M then -1 else if N = M then 0 else 1
def CmpPost (N M : Nat) (B : Nat) (w : World) (e : Ending) (w' : World) : Prop := e = .returned (.int .i64 (cmpV N M)) ∧ Below B w w'

theorem cmpV_lt {N M : Nat} (h : N < M) : cmpV N M = -1 := if_pos h
theorem cmpV_gt {N M : Nat} (h : M < N) : cmpV N M = 1 := by unfold cmpV; rw [if_neg (by omega), if_neg (by omega)]
theorem cmpV_eq (N : Nat) : cmpV N N = 0 := by unfold cmpV; rw [if_neg (by omega), if_pos rfl]

set_option maxRecDepth 100000 in
theorem rcompare_walk (u v : Value) (N M : Nat) (w : World) (hu : NatAt w u N) (hv : NatAt w v M) (hl : wlen N ≤ 100000000) (hl2 : wlen M ≤ 100000000) :
    Calls Tryz.prog 135 #[u, v] w (CmpPost N M w.heap.size w) := by
  obtain ⟨g, n, ao, c, rfl, hg, ht, hN, hnc, hcm, hwl, hcase⟩ := hu.cells
  obtain ⟨h, m, ao2, c2, rfl, hg2, ht2, hM, hnc2, hcm2, hwl2, hcase2⟩ := hv.cells
  rw [hwl] at hl
  rw [hwl2] at hl2
  have hln : (n : Int) ≤ 100000000 := by omega
  by_cases hnm : n = m
  · subst hnm
    have hb0 : (((n : Nat) : Int) != ((n : Nat) : Int)) = false := by simp
    have HC := Lib.hid (And.intro hcase hcase2)
    have HG := Lib.hid (And.intro hg hg2)
    have HN := Lib.hid (And.intro hN hM)
    clear hcase hcase2 hg hg2 hN hM hwl hwl2 ht ht2 hu hv hnc hnc2 hcm hcm2 hl hl2
    go_enter Tryz.func135, Tryz.ntmps135
    go_wp2_with fail
    go_loopg [5] n (fun mm iv wr => ∃ i : Int, iv = .int .i64 i ∧ Aside (mm = (i + 1).toNat ∧ -1 ≤ i ∧ i < n ∧ (∀ k : Nat, i < k → k < n → g k = h k) ∧ Below w.heap.size w wr))
    case atStart => exact ⟨_, rfl, ⟨by omega, by omega, by omega, fun k h1 h2 => by omega, Below.refl _ _⟩⟩
    case round =>
      obtain ⟨i, rfl, hA⟩ := hrel
      have hi1 := hA.out.2.1
      have hi2 := hA.out.2.2.1
      by_cases h0 : i < 0
      · go_wp2_with fail
        go_ret
        refine ⟨?_, hA.out.2.2.2.2⟩
        have he : wv g n = wv h n := wv_congr fun k hk => hA.out.2.2.2.1 k (by omega) hk
        rw [← HN.out.1, ← HN.out.2, he, cmpV_eq]
        rfl
      · obtain ⟨k, rfl⟩ : ∃ k : Nat, i = k := ⟨i.toNat, by omega⟩
        have hkn : k < n := by omega
        obtain ⟨b, hb1, hb2, hb3⟩ := HC.out.1.resolve_left (by omega)
        obtain ⟨b', hb1', hb2', hb3'⟩ := HC.out.2.resolve_left (by omega)
        obtain ⟨x, hx⟩ : ∃ x, g k = x := ⟨_, rfl⟩
        obtain ⟨y, hy⟩ : ∃ y, h k = y := ⟨_, rfl⟩
        have hcell : wr.cell? ⟨b, k, none⟩ = some (.int .u32 (x : Nat)) := by rw [← hx]; exact (hA.out.2.2.2.2.cell (p := ⟨b, k, none⟩) hb2).trans (hb3 k hkn)
        have hcell' : wr.cell? ⟨b', k, none⟩ = some (.int .u32 (y : Nat)) := by rw [← hy]; exact (hA.out.2.2.2.2.cell (p := ⟨b', k, none⟩) hb2').trans (hb3' k hkn)
        have HX := Lib.hid (And.intro hx hy)
        clear hx hy hb2 hb3 hb2' hb3'
        subst hb1
        subst hb1'
        by_cases hxy : x = y
        · have hq : (((x : Nat) : Int) != ((y : Nat) : Int)) = false := by rw [hxy]; simp
          have HXY := Lib.hid hxy
          clear hxy
          go_wp2_with fail
          go_quiet (fail)
          go_wp2_with fail
          go_roundg k
          case measure => have := hA.out.1; omega
          case rel =>
            refine ⟨_, rfl, ⟨by omega, by omega, by omega, fun j h1 h2 => ?_, ?_⟩⟩
            · by_cases e : j = k
              · subst e; rw [HX.out.1, HX.out.2]; exact HXY.out
              · exact hA.out.2.2.2.1 j (by omega) h2
            · first | exact hA.out.2.2.2.2 | exact belowN hA.out.2.2.2.2 _
        · have hq : (((x : Nat) : Int) != ((y : Nat) : Int)) = true := by rw [bne_iff_ne]; omega
          have key : ∀ r : Bool, decide (x < y) = r → cmpV N M = if r = true then -1 else 1 := fun r hr => by
            rw [← HN.out.1, ← HN.out.2]
            have h1 : ∀ j, j < k → g j < 4294967296 := fun j hj => HG.out.1 j (by omega)
            have h2 : ∀ j, j < k → h j < 4294967296 := fun j hj => HG.out.2 j (by omega)
            have h3 : ∀ j, k < j → j < n → g j = h j := fun j e1 e2 => hA.out.2.2.2.1 j (by omega) e2
            cases r with
            | true =>
              have := of_decide_eq_true hr
              rw [if_pos rfl]
              exact cmpV_lt (wv_cmp hkn h1 h3 (by rw [HX.out.1, HX.out.2]; exact this))
            | false =>
              have := of_decide_eq_false hr
              rw [if_neg (by decide)]
              exact cmpV_gt (wv_cmp hkn h2 (fun j e1 e2 => (h3 j e1 e2).symm) (by rw [HX.out.1, HX.out.2]; omega))
          have HK := Lib.hid key
          have HXY := Lib.hid hxy
          clear hxy key
          by_cases hlt : x < y
          · have hq2 : (x : Int) < (y : Int) := by omega
            have HV := Lib.hid (HK.out true (decide_eq_true hlt))
            rw [if_pos rfl] at HV
            clear hlt
            go_wp2_with fail
            go_quiet (fail)
            go_wp2_with fail
            go_quiet (fail)
            go_wp2_with fail
            go_ret
            exact ⟨by rw [HV.out]; rfl, by first | exact hA.out.2.2.2.2 | exact belowN hA.out.2.2.2.2 _ | exact belowN (belowN hA.out.2.2.2.2 _) _⟩
          · have hq2 : ¬ (x : Int) < (y : Int) := by omega
            have hq3 : (y : Int) ≤ (x : Int) := by omega
            have HV := Lib.hid (HK.out false (decide_eq_false hlt))
            rw [if_neg (by decide)] at HV
            clear hlt
            go_wp2_with fail
            go_quiet (fail)
            go_wp2_with fail
            go_quiet (fail)
            go_wp2_with fail
            go_ret
            exact ⟨by rw [HV.out]; rfl, by first | exact hA.out.2.2.2.2 | exact belowN hA.out.2.2.2.2 _ | exact belowN (belowN hA.out.2.2.2.2 _) _⟩
  · have hb0 : (((n : Nat) : Int) != ((m : Nat) : Int)) = true := by rw [bne_iff_ne]; omega
    by_cases hlt : n < m
    · have hq2 : (n : Int) < (m : Int) := by omega
      have HV : Hid (cmpV N M = -1) := by
        rw [← hN, ← hM]
        exact cmpV_lt (wv_short hg (ht2.resolve_left (by omega)) hlt)
      clear hcase hcase2 hg hg2 hN hM hwl hwl2 ht ht2 hu hv hnc hnc2 hcm hcm2 hl hl2 hnm hlt
      go_enter Tryz.func135, Tryz.ntmps135
      go_wp2_with fail
      go_ret
      exact ⟨by rw [HV.out]; rfl, Below.refl _ _⟩
    · have hq2 : ¬ (n : Int) < (m : Int) := by omega
      have hq3 : (m : Int) ≤ (n : Int) := by omega
      have HV : Hid (cmpV N M = 1) := by
        rw [← hN, ← hM]
        exact cmpV_gt (wv_short hg2 (ht.resolve_left (by omega)) (by omega))
      clear hcase hcase2 hg hg2 hN hM hwl hwl2 ht ht2 hu hv hnc hnc2 hcm hcm2 hl hl2 hnm hlt
      go_enter Tryz.func135, Tryz.ntmps135
      go_wp2_with fail
      go_ret
      exact ⟨by rw [HV.out]; rfl, Below.refl _ _⟩
end Go.Proofs.YtnpinogjajhlhaaGreatDoor.Fl
end
