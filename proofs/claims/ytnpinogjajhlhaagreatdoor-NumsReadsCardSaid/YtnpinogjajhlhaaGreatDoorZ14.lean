/- A part of the proof that lexiconlaw03.NumsReads answers true at every kind and every text: DwRight, DwLess. No condition. -/
import Derived.Test.YtnpinogjajhlhaaGreatDoorZ01
import Derived.Test.YtnpinogjajhlhaaGreatDoorZ08
import Derived.Test.YtnpinogjajhlhaaGreatDoorZ13
import Derived.Test.YtnpinogjajhlhaaGreatDoorZ09
import Derived.Deep.DeepCutAuto
import Derived.Deep.CutBlock
section
/- rightShift, walked. -/
namespace Go.Proofs.YtnpinogjajhlhaaGreatDoor.Fl
open Go.RowKit

/-- What the first loop of rightShift leaves: r digits picked up, n of them. -/
def Rs1 (g : Nat → Nat) (nd k : Nat) (r n : Value) : Prop :=
  ∃ j z : Nat, r = .int .i64 j ∧ n = .int .u64 z ∧ 1 ≤ j ∧ j ≤ nd + 30 ∧ z = num g (min j nd) * 10 ^ (j - nd) ∧ 2 ^ k ≤ z ∧ z < 10 * 2 ^ k

/-- What rightShift leaves. -/
def RightPost (b : Nat) (g : Nat → Nat) (nd : Nat) (dp : Int) (neg tr : Bool) (k B : Nat) (w : World) (e : Ending) (w' : World) : Prop :=
  e = .returned (.tuple #[]) ∧ ∃ (a' : Nat → Int) (q : Nat → Nat) (nd' : Nat) (dp' : Int) (lost : Bool) (X W M : Nat),
    DecAt w' b a' nd' dp' neg (tr || lost) ∧ Dig a' q nd' ∧ Cut X W (num q nd') nd' lost ∧ 1 ≤ nd' ∧ q 0 ≠ 0 ∧ q (nd' - 1) ≠ 0 ∧
    num g nd * 10 ^ M = X * 10 * 2 ^ k ∧ dp' - W = dp - nd - M + 1 ∧ dp' ≤ dp ∧ dp - 30 ≤ dp' ∧ M ≤ 100 ∧ Below B w w'

theorem picked {g : Nat → Nat} {nd j z k : Nat} (hg0 : g 0 ≠ 0) (hpos : 0 < nd) (hj : 1 ≤ j) (hz : z = num g (min j nd) * 10 ^ (j - nd)) (hlt : z < 10 * 2 ^ k) (hK : 2 ^ k ≤ 1152921504606846976) : j ≤ 20 := by
  have h1 : 10 ^ (j - 1) ≤ z := by
    rw [hz]
    have h2 := num_ge (a := g) (w := min j nd) hg0 (by omega)
    have h3 : 10 ^ (j - 1) = 10 ^ (min j nd - 1) * 10 ^ (j - nd) := by rw [← Nat.pow_add]; congr 1; omega
    rw [h3]; exact Nat.mul_le_mul_right _ h2
  refine Nat.le_of_not_lt fun hgt => ?_
  have h4 : 10 ^ 20 ≤ 10 ^ (j - 1) := Nat.pow_le_pow_right (by omega) (by omega)
  have h5 : (10 : Nat) ^ 20 = 100000000000000000000 := by decide
  omega

set_option maxHeartbeats 4000000 in
set_option maxRecDepth 100000 in
theorem right_walk (b : Nat) (a : Nat → Int) (g : Nat → Nat) (nd : Nat) (dp : Int) (neg tr : Bool) (k : Nat) (w : World) (hnd : nd ≤ 800) (hpos : 0 < nd) (hk : 1 ≤ k) (hk2 : k ≤ 60) (h : DecAt w b a nd dp neg tr)
   (hg : Dig a g nd) (hg0 : g 0 ≠ 0) (hdp1 : -100000 ≤ dp) (hdp2 : dp ≤ 100000) (B : Nat) (hB : B ≤ b) :
    Calls Tryz.prog 193 #[.pointer (some ⟨b, 0, none⟩), .int .u64 k] w (RightPost b g nd dp neg tr k B w) := by
  have c0 := h.nd
  have A0 : Aside (DecAt w b a nd dp neg tr ∧ Dig a g nd ∧ g 0 ≠ 0) := ⟨h, hg, hg0⟩
  clear h hg hg0
  have hK : (2 : Nat) ^ k ≤ 2 ^ 60 := Nat.pow_le_pow_right (by omega) hk2
  have hK60 : (2 : Nat) ^ 60 = 1152921504606846976 := by decide
  have hKpos : 0 < (2 : Nat) ^ k := Nat.two_pow_pos k
  have AK : Hid (2 ^ k ≤ 1152921504606846976 ∧ 0 < (2 : Nat) ^ k) := ⟨by omega, hKpos⟩
  clear hK hK60 hKpos
  go_enter Tryz.func193, Tryz.ntmps193
  go_upto_block 0 with (fail)
  go_cut [4, 6, 7] (fun r n c wc => wc = w ∧ Rs1 g nd k r n)
  case first =>
    go_wp2_with fail
    go_loopg [4, 6, 7] (nd + 1) (fun m r n c wr => wr = w ∧ ∃ j z : Nat, r = .int .i64 j ∧ n = .int .u64 z ∧ Aside (j ≤ nd ∧ m = nd + 1 - j ∧ z = num g j ∧ z < 10 * 2 ^ k))
    case atStart => exact ⟨rfl, 0, 0, rfl, rfl, by omega, rfl, rfl, by have := AK.out; omega⟩
    case round =>
      obtain ⟨hw, j, z, rfl, rfl, hA⟩ := hrel
      obtain rfl := hw.symm
      have hzK := hA.out.2.2.2
      have hAK := AK.out
      have hz10 : (z : Int) < 11529215046068469760 := by omega
      by_cases hlt : z < 2 ^ k
      · have t1 : ((z : Int) / 2 ^ k == 0) = true := by
          rw [beq_iff_eq]; exact_mod_cast Nat.div_eq_of_lt hlt
        by_cases hj : j < nd
        · have hd := (A0.out.2.1 j hj).1
          have hd9 := (A0.out.2.1 j hj).2
          have c1 : w.cell? ⟨b, j, none⟩ = some (.int .u8 (48 + (g j : Int))) := by rw [← hd]; exact A0.out.1.dig j (by omega)
          have hd9' : (g j : Int) ≤ 9 := by omega
          have hz60 : (z : Int) ≤ 1152921504606846976 := by omega
          have hj8 : (j : Int) < 800 := by omega
          have HL : Hid (z < 2 ^ k) := hlt
          clear hzK hAK hlt hd hd9 hz10
          go_wp2
          go_roundg (nd + 1 - (j + 1))
          case measure => have := hA.out.2.1; omega
          case rel => exact ⟨rfl, j + 1, 10 * z + g j, by go_num, congrArg (Value.int .u64) (by push_cast; omega), by omega, rfl, by rw [num, ← hA.out.2.2.1], by have := HL.out; omega⟩
        · have hje : j = nd := by have := hA.out.1; omega
          have hz0 : 0 < z := by
            have h1 := num_ge (a := g) (w := nd) A0.out.2.2 hpos
            have h2 : 0 < 10 ^ (nd - 1) := Nat.pow_pos (by omega)
            have h3 := hA.out.2.2.1
            rw [hje] at h3; omega
          have t2 : ((z : Int) == 0) = false := by rw [beq_eq_false_iff_ne]; omega
          have hjn : (nd : Int) ≤ j := by omega
          have hj8 : (j : Int) ≤ 800 := by omega
          have HL : Hid (z < 2 ^ k ∧ j = nd ∧ 0 < z) := ⟨hlt, hje, hz0⟩
          clear hzK hAK hlt hje hz10 hj
          go_wp2_with fail
          go_loopg [4, 6] (62 : Nat) (fun m r n wr => wr = w ∧ ∃ i : Nat, r = .int .i64 ((j + i : Nat) : Int) ∧ n = .int .u64 ((z * 10 ^ i : Nat) : Int) ∧ Aside (m = 62 - i ∧ (i = 0 ∨ z * 10 ^ (i - 1) < 2 ^ k) ∧ i ≤ 20))
          case atStart => exact ⟨rfl, 0, rfl, by simp, by omega, Or.inl rfl, by omega⟩
          case round =>
            obtain ⟨hw, i, rfl, rfl, hI⟩ := hrel
            obtain rfl := hw.symm
            have hAK := AK.out
            have hz2 := HL.out
            by_cases hy : z * 10 ^ i < 2 ^ k
            · have t3 : (((z * 10 ^ i : Nat) : Int) / 2 ^ k == 0) = true := by
                rw [beq_iff_eq]; exact_mod_cast Nat.div_eq_of_lt hy
              have hi20 : i < 20 := by
                refine Nat.lt_of_not_le fun hge => ?_
                have h1 : 10 ^ 20 ≤ 10 ^ i := Nat.pow_le_pow_right (by omega) hge
                have h2 : 1 * 10 ^ i ≤ z * 10 ^ i := Nat.mul_le_mul_right _ hz2.2.2
                have h3 : (10 : Nat) ^ 20 = 100000000000000000000 := by decide
                omega
              have HY : Hid (z * 10 ^ i < 2 ^ k ∧ i < 20) := ⟨hy, hi20⟩
              have hy60 : ((z * 10 ^ i : Nat) : Int) ≤ 1152921504606846976 := by omega
              have hji : ((j + i : Nat) : Int) ≤ 820 := by omega
              have hs : Hid (z * 10 ^ (i + 1) = z * 10 ^ i * 10) := Lib.hid (by rw [Nat.pow_succ, Nat.mul_assoc])
              clear hy hi20 hz2 hAK hj8 hjn
              generalize hY : z * 10 ^ i = y at *
              generalize hJ : j + i = jj at *
              have HJY : Hid (z * 10 ^ i = y ∧ j + i = jj) := ⟨hY, hJ⟩
              clear hY hJ
              go_wp2
              go_roundg (62 - (i + 1))
              case measure => have := hI.out.1; have := HY.out.2; omega
              case rel => exact ⟨rfl, i + 1, by rw [← HJY.out.2]; go_num, by rw [hs.out]; exact congrArg (Value.int .u64) (by push_cast; omega), rfl, Or.inr (by rw [Nat.add_sub_cancel, HJY.out.1]; exact HY.out.1), by have := HY.out.2; omega⟩
            · have t3 : (((z * 10 ^ i : Nat) : Int) / 2 ^ k == 0) = false := by
                rw [beq_eq_false_iff_ne]; intro he
                have : z * 10 ^ i / 2 ^ k = 0 := by exact_mod_cast he
                rw [Nat.div_eq_zero_iff] at this; omega
              have HY : Hid (¬ z * 10 ^ i < 2 ^ k) := hy
              clear hy hz2 hAK hj8 hjn
              generalize hY : z * 10 ^ i = y at *
              generalize hJ : j + i = jj at *
              have HJY : Hid (z * 10 ^ i = y ∧ j + i = jj) := ⟨hY, hJ⟩
              clear hY hJ
              go_wp2_with fail
              go_meet
              case rel =>
                obtain ⟨rfl, rfl⟩ := HJY.out
                refine ⟨rfl, j + i, z * 10 ^ i, rfl, rfl, ?_, ?_, ?_, ?_, ?_⟩
                · have := HL.out; omega
                · have := HL.out; have := hI.out; omega
                · have h1 := HL.out
                  rw [hA.out.2.2.1, h1.2.1, show min (nd + i) nd = nd from by omega, show nd + i - nd = i from by omega]
                · have := HY.out; omega
                · rcases hI.out.2.1 with h0 | h0
                  · subst h0; have := hA.out.2.2.2; simpa using this
                  · have h1 := HY.out
                    obtain ⟨i', rfl⟩ : ∃ i', i = i' + 1 := ⟨i - 1, by
                      have := HL.out
                      by_cases hi0 : i = 0
                      · subst hi0; simp at h1; omega
                      · omega⟩
                    rw [Nat.add_sub_cancel] at h0
                    rw [Nat.pow_succ, ← Nat.mul_assoc]; omega
      · have t1 : ((z : Int) / 2 ^ k == 0) = false := by
          rw [beq_eq_false_iff_ne]; intro he
          have : z / 2 ^ k = 0 := by exact_mod_cast he
          rw [Nat.div_eq_zero_iff] at this; omega
        have HL : Hid (¬ z < 2 ^ k) := hlt
        clear hzK hAK hlt hz10
        go_wp2_with fail
        go_meet
        case rel =>
          have h1 := hA.out
          have h2 := HL.out
          have hj0 : j ≠ 0 := fun h0 => by
            subst h0
            have h3 := h1.2.2.1
            have h4 : num g 0 = 0 := rfl
            have := AK.out.2
            omega
          exact ⟨rfl, j, z, rfl, rfl, by omega, by omega, by rw [show min j nd = j from by omega, show j - nd = 0 from by omega, Nat.pow_zero, Nat.mul_one]; exact h1.2.2.1, by omega, h1.2.2.2⟩
  case rest =>
    obtain ⟨hw, j, z, rfl, rfl, h1, h2, h3, h4, h5⟩ := hcut
    obtain rfl := hw.symm
    have H1 : Hid (1 ≤ j ∧ j ≤ nd + 30 ∧ z = num g (min j nd) * 10 ^ (j - nd) ∧ 2 ^ k ≤ z ∧ z < 10 * 2 ^ k) := ⟨h1, h2, h3, h4, h5⟩
    clear h2 h3 h4 h5
    have c1 := A0.out.1.dp
    have f1 := A0.out.1.fr 801
    have hj8 : (j : Int) ≤ 830 := by have := H1.out; omega
    have hmask : ∃ m : Int, IntKind.u64.wrap (IntKind.u64.wrap ((2 : Int) ^ k) - 1) = m ∧ m = 2 ^ k - 1 := ⟨_, rfl, by
      have h1 := AK.out
      have h2 : ((2 ^ k : Nat) : Int) = (2 : Int) ^ k := by push_cast; rfl
      rw [← h2]
      have h3 : IntKind.u64.wrap ((2 ^ k : Nat) : Int) = ((2 ^ k : Nat) : Int) := IntWalk.u64_in _ ⟨by omega, by omega⟩
      rw [h3]
      exact IntWalk.u64_in _ ⟨by omega, by omega⟩⟩
    obtain ⟨m, hm1, hm2⟩ := hmask
    have HM2 := Lib.hid hm2
    clear hm2
    go_upto_block 4 with (fail)
    clear hm1
    go_wp2_with fail
    go_loopg [4, 5, 6, 9, 10] (nd - j) (fun cnt r wv n c dg wr => ∃ (W z : Nat) (a' : Nat → Int) (q : Nat → Nat) (X : Nat), r = .int .i64 ((j + W : Nat) : Int) ∧ wv = .int .i64 W ∧ n = .int .u64 z ∧
      Aside (cnt = nd - (j + W) ∧ (W = 0 ∨ j + W ≤ nd) ∧ Put g q nd k j W z (j - nd) X false ∧ DecAt wr b a' nd (dp - (j - 1)) neg tr ∧ Dig a' q W ∧ (∀ i, W ≤ i → i < nd → a' i = 48 + (g i : Int))) ∧ Below B w wr)
    case atStart =>
      refine ⟨0, z, a, fun _ => 0, 0, rfl, rfl, rfl, ⟨by omega, Or.inl rfl, ?_, A0.out.1.setDp _, fun i hi => absurd hi (by omega), fun i _ hi => (A0.out.2.1 i hi).1⟩, (Below.refl _ _).setCell hB _⟩
      have h1 := H1.out
      exact ⟨by simp only [Nat.zero_mul, Nat.zero_add, Nat.add_zero]; exact h1.2.2.1, h1.2.2.2.2, fun _ => ⟨h1.2.2.2.1, rfl⟩, by simp, fun h => absurd h (by omega), by simp [num], by simp, fun h => absurd h (by omega), fun i hi => absurd hi (by omega)⟩
    case round =>
      obtain ⟨W, z', a', q, X, rfl, rfl, rfl, hA, hb⟩ := hrel
      have hnd' := hA.out.2.2.2.1.nd
      by_cases hr : j + W < nd
      · have hd := hA.out.2.2.2.1.dig (j + W) (by omega)
        rw [hA.out.2.2.2.2.2 (j + W) (by omega) hr] at hd
        have hfr := hA.out.2.2.2.1.fr W
        have hcW := hA.out.2.2.2.1.dig W (by omega)
        have hd9 := (A0.out.2.1 (j + W) hr).2
        have hz10 := hA.out.2.2.1.zlt
        have hAK := AK.out
        have hd9' : (g (j + W) : Int) ≤ 9 := by omega
        have hW8 : (W : Int) < 800 := by omega
        have hj8' : ((j + W : Nat) : Int) < 800 := by omega
        have hand : ∃ y d : Nat, bits BinOp.and IntKind.u64 (z' : Int) m = (y : Int) ∧ (z' : Int) / 2 ^ k = (d : Int) ∧ y = z' % 2 ^ k ∧ d = z' / 2 ^ k := ⟨z' % 2 ^ k, z' / 2 ^ k, by
          rw [HM2.out]
          have := bits_mask IntKind.u64 64 (by decide) (fun n h0 h1 => IntWalk.u64_in n ⟨h0, by omega⟩) k (by omega) (z' : Int) (by omega) (by omega)
          rw [this]; push_cast; rfl, by push_cast; rfl, rfl, rfl⟩
        obtain ⟨y, d, hy, hdd, hye, hde⟩ := hand
        have hyl : (y : Int) ≤ 1152921504606846976 := by
          have := Nat.mod_lt z' hAK.2
          omega
        have hdl : (d : Int) ≤ 9 := by have := dig_le hAK.2 hz10; omega
        have HY : Hid (y = z' % 2 ^ k ∧ d = z' / 2 ^ k) := ⟨hye, hde⟩
        clear hye hde
        have hjW : ¬ j + W = W := by omega
        generalize hJ : j + W = jj at *
        have HJ := Lib.hid hJ
        clear hJ hz10 hAK hd9
        go_wp2
        go_roundg (nd - (j + (W + 1)))
        case measure => have := hA.out.1; have := HJ.out; omega
        case rel =>
          have hj := HJ.out
          have hyy := HY.out
          have hpp := hA.out.2.2.1
          subst hj
          have hg9 := (A0.out.2.1 (j + W) (by omega)).2
          refine ⟨W + 1, y * 10 + g (j + W), fun i => if i = W then (d : Int) + 48 else a' i, fun i => if i = W then z' / 2 ^ k else q i, 10 * X + z' / 2 ^ k, by go_num, by go_num, congrArg (Value.int .u64) (by push_cast; omega), ⟨rfl, by omega, ?_, ?_, ?_, ?_⟩, ?_⟩
          · rw [hyy.1]
            exact hpp.pick (by omega) (by omega) hnd H1.out.1 hg9
          · exact hA.out.2.2.2.1.setDig (k := W) (by omega) _
          · intro i hi
            have h4 := hA.out.2.2.2.2.1
            by_cases he : i = W
            · simp only [he, if_true]; rw [← hyy.2]; omega
            · simp only [he, if_false]; exact h4 i (by omega)
          · intro i hi1 hi2
            have hne : ¬ i = W := by omega
            simp only [hne, if_false]; exact hA.out.2.2.2.2.2 i (by omega) hi2
          · exact hb.setCell hB _
      · have h0 := hA.out
        have HS : Hid (nd ≤ j + W) := by exact Nat.le_of_not_lt hr
        have hjn : (nd : Int) ≤ ((j + W : Nat) : Int) := by omega
        have hW8 : W < 800 := by have := H1.out; omega
        have HWM : Hid ((W : Int) = nd - j + (j - nd : Nat)) := by
          have := H1.out; have := h0.2.1
          refine Lib.hid ?_
          omega
        have HK : Hid (Put g q nd k j W z' (j - nd) X false ∧ DecAt wr b a' nd (dp - (j - 1)) neg tr ∧ Dig a' q W) := ⟨h0.2.2.1, h0.2.2.2.1, h0.2.2.2.2.1⟩
        clear hA hr h0
        generalize hJ : j + W = jj at *
        have HJ := Lib.hid hJ
        clear hJ
        go_wp2_with fail
        go_loopg [5, 6, 11] (k + 1) (fun cnt wv n dg wr => ∃ (W' v z : Nat) (a' : Nat → Int) (q : Nat → Nat) (X M : Nat) (lost : Bool), wv = .int .i64 v ∧ n = .int .u64 z ∧
          Aside (v = min W' 800 ∧ cnt = k + 1 - (M - (j - nd)) ∧ (j - nd ≤ M ∧ M - (j - nd) ≤ k + 1) ∧ (M - (j - nd) ≤ k → 2 ^ (M - (j - nd)) ∣ z) ∧ (k < M - (j - nd) → z = 0) ∧ nd ≤ j + W' ∧ (W' : Int) = nd - j + M ∧
            Put g q nd k j W' z M X lost ∧ DecAt wr b a' nd (dp - (j - 1)) neg (tr || lost) ∧ Dig a' q (min W' 800)) ∧ Below B w wr)
        case atStart =>
          have h2 := HK.out
          refine ⟨W, W, z', a', q, X, j - nd, false, rfl, rfl, ⟨by omega, by omega, ⟨Nat.le_refl _, by omega⟩, fun _ => by simp, fun h => by omega, HJ.out ▸ HS.out, HWM.out, h2.1, by rw [Bool.or_false]; exact h2.2.1, by rw [show min W 800 = W from by omega]; exact h2.2.2⟩, hb⟩
        case round =>
          obtain ⟨W', v, z, a', q, X, M, lost, rfl, rfl, hA, hb⟩ := hrel
          by_cases hz : z = 0
          · subst hz
            obtain ⟨hv, hcnt, hM, _, _, hnj, hWM, hput, hdec, hdig⟩ := hA.out
            have HP : Hid (Put g q nd k j W' 0 M X lost ∧ DecAt wr b a' nd (dp - (j - 1)) neg (tr || lost) ∧ Dig a' q v ∧ v = min W' 800 ∧ nd ≤ j + W' ∧ (W' : Int) = nd - j + M ∧ j - nd ≤ M ∧ M - (j - nd) ≤ k + 1) := ⟨hput, hdec, by rw [hv]; exact hdig, hv, hnj, hWM, hM⟩
            have c2 := hdec.nd
            have f2 := hdec.fr 800
            have hT := trim_walk b a' v (dp - (j - 1)) neg (tr || lost) B (wr.setCell ⟨b, 800, none⟩ (.int .i64 v)) (by omega) (hdec.setNd v) hB
            have HT := Lib.hid hT
            clear hT hA hput hdec hdig hv hcnt hM hnj hWM
            go_wp2_with fail
            refine HT.out.mono ?_
            rintro e w' ⟨rfl, hq⟩
            have HQ := Lib.hid hq
            clear hq
            go_wp2_with fail
            go_end0
            obtain ⟨hput, hdec, hdig, hv, hnj, hWM, hM⟩ := HP.out
            obtain ⟨m', hm1, hm2, hm3, hdec', hb'⟩ := HQ.out
            have h1 := H1.out
            have hz : ∀ i, m' ≤ i → i < min W' 800 → q i = 0 := fun i hi1 hi2 => by
              have e1 := hm2 i hi1 (by omega)
              have e2 := (hdig i (by omega)).1
              omega
            have hfin := hput.done hnj (by omega) hz
            have hm0 : 1 ≤ m' := hfin.2.2
            rw [if_neg (by omega)] at hdec'
            have hlast := hm3 (by omega)
            have hl2 := (hdig (m' - 1) (by omega)).1
            exact ⟨rfl, a', q, m', dp - (j - 1), lost, X, W', M, hdec', fun i hi => hdig i (by omega), hfin.1, hm0, hput.q0 hfin.1.pos, by omega, hfin.2.1, by omega, by omega, by have := picked (A0.out.2.2) hpos h1.1 h1.2.2.1 h1.2.2.2.2 AK.out.1; omega, by have := picked (A0.out.2.2) hpos h1.1 h1.2.2.1 h1.2.2.2.2 AK.out.1; omega, (hb.setCell hB _).trans hb'⟩
          · have hz0 : 0 < z := by omega
            have h3 := hA.out
            obtain ⟨hv, hcnt, hM, hdv, hk0, hnj, hWM, hput, hdec, hdig⟩ := h3
            have hz10 := hput.zlt
            have hAK := AK.out
            have hand : ∃ y d : Nat, bits BinOp.and IntKind.u64 (z : Int) m = (y : Int) ∧ (z : Int) / 2 ^ k = (d : Int) ∧ y = z % 2 ^ k ∧ d = z / 2 ^ k := ⟨z % 2 ^ k, z / 2 ^ k, by
              rw [HM2.out]
              have := bits_mask IntKind.u64 64 (by decide) (fun n h0 h1 => IntWalk.u64_in n ⟨h0, by omega⟩) k (by omega) (z : Int) (by omega) (by omega)
              rw [this]; push_cast; rfl, by push_cast; rfl, rfl, rfl⟩
            obtain ⟨y, d, hy, hdd, hye, hde⟩ := hand
            have hyl : (y : Int) ≤ 1152921504606846976 := by
              have := Nat.mod_lt z hAK.2
              omega
            have hdl : (d : Int) ≤ 9 := by have := dig_le hAK.2 hz10; omega
            -- how many rounds are still to come
            have hik : M - (j - nd) ≤ k := by
              refine Nat.le_of_not_lt fun hlt => ?_
              have := hk0 hlt; omega
            have hnext : M + 1 - (j - nd) = M - (j - nd) + 1 := by omega
            have hdv2 : M + 1 - (j - nd) ≤ k → 2 ^ (M + 1 - (j - nd)) ∣ y * 10 := fun hle => by
              rw [hnext, hye, Nat.pow_succ, show (10 : Nat) = 2 * 5 from rfl, ← Nat.mul_assoc]
              have h4 := hdv hik
              have h5 : 2 ^ (M - (j - nd)) ∣ 2 ^ k := Nat.pow_dvd_pow 2 hik
              have h6 : 2 ^ (M - (j - nd)) ∣ z % 2 ^ k := (Nat.dvd_mod_iff h5).2 h4
              exact Nat.dvd_trans (Nat.mul_dvd_mul h6 (Nat.dvd_refl 2)) (Nat.dvd_mul_right _ 5)
            have hk02 : k < M + 1 - (j - nd) → y * 10 = 0 := fun hlt => by
              have he : M - (j - nd) = k := by omega
              have h4 := hdv hik
              rw [he] at h4
              rw [hye, Nat.mod_eq_zero_of_dvd h4]
            have HY : Hid (y = z % 2 ^ k ∧ d = z / 2 ^ k) := ⟨hye, hde⟩
            have HN : Hid ((M + 1 - (j - nd) ≤ k → 2 ^ (M + 1 - (j - nd)) ∣ y * 10) ∧ (k < M + 1 - (j - nd) → y * 10 = 0) ∧ M - (j - nd) ≤ k) := ⟨hdv2, hk02, hik⟩
            have H3 : Hid (v = min W' 800 ∧ gk = k + 1 - (M - (j - nd)) ∧ (j - nd ≤ M ∧ M - (j - nd) ≤ k + 1) ∧ nd ≤ j + W' ∧ (W' : Int) = nd - j + M) := ⟨hv, hcnt, hM, hnj, hWM⟩
            have HP : Hid (Put g q nd k j W' z M X lost ∧ DecAt wr b a' nd (dp - (j - 1)) neg (tr || lost) ∧ Dig a' q v) := ⟨hput, hdec, by rw [hv]; exact hdig⟩
            clear hA hye hde hdv2 hk02 hik hnext hv hcnt hM hdv hk0 hnj hWM hput hdig hz10 hAK hz
            by_cases hv8 : v < 800
            · have hcW := hdec.dig v hv8
              have hfr := hdec.fr v
              have hv8' : (v : Int) < 800 := by omega
              clear hdec
              go_wp2
              go_roundg (k + 1 - (M + 1 - (j - nd)))
              case measure => have := H3.out; have := HN.out; omega
              case rel =>
                have h3 := H3.out
                have h4 := HN.out
                have h5 := HP.out
                have hyy := HY.out
                have hW : W' < 800 := by omega
                refine ⟨W' + 1, v + 1, y * 10, fun i => if i = v then (d : Int) + 48 else a' i, fun i => if i = W' then z / 2 ^ k else q i, 10 * X + z / 2 ^ k, M + 1, lost, by go_num, congrArg (Value.int .u64) (by push_cast; omega), ⟨by omega, rfl, by omega, h4.1, h4.2.1, by omega, by omega, ?_, h5.2.1.setDig hv8 _, ?_⟩, hb.setCell hB _⟩
                · rw [hyy.1]; exact h5.1.room h3.2.2.2.1 hW
                · intro i hi
                  by_cases he : i = v
                  · have : i = W' := by omega
                    simp only [he, if_true]; rw [if_pos (show v = W' by omega), ← hyy.2]; omega
                  · have : ¬ i = W' := by omega
                    simp only [he, this, if_false]; exact h5.2.2 i (by omega)
            · have hv8' : (800 : Int) ≤ (v : Int) := by omega
              have hW : 800 ≤ W' := by have := H3.out; omega
              have hct := hdec.tr
              have hfr := hdec.fr 803
              clear hdec
              by_cases hd0 : 0 < d
              · go_wp2
                go_roundg (k + 1 - (M + 1 - (j - nd)))
                case measure => have := H3.out; have := HN.out; omega
                case rel =>
                  have h3 := H3.out
                  have h4 := HN.out
                  have h5 := HP.out
                  have hyy := HY.out
                  refine ⟨W' + 1, v, y * 10, a', q, 10 * X + z / 2 ^ k, M + 1, true, rfl, congrArg (Value.int .u64) (by push_cast; omega), ⟨by omega, rfl, by omega, h4.1, h4.2.1, by omega, by omega, ?_, ?_, ?_⟩, hb.setCell hB _⟩
                  · have := h5.1.full h3.2.2.2.1 hW
                    rw [← hyy.2, decide_eq_true hd0, Bool.or_true, ← hyy.1] at this
                    rw [← hyy.2]; exact this
                  · rw [Bool.or_true]; exact h5.2.1.setTr true
                  · rw [show min (W' + 1) 800 = v from by omega]; exact h5.2.2
              · have hd00 : d = 0 := by omega
                subst hd00
                go_wp2
                go_roundg (k + 1 - (M + 1 - (j - nd)))
                case measure => have := H3.out; have := HN.out; omega
                case rel =>
                  have h3 := H3.out
                  have h4 := HN.out
                  have h5 := HP.out
                  have hyy := HY.out
                  refine ⟨W' + 1, v, y * 10, a', q, 10 * X + z / 2 ^ k, M + 1, lost, rfl, congrArg (Value.int .u64) (by push_cast; omega), ⟨by omega, rfl, by omega, h4.1, h4.2.1, by omega, by omega, ?_, h5.2.1, ?_⟩, hb⟩
                  · have := h5.1.full h3.2.2.2.1 hW
                    rw [← hyy.2, decide_eq_false (by omega), Bool.or_false, ← hyy.1] at this
                    rw [← hyy.2]; exact this
                  · rw [show min (W' + 1) 800 = v from by omega]; exact h5.2.2
end Go.Proofs.YtnpinogjajhlhaaGreatDoor.Fl
end
section
/- prefixIsLessThan, walked: is the decimal's fraction less than a text's? -/
namespace Go.Proofs.YtnpinogjajhlhaaGreatDoor.Fl
open Go.RowKit

def BoolD (r : Bool) (w : World) (e : Ending) (w' : World) : Prop := e = .returned (.bool r) ∧ ∃ n, w' = w.drewN n

theorem drewN_add (w : World) (m n : Nat) : (w.drewN m).drewN n = w.drewN (m + n) := by unfold World.drewN; simp [Nat.add_assoc]

/-- A text of digits. -/
def SDig (S : ByteArray) (s : Nat → Nat) : Prop := ∀ i (h : i < S.size), (S[i].toNat : Int) = 48 + (s i : Int) ∧ s i ≤ 9

set_option maxHeartbeats 2000000 in
theorem less_walk (b : Nat) (a : Nat → Int) (g s : Nat → Nat) (nd : Nat) (dp : Int) (neg tr : Bool) (S : ByteArray) (w : World) (hnd : nd ≤ 800) (h : DecAt w b a nd dp neg tr) (hg : Dig a g nd)
    (hS : SDig S s) (hS1 : 1 ≤ S.size) (hS2 : S.size ≤ 100) (hlast : s (S.size - 1) ≠ 0) :
    Calls Tryz.prog 204 #[.slice (some ⟨b, 0, none⟩) nd 800, .string S] w (BoolD (fless g nd s S.size) w) := by
  have A0 : Aside (DecAt w b a nd dp neg tr ∧ Dig a g nd ∧ SDig S s ∧ s (S.size - 1) ≠ 0) := ⟨h, hg, hS, hlast⟩
  clear h hg hS hlast
  go_enter Tryz.func204, Tryz.ntmps204
  go_wp2_with fail
  go_loopg [5] S.size (fun m i wr => ∃ k n : Nat, i = .int .i64 k ∧ wr = w.drewN n ∧ Aside (m = S.size - k ∧ k ≤ S.size ∧ k ≤ nd ∧ ∀ j, j < k → g j = s j))
  case atStart => exact ⟨0, 0, rfl, rfl, by omega, by omega, by omega, fun j hj => by omega⟩
  case round =>
    obtain ⟨k, n, rfl, hw, hA⟩ := hrel
    have hd0 := (A0.out.1.drewN n).dig
    rw [← hw] at hd0
    have hkS := hA.out.2.1
    have hkn := hA.out.2.2.1
    have HW := Lib.hid hw
    clear hw
    have fin : ∀ (r : Bool) (n2 : Nat), fless g nd s S.size = r → BoolD (fless g nd s S.size) w (.returned (.bool r)) (wr.drewN n2) := fun r n2 hr => ⟨by rw [hr], n + n2, by rw [HW.out, drewN_add]⟩
    have FIN := Lib.hid fin
    clear fin
    by_cases h1 : k < S.size
    · by_cases h2 : nd ≤ k
      · have hR : Hid (fless g nd s S.size = true) := by
          have : k = nd := by omega
          subst this
          exact fless_short h1 hA.out.2.2.2 A0.out.2.2.2
        clear hd0
        go_wp2
        go_ret
        exact FIN.out true 0 hR.out
      · have c1 := hd0 k (by omega)
        have hgk := A0.out.2.1 k (by omega)
        have hsk := A0.out.2.2.1 k h1
        rw [hgk.1] at c1
        have hk8 : (k : Int) < 800 := by omega
        have hkn' : k < nd := by omega
        have hg9 : (g k : Int) ≤ 9 := by omega
        have hs9 : (s k : Int) ≤ 9 := by omega
        have hs1 := hsk.1
        clear hsk hgk hd0
        by_cases he : g k = s k
        · have t1 : ((48 : Int) + (g k : Int) != 48 + (s k : Int)) = false := by simp; omega
          have HE := Lib.hid he
          clear he
          go_wp2_with fail
          go_quiet (fail)
          go_wp2
          go_roundg (S.size - (k + 1))
          case measure => have := hA.out.1; omega
          case rel => exact ⟨k + 1, n + nq, by go_num, by rw [HW.out, drewN_add], rfl, by omega, by omega, fun j hj => by
            by_cases e : j = k
            · subst e; exact HE.out
            · exact hA.out.2.2.2 j (by omega)⟩
        · have t1 : ((48 : Int) + (g k : Int) != 48 + (s k : Int)) = true := by simp; omega
          have hR : Hid (fless g nd s S.size = decide (g k < s k)) := fless_part hkn' h1 hA.out.2.2.2 (fun j hj => (A0.out.2.1 j hj).2) (fun j hj => (A0.out.2.2.1 j hj).2) he
          clear he
          by_cases hl : g k < s k
          · have hR2 : Hid (fless g nd s S.size = true) := Lib.hid (by rw [hR.out, decide_eq_true hl])
            have t2 : (48 : Int) + (g k : Int) < 48 + (s k : Int) := by omega
            clear hR
            go_wp2_with fail
            go_quiet (fail)
            go_wp2_with fail
            go_quiet (fail)
            go_wp2
            go_ret
            rw [drewN_add]
            exact FIN.out true _ hR2.out
          · have hR2 : Hid (fless g nd s S.size = false) := Lib.hid (by rw [hR.out, decide_eq_false hl])
            have t2 : ¬ (48 : Int) + (g k : Int) < 48 + (s k : Int) := by omega
            clear hR
            go_wp2_with fail
            go_quiet (fail)
            go_wp2_with fail
            go_quiet (fail)
            go_wp2
            go_ret
            rw [drewN_add]
            exact FIN.out false _ hR2.out
    · have hR : Hid (fless g nd s S.size = false) := by
        have : k = S.size := by omega
        subst this
        exact fless_long hkn hA.out.2.2.2
      clear hd0
      go_wp2
      go_ret
      exact FIN.out false 0 hR.out
end Go.Proofs.YtnpinogjajhlhaaGreatDoor.Fl
end
