/- A part of the proof that lexiconlaw03.NumsReads answers true at every kind and every text: Bl, DwPf64, DwFb, DwScope. No condition. -/
import Derived.Test.YtnpinogjajhlhaaGreatDoorZ06
import Derived.Test.YtnpinogjajhlhaaGreatDoorZ16
import Derived.Test.YtnpinogjajhlhaaGreatDoorZ15
import Derived.Laws.NewBlocks
import Derived.Deep.DeepCutAuto
import Derived.Deep.CutBlock
import Derived.ScopeJumps
import Derived.WalkMore
section
/- The bits of a word, and the word moved to the left end. -/
namespace Go.Proofs.YtnpinogjajhlhaaGreatDoor.Fl

theorem bitLen_pos {d : Nat} (h0 : 0 < d) (hd : d < 2 ^ 64) : Lib.bitLen d = Nat.log2 d + 1 := by
  have h1 : 2 ^ Nat.log2 d ≤ d := Nat.log2_self_le (by omega)
  have h2 : d < 2 ^ (Nat.log2 d + 1) := Nat.lt_log2_self
  rw [Lib.bitLen_shift _ d h1 hd]
  have h3 : d / 2 ^ Nat.log2 d = 1 := by
    refine Nat.div_eq_of_lt_le (by rw [Nat.one_mul]; exact h1) ?_
    rw [Nat.pow_succ] at h2; omega
  rw [h3]
  have : Lib.bitLen 1 = 1 := by decide
  omega

theorem bl_shift {d : Nat} (h0 : 0 < d) (hd : d < 2 ^ 64) : 1 ≤ Lib.bitLen d ∧ Lib.bitLen d ≤ 64 ∧ 2 ^ 63 ≤ d * 2 ^ (64 - Lib.bitLen d) ∧ d * 2 ^ (64 - Lib.bitLen d) < 2 ^ 64 := by
  have h1 : 2 ^ Nat.log2 d ≤ d := Nat.log2_self_le (by omega)
  have h2 : d < 2 ^ (Nat.log2 d + 1) := Nat.lt_log2_self
  have h3 : Nat.log2 d < 64 := (Nat.log2_lt (by omega)).2 hd
  rw [bitLen_pos h0 hd]
  refine ⟨by omega, by omega, ?_, ?_⟩
  · have := Nat.mul_le_mul_right (2 ^ (64 - (Nat.log2 d + 1))) h1
    rw [← Nat.pow_add, show Nat.log2 d + (64 - (Nat.log2 d + 1)) = 63 by omega] at this
    exact this
  · have := Nat.mul_lt_mul_of_pos_right h2 (Nat.two_pow_pos (64 - (Nat.log2 d + 1)))
    rw [← Nat.pow_add, show Nat.log2 d + 1 + (64 - (Nat.log2 d + 1)) = 64 by omega] at this
    exact this

theorem half_or {u : Nat} (hu : u < 2 ^ 64) : bits .or .u64 ((u : Int) / 2) (bits .and .u64 (u : Int) 1) = ((st (u / 2) (decide (u % 2 = 1)) : Nat) : Int) := by
  have h1 := and_u64 (x := u) 1 (by decide) hu
  have h2 : ((u : Int) / 2) = ((u / 2 : Nat) : Int) := by push_cast; rfl
  have h3 : u % 2 ^ 1 = (decide (u % 2 = 1)).toNat := by
    rcases Nat.mod_two_eq_zero_or_one u with h | h <;> simp [h]
  have e1 : bits .and .u64 (u : Int) 1 = (((decide (u % 2 = 1)).toNat : Nat) : Int) := h1.trans (congrArg (fun n : Nat => (n : Int)) h3)
  rw [e1, h2]
  exact or_st (by omega) _

theorem same_or {u : Nat} (hu : u < 2 ^ 64) : bits .or .u64 (u : Int) (bits .and .u64 (u : Int) 1) = (u : Int) := by
  have h1 := and_u64 (x := u) 1 (by decide) hu
  have h3 : u % 2 ^ 1 = (decide (u % 2 = 1)).toNat := by
    rcases Nat.mod_two_eq_zero_or_one u with h | h <;> simp [h]
  have e1 : bits .and .u64 (u : Int) 1 = (((decide (u % 2 = 1)).toNat : Nat) : Int) := h1.trans (congrArg (fun n : Nat => (n : Int)) h3)
  rw [e1, or_st hu]
  unfold st
  congr 1
  split
  · rename_i h; have := of_decide_eq_true h; omega
  · rfl

end Go.Proofs.YtnpinogjajhlhaaGreatDoor.Fl
end
section
/- parseFloat64, walked: the nearest rung of d times a power of ten. -/
namespace Go.Proofs.YtnpinogjajhlhaaGreatDoor.Fl
open Go.RowKit

theorem lp_bounds64 : ∀ i : Nat, i < 696 → -1157 ≤ lp ((i : Int) - 348) ∧ lp ((i : Int) - 348) ≤ 1155 := fun i hi => by unfold lp; omega

theorem us_le64 {x hi lo s : Nat} (hx : x < 18446744073709551616) (hh : hi < 18446744073709551616) (hs : 8 ≤ s) : us x hi lo s ≤ 72057594037927936 := by
  have h1 : x * hi < 18446744073709551616 * 18446744073709551616 := Nat.mul_lt_mul'' hx hh
  have h2 : x * hi / 18446744073709551616 < 18446744073709551616 := by omega
  have hp : 2 ^ 8 ≤ 2 ^ s := Nat.pow_le_pow_right (by omega) hs
  have key : ∀ H : Nat, H < 18446744073709551616 → H / 2 ^ s ≤ 72057594037927935 := fun H hH => by
    have : H / 2 ^ s ≤ H / 2 ^ 8 := Nat.div_le_div_left hp (by decide)
    omega
  have st_le : ∀ a b, a ≤ 72057594037927935 → st a b ≤ 72057594037927936 := fun a b ha => by unfold st; split <;> omega
  unfold us
  split
  · exact st_le _ _ (key _ h2)
  · exact st_le _ _ (key _ (by omega))

theorem or_sign64 {q : Nat} (hq : q < 9007199254740992) (neg : Bool) : bits .or .u64 ((neg.toNat * 9223372036854775808 : Nat) : Int) (q : Int) = ((neg.toNat * 9223372036854775808 + q : Nat) : Int) := by
  have h2 := Nat.two_pow_add_eq_or_of_lt (i := 63) (b := q) (Nat.lt_trans hq (by decide)) neg.toNat
  rw [show 2 ^ 63 * neg.toNat = neg.toNat * 9223372036854775808 by rw [Nat.mul_comm]] at h2
  have h3 := (bits_nat .u64 64 (by decide) (fun n h0 h1 => IntWalk.u64_in n ⟨h0, by omega⟩) (neg.toNat * 9223372036854775808) q (by cases neg <;> decide) (Nat.lt_trans hq (by decide))).2
  rw [h2]; exact h3

def Pf64Post (d i : Nat) (neg : Bool) (B : Nat) (w : World) (e : Ending) (w' : World) : Prop :=
  ∃ r, RN Ieee.double.binade (2 ^ (1074 + 1)) (d * 10 ^ (i - 348)) (10 ^ (348 - i)) r ∧
    e = .returned (.tuple #[.float .f64 (Ieee.double.word neg (min r Ieee.double.infRung)), if Ieee.double.infRung ≤ r then errRange else .nilIface]) ∧ Below B w w'

set_option maxHeartbeats 1000000 in
set_option maxRecDepth 100000 in
theorem pf64_walk (d i : Nat) (p : Int) (h0 : 0 < d) (hd : d < 18446744073709551616) (hi : i < 696) (hp : p = (i : Int) - 348) (neg : Bool) (w : World) (B : Nat) (hB : B ≤ w.heap.size) (hP : PowAt w B) :
    Calls Tryz.prog 178 #[.int .u64 d, .int .i64 p, .int .u64 (neg.toNat * 9223372036854775808 : Nat)] w (Pf64Post d i neg B w) := by
  have hlen := fun w => Tryz.bits_Len64 (d : Int) w (by omega) (by omega)
  rw [Int.toNat_natCast] at hlen
  obtain ⟨b1, b2, b3, b4⟩ := bl_shift h0 hd
  obtain ⟨l1, l2⟩ := lp_bounds64 i hi
  have hlp := fun w => lp_walk p (by omega) (by omega) w
  rw [hp] at hlp
  obtain ⟨b, hb⟩ : ∃ b, Lib.bitLen d = b := ⟨_, rfl⟩
  obtain ⟨l, hl⟩ : ∃ l, lp ((i : Int) - 348) = l := ⟨_, rfl⟩
  obtain ⟨S, hS⟩ : ∃ S, neg.toNat * 9223372036854775808 = S := ⟨_, rfl⟩
  rw [hb] at hlen b1 b2 b3 b4
  rw [hl] at hlp l1 l2
  rw [← hp] at hlp
  rw [hS]
  have HA : Hid ((∀ w : World, Calls Tryz.prog 137 #[.int .u64 d] w fun e w' => e = .returned (.int .i64 b) ∧ w' = w) ∧ (∀ w : World, Calls Tryz.prog 183 #[.int .i64 p] w (IntEndU .i64 l w)) ∧
    2 ^ 63 ≤ d * 2 ^ (64 - b) ∧ d * 2 ^ (64 - b) < 2 ^ 64 ∧ lp ((i : Int) - 348) = l ∧ neg.toNat * 9223372036854775808 = S ∧ p = (i : Int) - 348 ∧ 0 < d ∧ d < 18446744073709551616 ∧ i < 696 ∧ PowAt w B) := ⟨hlen, hlp, b3, b4, hl, hS, hp, h0, hd, hi, hP⟩
  have b1' : 1 ≤ (b : Int) := by omega
  have b2' : (b : Int) ≤ 64 := by omega
  have hp1 : -348 ≤ p := by omega
  have hp2 : p ≤ 347 := by omega
  clear hlen hlp b1 b2 b3 b4 hb hl hS h0 hd hi hP hp
  go_enter Tryz.func178, Tryz.ntmps178
  go_wp2_with fail
  refine (HA.out.1 _).mono ?_
  rintro e w' ⟨rfl, rfl⟩
  go_wp2_with fail
  refine (HA.out.2.1 _).mono ?_
  rintro e w' ⟨rfl, rfl⟩
  go_upto_region 3 with (fail)
  go_cut [10] (fun ev wd => (∃ e0 : Int, ev = .int .i64 e0 ∧ Aside (e0 = min (1074 : Int) (53 - b - l))) ∧ wd = w')
  case first =>
    go_wp2_with fail
    all_goals
      go_meet
      exact ⟨⟨_, rfl, (by omega : _ = min (1074 : Int) (53 - b - l))⟩, rfl⟩
  case rest =>
    obtain ⟨⟨e0, rfl, he0⟩, rfl⟩ := hcut
    have e1 : e0 ≤ 1074 := by rw [he0.out]; omega
    have e2 : -1200 ≤ e0 := by rw [he0.out]; omega
    go_wp2_with fail
    have hsc : ScI (wc.alloc (Obj.cells #[Value.int IntKind.u64 0, Value.int IntKind.u64 0, Value.int IntKind.i64 0] 211)) wc.heap.size 0 0 0 :=
      ⟨World.cell?_alloc_at _ _ _ _ rfl, World.cell?_alloc_at _ _ _ _ rfl, World.cell?_alloc_at _ _ _ _ rfl, fun j => World.frozen?_alloc_at _ _ _ _ rfl⟩
    have hbw : Below B wc (wc.alloc (Obj.cells #[Value.int IntKind.u64 0, Value.int IntKind.u64 0, Value.int IntKind.i64 0] 211)) := (Below.refl B wc).alloc hB _
    have hpre := prescale_walk wc.heap.size (e0 - (64 - b)) p l i HA.out.2.2.2.2.2.2.2.2.2.1 HA.out.2.2.2.2.2.2.1 (by omega) (by omega) (by omega) (by omega) _ B hB (HA.out.2.2.2.2.2.2.2.2.2.2.below hbw) 0 0 0 hsc
    refine hpre.mono ?_
    rintro e w2 ⟨rfl, hs2, hb2⟩
    have hbw2 := hbw.trans hb2
    clear hpre hsc hbw hb2
    generalize wc.alloc (Obj.cells #[Value.int IntKind.u64 0, Value.int IntKind.u64 0, Value.int IntKind.i64 0] 211) = w1 at *
    obtain ⟨s, hs⟩ : ∃ s, -(e0 - (64 - (b : Int)) + l + 3) = s := ⟨_, rfl⟩
    rw [hs] at hs2
    obtain ⟨c, hc⟩ : ∃ c, wc.heap.size = c := ⟨_, rfl⟩
    rw [hc] at hs2 hB ⊢
    have HS : Hid (s = pfs 53 1074 b i ∧ ScI w2 c (pw i).1 (pw i).2 s ∧ Below B wc w2) := ⟨by rw [← hs, he0.out]; unfold pfs; rw [HA.out.2.2.2.2.1]; rfl, hs2, hbw2⟩
    obtain ⟨-, -, h2, -⟩ := hs2
    clear hs hbw2
    by_cases hs64 : 64 ≤ s
    · have hor : bits .or .u64 (S : Int) 0 = S := by
        rw [← HA.out.2.2.2.2.2.1]; cases neg <;> decide +kernel
      have hf : ∀ w, (callFunc 176 #[.int .u64 (bits .or .u64 (S : Int) 0)]).run Tryz.prog w = .ok (.value (.float .f64 S)) w := fun w => by rw [hor]; exact sfrom64 _ w
      clear hor
      go_wp2_with fail
      go_ret2
      obtain ⟨-, -, a3, a4, a5, a6, a7, a8, a9, a10, -⟩ := HA.out
      have hz := pf_zero (P := 53) (Lo := 1074) (b := b) a10 (by omega) (by decide) a4 (by rw [← HS.out.1]; exact hs64)
      refine ⟨0, hz, ?_, HS.out.2.2⟩
      rw [Nat.zero_min, if_neg (by decide +kernel)]
      have hword : Ieee.double.word neg 0 = S := by
        unfold Ieee.Format.word; rw [consts64.2.2, ← a6]; cases neg <;> rfl
      rw [hword]; rfl
    · have hs8 : 8 ≤ s := by rw [HS.out.1]; unfold pfs; omega
      obtain ⟨t, ht⟩ : ∃ t : Nat, s = t := ⟨s.toNat, by omega⟩
      subst ht
      obtain ⟨x, hx⟩ : ∃ x, d * 2 ^ (64 - b) = x := ⟨_, rfl⟩
      have hxw : IntKind.u64.wrap ((d : Int) * 2 ^ (64 - b)) = ((x : Nat) : Int) := by
        have h4 := HA.out.2.2.2.1
        have e : ((d : Int) * 2 ^ (64 - b)) = ((d * 2 ^ (64 - b) : Nat) : Int) := by push_cast; rfl
        rw [e, hx, IntKind.wrap_u64]; rw [hx] at h4; omega
      have hok := table_ok HA.out.2.2.2.2.2.2.2.2.2.1
      unfold tableOk at hok
      simp only [Bool.and_eq_true, decide_eq_true_eq] at hok
      obtain ⟨⟨⟨⟨⟨⟨hh1, hh2⟩, hlo⟩, -⟩, -⟩, -⟩, -⟩ := hok
      have hx1 : 2 ^ 63 ≤ x := by rw [← hx]; exact HA.out.2.2.1
      have hx2 : x < 2 ^ 64 := by rw [← hx]; exact HA.out.2.2.2.1
      have hH1 : 1 ≤ x * (pw i).1 / 18446744073709551616 := by
        have := Nat.mul_le_mul hx1 hh1
        omega
      have hus := uscale_walk x (pw i).1 (pw i).2 t c w2 hx2 hh2 hlo (by omega) hH1 ⟨HS.out.2.1.1, HS.out.2.1.2.1, HS.out.2.1.2.2.1⟩
      have hul := us_le64 (lo := (pw i).2) hx2 hh2 (show 8 ≤ t by omega)
      have hpu : pfu 53 1074 d b i = us x (pw i).1 (pw i).2 t := by unfold pfu; rw [hx, ← HS.out.1, Int.toNat_natCast]
      obtain ⟨u, hu⟩ : ∃ u, us x (pw i).1 (pw i).2 t = u := ⟨_, rfl⟩
      rw [hu] at hus hul hpu
      have HU := Lib.hid hus
      have HPU := Lib.hid hpu
      clear hx hh1 hh2 hlo hx1 hx2 hH1 hus hu hpu
      go_wp2_with fail
      refine HU.out.mono ?_
      rintro e w3 ⟨rfl, q, rfl⟩
      have hbw : Below B wc (w2.drewN q) := belowN HS.out.2.2 q
      have HB := Lib.hid hbw
      clear h2 hxw hbw HU
      generalize w2.drewN q = w3 at *
      have hm : ∀ w, Calls Tryz.prog 189 #[.int .u64 9007199254740992] w (IntEndU .u64 36028797018963966 w) := fun w => unmin_walk 9007199254740992 (by decide) (by decide) w
      have hT : ∀ w, Calls Tryz.prog 138 #[.bool true] w (IntEndU .i64 1 w) := bool2i_walk true
      have hF : ∀ w, Calls Tryz.prog 138 #[.bool false] w (IntEndU .i64 0 w) := bool2i_walk false
      go_wp2_with fail
      refine (hm _).mono ?_
      rintro e w' ⟨rfl, rfl⟩
      obtain ⟨ed, hed⟩ : ∃ ed : Int, pfe 53 1074 d b i = ed := ⟨_, rfl⟩
      obtain ⟨qd, hqd⟩ : ∃ qd, pfq 53 1074 d b i = qd := ⟨_, rfl⟩
      have hpf := pf_rn (P := 53) (Lo := 1074) (d := d) (b := b) (i := i) (by decide) (by decide) HA.out.2.2.2.2.2.2.2.2.2.1 (by omega) HA.out.2.2.1 HA.out.2.2.2.1 (by rw [← HS.out.1]; omega)
      rw [hed, hqd] at hpf
      obtain ⟨g1, g2, g3, g4⟩ := hpf
      have hr : pkr64 qd (-ed) = (((1074 : Nat) : Int) - ed).toNat * 4503599627370496 + qd := by
        unfold pkr64
        by_cases hh : qd < 4503599627370496
        · have := g3 hh; subst this; rw [if_pos hh]; simp
        · rw [if_neg hh, show -ed + 1074 = ((1074 : Nat) : Int) - ed by omega]
      have HP : Hid (RN Ieee.double.binade (2 ^ (1074 + 1)) (d * 10 ^ (i - 348)) (10 ^ (348 - i)) (pkr64 qd (-ed)) ∧ qd < 9007199254740992 ∧ ed ≤ 1074) := ⟨by rw [hr]; exact g1, g4, g2⟩
      unfold pfe at hed
      unfold pfq at hqd
      rw [HPU.out] at hed hqd
      have he0' := he0.out
      rw [HA.out.2.2.2.2.1] at hed
      change min (1074 : Int) (53 - b - l) - (if 36028797018963966 ≤ u then 1 else 0) = ed at hed
      rw [← he0'] at hed
      change rnd (if 36028797018963966 ≤ u then st (u / 2) (decide (u % 2 = 1)) else u) = qd at hqd
      have hsor : bits .or .u64 (S : Int) (qd : Int) = ((neg.toNat * 9223372036854775808 + qd : Nat) : Int) := by
        rw [← HA.out.2.2.2.2.2.1]; exact or_sign64 g4 neg
      have hpk := fun w => pack64_walk neg qd g4 (-ed) (by omega) (by omega) w
      obtain ⟨m, hm'⟩ : ∃ m, neg.toNat * 9223372036854775808 + qd = m := ⟨_, rfl⟩
      rw [hm'] at hpk hsor
      obtain ⟨X, hX⟩ : ∃ X, Ieee.double.word neg (min (pkr64 qd (-ed)) Ieee.double.infRung) = X := ⟨_, rfl⟩
      obtain ⟨ER, hER⟩ : ∃ E, (if Ieee.double.infRung ≤ pkr64 qd (-ed) then errRange else .nilIface) = E := ⟨_, rfl⟩
      have hpk2 : ∀ w, Calls Tryz.prog 202 #[.int .u64 (m : Nat), .int .i64 (-ed)] w (fun e w' => e = .returned (.tuple #[.float .f64 X, ER]) ∧ ∃ k, w' = w.drewN k) := fun w => by rw [← hX, ← hER]; exact hpk w
      have HK := Lib.hid hpk2
      have HX : Hid (Ieee.double.word neg (min (pkr64 qd (-ed)) Ieee.double.infRung) = X ∧ (if Ieee.double.infRung ≤ pkr64 qd (-ed) then errRange else .nilIface) = ER) := ⟨hX, hER⟩
      clear hX hER hpk2
      clear g1 g2 g3 hr he0' hpk hm'
      by_cases hge : 36028797018963966 ≤ u
      · have hgi : (36028797018963966 : Int) ≤ u := by omega
        rw [if_pos hge] at hed hqd
        obtain ⟨v, hv⟩ : ∃ v, st (u / 2) (decide (u % 2 = 1)) = v := ⟨_, rfl⟩
        have hvl : v < 4611686018427387904 := by rw [← hv]; unfold st; split <;> omega
        have hu2 : bits .or .u64 ((u : Int) / 2) (bits .and .u64 (u : Int) 1) = (v : Int) := by rw [← hv]; exact half_or (by omega)
        rw [hv] at hqd
        have hrd := fun w => round_walk v hvl w
        rw [hqd] at hrd
        have HR := Lib.hid hrd
        have HE := Lib.hid hed
        have hed2 : e0 - 1 = ed := hed
        clear hrd hqd hv hvl hge hed
        go_wp2_with fail
        refine (hT _).mono ?_
        rintro e w' ⟨rfl, rfl⟩
        go_wp2_with fail
        refine (HR.out _).mono ?_
        rintro e w' ⟨rfl, rfl⟩
        go_wp2_with fail
        refine (HK.out _).mono ?_
        rintro e w' ⟨rfl, k, rfl⟩
        go_wp2_with fail
        go_ret2
        exact ⟨_, HP.out.1, by rw [HX.out.1, HX.out.2]; rfl, belowN HB.out k⟩
      · have hgi : (u : Int) < 36028797018963966 := by omega
        rw [if_neg hge] at hed hqd
        have hvl : u < 4611686018427387904 := by omega
        have hu2 : bits .or .u64 (u : Int) (bits .and .u64 (u : Int) 1) = (u : Int) := same_or (by omega)
        have hrd := fun w => round_walk u hvl w
        rw [hqd] at hrd
        have HR := Lib.hid hrd
        have hed2 : e0 = ed := by omega
        have HE := Lib.hid hed2
        clear hrd hqd hvl hge hed hed2
        go_wp2_with fail
        rw [decide_eq_false (show ¬ (36028797018963966 : Int) ≤ u by omega)]
        refine (hF _).mono ?_
        rintro e w' ⟨rfl, rfl⟩
        go_wp2_with fail
        refine (HR.out _).mono ?_
        rintro e w' ⟨rfl, rfl⟩
        have d1 : ed ≤ 1074 := by rw [← HE.out]; exact e1
        have d2 : -1200 ≤ ed := by rw [← HE.out]; exact e2
        rw [HE.out]
        go_wp2_with fail
        refine (HK.out _).mono ?_
        rintro e w' ⟨rfl, k, rfl⟩
        go_wp2_with fail
        go_ret2
        exact ⟨_, HP.out.1, by rw [HX.out.1, HX.out.2]; rfl, belowN HB.out k⟩
end Go.Proofs.YtnpinogjajhlhaaGreatDoor.Fl
end
section
/- Facts about the decimal that floatBits needs at either width. -/
namespace Go.Proofs.YtnpinogjajhlhaaGreatDoor.Fl
open Go.RowKit

theorem StAt.still {w w' : World} {b K L xx : Nat} {dp dp' sh : Int} {neg neg' : Bool} {d0 d0' V V' n : Nat} (h : StAt w b K L xx dp sh neg d0 V) (h' : StAt w' b K L xx dp' (sh + n) neg' d0' V') (hle : V' ≤ V)
    (hL : 3000 ≤ L) (hK : 2000 ≤ K) (hdp2 : -1000 ≤ dp) (hr : room dp d0 n) (hn : n ≤ 30) (hs : sh ≤ 2000) : dp' ≤ 0 := by
  obtain ⟨a, g, nd, tr, _, _, h1, h2, h3⟩ := h
  obtain ⟨a', g', nd', tr', _, _, h1', h2', h3'⟩ := h'
  subst h2 h3 h3'
  exact h1.still hL hK hdp2 hr hn hs h1' hle

theorem StAt.lt_one {w : World} {b K L xx : Nat} {dp sh J : Int} {neg : Bool} {d0 V : Nat} (h : StAt w b K L xx dp sh neg d0 V) (hS : Size K L xx J) (hL : 3000 ≤ L) (hK : 2000 ≤ K) (hdp : dp ≤ 0) (hdp2 : -1000 ≤ dp) (h3 : -1100 ≤ J) (h4 : J ≤ 1105) : sh < J := by
  obtain ⟨a, g, nd, tr, _, _, h1, _⟩ := h
  exact h1.lt_one hS hL hK hdp hdp2 h3 h4

/-- Where it is not too great, the integer next to it is the shifted number's. -/
theorem ri_walk {w : World} {b K L xx : Nat} {dp sh J : Int} {neg : Bool} {d0 V : Nat} (h : StL w b K L xx dp sh neg d0 V) (hS : Size K L xx J) (hL : 3000 ≤ L) (hK : 2000 ≤ K) (hdp : -1000 ≤ dp) (h1 : sh ≤ J + 53) (h2 : -1101 ≤ sh) (h3 : sh ≤ 1104) :
    Calls Tryz.prog 201 #[.pointer (some ⟨b, 0, none⟩)] w (IntEnd .u64 ((rhe xx (10 ^ K * 2 ^ ((L : Int) - sh).toNat) : Nat) : Int) w) := by
  obtain ⟨a, g, nd, tr, hdec, hdig, hst, hg0, hV, hgl⟩ := h
  have hdp2 : dp ≤ 18 := by
    refine Int.not_lt.1 fun hc => ?_
    have hb := (vv_bounds (K := K) (L := L) (sh := sh) (dp := dp) hst.g9 hst.g0 hst.pos (by have := hst.le; omega)).1
    have h5 : 10 ^ 17 * 10 ^ K ≤ 10 ^ (dp - 1 + K).toNat := ten_join (by omega)
    have h6 := Nat.lt_of_le_of_lt (Nat.le_trans (Nat.le_trans (Nat.mul_le_mul_right _ h5) hb) hst.inv.le) hS.2.2
    have h7 : 2 ^ ((L : Int) - J + 1).toNat ≤ 2 ^ ((L : Int) - sh).toNat * 2 ^ 54 := by
      rw [← Nat.pow_add]; exact Nat.pow_le_pow_right (by omega) (by omega)
    have h8 := Nat.lt_of_lt_of_le h6 (Nat.mul_le_mul_left (10 ^ K) h7)
    have hp : 0 < 10 ^ K := Nat.pow_pos (by omega)
    generalize 10 ^ K = p at *
    generalize 2 ^ ((L : Int) - sh).toNat = q at *
    have c1 : 10 ^ 17 * p * q = 10 ^ 17 * (p * q) := Nat.mul_assoc ..
    have c2 : p * (q * 2 ^ 54) = p * q * 2 ^ 54 := (Nat.mul_assoc ..).symm
    rw [c1, c2] at h8
    generalize p * q = z at *
    omega
  have hr := round_ok (a := g) hst.inv (fun i _ => hst.g9 i (by omega)) (fun _ => hgl) h2 h3 hL (by have := hst.le; omega) (Nat.lt_of_lt_of_le hS.2.2 (Nat.mul_le_mul_left _ (Nat.pow_le_pow_right (by omega) (by omega))))
  rw [← hr]
  exact rint_walk b a g nd dp neg tr w hst.le hdig hdec hdp2 hst.pos

theorem StAt.drewN {w : World} {b K L xx : Nat} {dp sh : Int} {neg : Bool} {d0 V : Nat} (h : StAt w b K L xx dp sh neg d0 V) (n : Nat) : StAt (w.drewN n) b K L xx dp sh neg d0 V := by
  obtain ⟨a, g, nd, tr, h1, h2⟩ := h
  exact ⟨a, g, nd, tr, h1.drewN n, h2⟩


end Go.Proofs.YtnpinogjajhlhaaGreatDoor.Fl
end
section
/- A scope in which the run jumps forward, once, to one of two labels: from there it goes straight. -/
namespace Go

/-- As Q; by a goto to one of two labels: what stands behind it, without a goto more. -/
def Exit.ahead (P : Program) (l1 l2 : Nat) (r1 r2 : Code) (Q : Exit → Act → World → Prop) : Exit → Act → World → Prop
  | .goto l, a, w => (l = l1 ∧ r1.wp P (Exit.noGoto Q) a w) ∨ (l = l2 ∧ r2.wp P (Exit.noGoto Q) a w)
  | e, a, w => Q e a w

section
variable {P : Program} {a : Act} {w : World} {Q : Exit → Act → World → Prop}

@[go_sem] theorem Exit.ahead_normal {l1 l2 : Nat} {r1 r2 : Code} : Exit.ahead P l1 l2 r1 r2 Q .normal a w = Q .normal a w := rfl
@[go_sem] theorem Exit.ahead_exit {l1 l2 : Nat} {r1 r2 : Code} (id : Nat) : Exit.ahead P l1 l2 r1 r2 Q (.exit id) a w = Q (.exit id) a w := rfl
@[go_sem] theorem Exit.ahead_ret {l1 l2 : Nat} {r1 r2 : Code} : Exit.ahead P l1 l2 r1 r2 Q .ret a w = Q .ret a w := rfl

theorem wp_scope_ahead {c r1 r2 : Code} (l1 l2 : Nat) (hf1 : findLabel c l1 = some r1) (hf2 : findLabel c l2 = some r2)
    (first : c.wp P (Exit.ahead P l1 l2 r1 r2 Q) a w) : (Code.scope c).wp P Q a w := by
  intro b k cs
  have key : ∀ (l : Nat) (rest : Code), findLabel c l = some rest → ∀ a w, rest.wp P (Exit.noGoto Q) a w →
      ∃ e a' w', Q e a' w' ∧ Arrives P (lone (b.at a (.code rest :: .inScope c :: k)) cs w) b k cs e a' w' := by
    intro l rest _ a w hr
    obtain ⟨e, a₁, w₁, hq, harr⟩ := hr b (.inScope c :: k) cs
    cases e with
    | normal => exact ⟨.normal, a₁, w₁, hq, Steps.trans harr (.one step_inScope)⟩
    | exit id => exact ⟨.exit id, a₁, w₁, hq, fun k' hk => harr k' (by simp [exitTo, hk])⟩
    | goto l' => exact hq.elim
    | ret => exact ⟨_, a₁, w₁, hq, harr⟩
    | panic ch => exact ⟨_, a₁, w₁, hq, harr⟩
    | outgrown => exact ⟨_, a₁, w₁, hq, harr⟩
  obtain ⟨e, a₁, w₁, hq, harr⟩ := first b (.inScope c :: k) cs
  cases e with
  | normal => exact ⟨.normal, a₁, w₁, hq, .head step_scope (Steps.trans harr (.one step_inScope))⟩
  | exit id => exact ⟨.exit id, a₁, w₁, hq, fun k' hk => .head step_scope (harr k' (by simp [exitTo, hk]))⟩
  | goto l' =>
    rcases hq with ⟨rfl, hr⟩ | ⟨rfl, hr⟩
    · obtain ⟨e₂, a₂, w₂, hq₂, harr₂⟩ := key _ _ hf1 a₁ w₁ hr
      exact ⟨e₂, a₂, w₂, hq₂, .of_steps (.head step_scope (harr _ (by simp [gotoIn, hf1]))) harr₂⟩
    · obtain ⟨e₂, a₂, w₂, hq₂, harr₂⟩ := key _ _ hf2 a₁ w₁ hr
      exact ⟨e₂, a₂, w₂, hq₂, .of_steps (.head step_scope (harr _ (by simp [gotoIn, hf2]))) harr₂⟩
  | ret => exact ⟨_, a₁, w₁, hq, .of_steps (.one step_scope) harr⟩
  | panic ch => exact ⟨_, a₁, w₁, hq, .of_steps (.one step_scope) harr⟩
  | outgrown => exact ⟨_, a₁, w₁, hq, .of_steps (.one step_scope) harr⟩
end
end Go
end
