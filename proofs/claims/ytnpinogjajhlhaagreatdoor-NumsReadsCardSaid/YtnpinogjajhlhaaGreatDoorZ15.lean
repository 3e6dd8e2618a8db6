/- A part of the proof that lexiconlaw03.NumsReads answers true at every kind and every text: DwLeft, DwShift. No condition. -/
import Derived.Test.YtnpinogjajhlhaaGreatDoorZ14
import Derived.Test.YtnpinogjajhlhaaGreatDoorZ09
import Derived.Test.YtnpinogjajhlhaaGreatDoorZ10
import Derived.Deep.DeepCutAuto
import Derived.Deep.CutBlock
section
/- leftShift, walked. -/
namespace Go.Proofs.YtnpinogjajhlhaaGreatDoor.Fl
open Go.RowKit

/-- The cheat sheet in memory, in blocks below B. -/
def CheatsAt (w : World) (B : Nat) : Prop :=
  16 < B ∧ ∃ cb co, cb < B ∧ w.cell? ⟨16, 0, none⟩ = some (.slice (some ⟨cb, co, none⟩) 61 61) ∧
    ∀ k, k < 61 → w.cell? ⟨cb, co + k * 2, none⟩ = some (.int .i64 (cheat k).1) ∧ w.cell? ⟨cb, co + k * 2 + 1, none⟩ = some (.string ⟨(cheat k).2.toArray⟩)

theorem CheatsAt.below {w w' : World} {B : Nat} (h : CheatsAt w B) (hb : Below B w w') : CheatsAt w' B := by
  obtain ⟨h0, cb, co, h1, h2, h3⟩ := h
  exact ⟨h0, cb, co, h1, (hb.cell (p := ⟨_, 0, none⟩) h0).trans h2, fun k hk => ⟨(hb.cell (p := ⟨cb, _, none⟩) h1).trans (h3 k hk).1, (hb.cell (p := ⟨cb, _, none⟩) h1).trans (h3 k hk).2⟩⟩

theorem sdig_cheat {k : Nat} (h1 : 1 ≤ k) (h2 : k ≤ 60) : SDig ⟨(cheat k).2.toArray⟩ (cdig k) ∧ (⟨(cheat k).2.toArray⟩ : ByteArray).size = clen k ∧ 1 ≤ clen k ∧ clen k ≤ 50 ∧ cdig k (clen k - 1) ≠ 0 := by
  have hok := cheat_ok h1 h2
  unfold cheatOk at hok
  simp only [Bool.and_eq_true, decide_eq_true_eq] at hok
  obtain ⟨⟨⟨⟨⟨_, h50⟩, _⟩, hall⟩, hl1⟩, hl5⟩ := hok
  have hsz : (⟨(cheat k).2.toArray⟩ : ByteArray).size = clen k := by show (cheat k).2.toArray.size = _; simp [clen]
  refine ⟨fun i hi => ?_, hsz, hl1, h50, by rw [hl5]; omega⟩
  have hi2 : i < (cheat k).2.length := by rw [hsz] at hi; exact hi
  have he : (⟨(cheat k).2.toArray⟩ : ByteArray)[i] = (cheat k).2[i] := by show (cheat k).2.toArray[i] = _; simp
  have hm := List.all_eq_true.1 hall _ (List.getElem_mem hi2)
  simp only [Bool.and_eq_true, decide_eq_true_eq] at hm
  have hc : cdig k i = ((cheat k).2[i]).toNat - 48 := by unfold cdig; simp [List.getD, hi2]
  rw [he, hc]; omega

/-- What leftShift leaves. -/
def LeftPost (b : Nat) (g : Nat → Nat) (nd : Nat) (dp : Int) (neg tr : Bool) (k B : Nat) (w : World) (e : Ending) (w' : World) : Prop :=
  e = .returned (.tuple #[]) ∧ ∃ (a' : Nat → Int) (q : Nat → Nat) (nd' : Nat) (dp' : Int) (lost : Bool) (W : Nat),
    DecAt w' b a' nd' dp' neg (tr || lost) ∧ Dig a' q nd' ∧ Cut (num g nd * 2 ^ k) W (num q nd') nd' lost ∧ 1 ≤ nd' ∧ q 0 ≠ 0 ∧ q (nd' - 1) ≠ 0 ∧
    dp' - W = dp - nd ∧ dp ≤ dp' ∧ dp' ≤ dp + 20 ∧ Below B w w'

/-- The walk's words for a number and its last digit. -/
theorem u64_tenth {t : Nat} (h : t < 18446744073709551616) : IntKind.u64.wrap ((t : Int) / 10) = ((t / 10 : Nat) : Int) ∧ IntKind.u64.wrap ((t : Int) - IntKind.u64.wrap (10 * ((t / 10 : Nat) : Int))) = ((t % 10 : Nat) : Int) := by
  have h1 : (t : Int) / 10 = ((t / 10 : Nat) : Int) := by push_cast; rfl
  have h2 : IntKind.u64.wrap (10 * ((t / 10 : Nat) : Int)) = 10 * ((t / 10 : Nat) : Int) := IntWalk.u64_in _ ⟨by omega, by omega⟩
  rw [h1, h2]
  refine ⟨IntWalk.u64_in _ ⟨by omega, by omega⟩, ?_⟩
  have h3 : (t : Int) - 10 * ((t / 10 : Nat) : Int) = ((t % 10 : Nat) : Int) := by omega
  rw [h3]
  exact IntWalk.u64_in _ ⟨by omega, by omega⟩

set_option maxHeartbeats 8000000 in
set_option maxRecDepth 100000 in
theorem left_walk (b : Nat) (a : Nat → Int) (g : Nat → Nat) (nd : Nat) (dp : Int) (neg tr : Bool) (k : Nat) (w : World) (hnd : nd ≤ 800) (hpos : 0 < nd) (hk : 1 ≤ k) (hk2 : k ≤ 60) (h : DecAt w b a nd dp neg tr)
   (hg : Dig a g nd) (hg0 : g 0 ≠ 0) (hdp1 : -100000 ≤ dp) (hdp2 : dp ≤ 100000) (B : Nat) (hB : B ≤ b) (hch : CheatsAt w B) :
    Calls Tryz.prog 192 #[.pointer (some ⟨b, 0, none⟩), .int .u64 k] w (LeftPost b g nd dp neg tr k B w) := by
  have c0 := h.nd
  have cp := h.dp
  have A0 : Aside (DecAt w b a nd dp neg tr ∧ Dig a g nd ∧ g 0 ≠ 0) := ⟨h, hg, hg0⟩
  clear h hg hg0
  have hsc := sdig_cheat hk hk2
  have hok := cheat_ok hk hk2
  obtain ⟨h0, cb, co, hcb, hcg, hcc⟩ := hch
  have hc1 := (hcc k (by omega)).1
  have hc2 := (hcc k (by omega)).2
  have hl := fun n => less_walk b a g (cdig k) nd dp neg tr ⟨(cheat k).2.toArray⟩ (w.drewN n) hnd (A0.out.1.drewN n) A0.out.2.1 hsc.1 (by rw [hsc.2.1]; exact hsc.2.2.1) (by rw [hsc.2.1]; exact Nat.le_trans hsc.2.2.2.1 (by decide)) (by rw [hsc.2.1]; exact hsc.2.2.2.2)
  simp only [hsc.2.1] at hl
  have hdig := fun δ => cheat_digits (δ := δ) hk hk2 (fun i hi => (A0.out.2.1 i hi).2) A0.out.2.2 hpos
  have hd0 : 1 ≤ (cheat k).1 ∧ (cheat k).1 ≤ 19 := by
    unfold cheatOk at hok
    simp only [Bool.and_eq_true, decide_eq_true_eq] at hok
    exact hok.1.1.1.1.1.1.1.1
  generalize hS : (⟨(cheat k).2.toArray⟩ : ByteArray) = S at *
  generalize hd : (cheat k).1 = d at *
  generalize fless g nd (cdig k) (clen k) = f at *
  have HL := Lib.hid hl
  have HD := Lib.hid hdig
  clear hl hdig hS hd hok hsc hcc
  have hk60 : (k : Int) ≤ 60 := by omega
  have hnd8 : (nd : Int) ≤ 800 := by omega
  go_enter Tryz.func192, Tryz.ntmps192
  go_wp2_with fail
  go_quiet ((go_at_call 204; exact Calls.quiet_of (HL.out _)))
  go_upto_if 30 with (fail)
  go_cut [4] (fun dl wc => (∃ n, wc = w.drewN n) ∧ ∃ δ : Nat, dl = .int .i64 δ ∧ δ = d - if f = true then 1 else 0)
  case first =>
    cases f
    · go_wp2_with fail
      go_meet
      exact ⟨⟨_, rfl⟩, d, rfl, rfl⟩
    · go_wp2_with fail
      go_meet
      exact ⟨⟨_, rfl⟩, d - 1, congrArg (Value.int .i64) (by omega), rfl⟩
  case rest =>
    obtain ⟨⟨n0, hw⟩, δ, rfl, hδ⟩ := hcut
    have HDD := Lib.hid (HD.out δ hδ)
    have hδ19 : (δ : Int) ≤ 19 := by omega
    have AW : Hid (DecAt wc b a nd dp neg tr ∧ Below B w wc) := by rw [hw]; exact ⟨A0.out.1.drewN _, belowN (Below.refl _ _) _⟩
    clear hδ hw c0 cp
    have c0 := AW.out.1.nd
    have AK : Hid (2 ^ k ≤ 1152921504606846976 ∧ 0 < (2 : Nat) ^ k) := by
      have h1 : (2 : Nat) ^ k ≤ 2 ^ 60 := Nat.pow_le_pow_right (by omega) hk2
      have h2 : (2 : Nat) ^ 60 = 1152921504606846976 := by decide
      exact ⟨by omega, Nat.two_pow_pos k⟩
    go_upto_block 0 with (fail)
    go_cut [5, 6, 7, 8, 9] (fun r wv n qo re wc2 => ∃ (n' : Nat) (a' : Nat → Int) (e : Nat → Nat) (lost : Bool), wv = .int .i64 δ ∧ n = .int .u64 n' ∧
      Aside (Lp g e nd (nd + δ) k 0 δ n' lost ∧ DecAt wc2 b a' nd dp neg (tr || lost) ∧ (∀ j, δ ≤ j → j < min (nd + δ) 800 → a' j = 48 + (e j : Int))) ∧ Below B w wc2)
    case first =>
      go_wp2_with fail
      go_loopg [5, 6, 7, 8, 9] nd (fun m r wv n qo re wr => ∃ (i n' : Nat) (a' : Nat → Int) (e : Nat → Nat) (lost : Bool), r = .int .i64 ((i : Int) - 1) ∧ wv = .int .i64 ((i + δ : Nat) : Int) ∧ n = .int .u64 n' ∧
        Aside (m = i ∧ i ≤ nd ∧ Lp g e nd (nd + δ) k i (i + δ) n' lost ∧ DecAt wr b a' nd dp neg (tr || lost) ∧ (∀ j, j < i → a' j = 48 + (g j : Int)) ∧ (∀ j, i + δ ≤ j → j < min (nd + δ) 800 → a' j = 48 + (e j : Int))) ∧ Below B w wr)
      case atStart =>
        refine ⟨nd, 0, a, fun _ => 0, false, rfl, by go_num, rfl, ⟨rfl, Nat.le_refl _, ?_, by rw [Bool.or_false]; exact AW.out.1, fun j hj => (A0.out.2.1 j hj).1, fun j h1 h2 => by omega⟩, AW.out.2⟩
        refine ⟨?_, fun i h1 h2 => by omega, ?_⟩
        · rw [Nat.sub_self, Nat.sub_self]; simp [num]
        · simp
      case round =>
        obtain ⟨i, n', a', e, lost, rfl, rfl, rfl, hA, hb⟩ := hrel
        by_cases hi : i = 0
        · subst hi
          go_wp2_with fail
          go_meet
          have h1 := hA.out
          exact ⟨n', a', e, lost, congrArg (Value.int .i64) (by omega), rfl, ⟨by have := h1.2.2.1; rwa [Nat.zero_add] at this, h1.2.2.2.1, fun j h2 h3 => h1.2.2.2.2.2 j (by omega) h3⟩, hb⟩
        · obtain ⟨hm, hin, hlp, hdec, hlow, hhigh⟩ := hA.out
          have c1 := hdec.dig (i - 1) (by omega)
          rw [hlow (i - 1) (by omega)] at c1
          have hg9 := (A0.out.2.1 (i - 1) (by omega)).2
          have hnl := hlp.nlt (fun j hj => (A0.out.2.1 j hj).2) (by omega)
          have hAK := AK.out
          have hi1 : ((i : Int) - 1).toNat = i - 1 := by omega
          have hi2 : 0 ≤ (i : Int) - 1 := by omega
          have hi3 : (i : Int) - 1 < 800 := by omega
          have hg9' : (g (i - 1) : Int) ≤ 9 := by omega
          have htot : ∃ t q rm : Nat, IntKind.u64.wrap ((n' : Int) + IntKind.u64.wrap ((48 + (g (i - 1) : Int) - 48) * 2 ^ k)) = (t : Int) ∧ IntKind.u64.wrap ((t : Int) / 10) = (q : Int) ∧
              IntKind.u64.wrap ((t : Int) - IntKind.u64.wrap (10 * (q : Int))) = (rm : Int) ∧ t = n' + g (i - 1) * 2 ^ k ∧ q = t / 10 ∧ rm = t % 10 := by
            have hgk : g (i - 1) * 2 ^ k ≤ 9 * 2 ^ k := Nat.mul_le_mul_right _ hg9
            have e1 : (48 + (g (i - 1) : Int) - 48) * 2 ^ k = ((g (i - 1) * 2 ^ k : Nat) : Int) := by push_cast; congr 1; omega
            have e2 : IntKind.u64.wrap ((g (i - 1) * 2 ^ k : Nat) : Int) = ((g (i - 1) * 2 ^ k : Nat) : Int) := IntWalk.u64_in _ ⟨by omega, by omega⟩
            have e3 : IntKind.u64.wrap ((n' : Int) + ((g (i - 1) * 2 ^ k : Nat) : Int)) = ((n' + g (i - 1) * 2 ^ k : Nat) : Int) := by
              rw [IntWalk.u64_in _ ⟨by omega, by omega⟩]; push_cast; rfl
            have e4 := u64_tenth (t := n' + g (i - 1) * 2 ^ k) (by omega)
            exact ⟨_, _, _, by rw [e1, e2, e3], e4.1, e4.2, rfl, rfl, rfl⟩
          obtain ⟨t, q, rm, ht1, ht2, ht3, ht4, ht5, ht6⟩ := htot
          have HT : Hid (t = n' + g (i - 1) * 2 ^ k ∧ q = t / 10 ∧ rm = t % 10) := ⟨ht4, ht5, ht6⟩
          have hrm : (rm : Int) ≤ 9 := by omega
          have HA : Hid (gk = i ∧ i ≤ nd ∧ Lp g e nd (nd + δ) k i (i + δ) n' lost ∧ DecAt wr b a' nd dp neg (tr || lost) ∧ (∀ j, j < i → a' j = 48 + (g j : Int)) ∧ (∀ j, i + δ ≤ j → j < min (nd + δ) 800 → a' j = 48 + (e j : Int))) := hA.out
          clear hnl hAK hg9 ht4 ht5 ht6 hA hlp hlow hhigh hm
          have hi0 : 1 ≤ i := by omega
          clear hi
          have hw1 : 0 ≤ (i : Int) + (δ : Int) - 1 := by omega
          have hw2 : ((i : Int) + (δ : Int) - 1).toNat = i + δ - 1 := by omega
          by_cases hw8 : i + δ - 1 < 800
          · have c2 := hdec.dig (i + δ - 1) hw8
            have f2 := hdec.fr (i + δ - 1)
            have hw3 : (i : Int) + (δ : Int) - 1 < 800 := by omega
            clear hdec
            go_wp2
            go_roundg (i - 1)
            case measure => have := HA.out.1; omega
            case rel =>
              have h1 := HA.out
              have h2 := HT.out
              have hpk := h1.2.2.1.pick hi0 h1.2.1 (by omega)
              rw [← h2.1] at hpk
              have hput := h1.2.2.1.put (by omega) (by omega) hpk
              rw [decide_eq_false (by omega), Bool.false_and, Bool.or_false, ← h2.2.1, show i + δ - 1 = i - 1 + δ from by omega] at hput
              refine ⟨i - 1, q, fun j => if j = i + δ - 1 then (rm : Int) + 48 else a' j, fun j => if j = i - 1 + δ then t % 10 else e j, lost, congrArg (Value.int .i64) (by omega), congrArg (Value.int .i64) (by omega), rfl, ⟨rfl, by omega, hput, h1.2.2.2.1.setDig hw8 _, ?_, ?_⟩, hb.setCell hB _⟩
              · intro j hj
                have hne : ¬ j = i + δ - 1 := by omega
                simp only [hne, if_false]; exact h1.2.2.2.2.1 j (by omega)
              · intro j hj1 hj2
                by_cases hje : j = i - 1 + δ
                · have : j = i + δ - 1 := by omega
                  simp only [this, if_true]; rw [if_pos (show i + δ - 1 = i - 1 + δ by omega), ← h2.2.2]; omega
                · have : ¬ j = i + δ - 1 := by omega
                  simp only [hje, this, if_false]; exact h1.2.2.2.2.2 j (by omega) hj2
          · have hw3 : 800 ≤ (i : Int) + (δ : Int) - 1 := by omega
            have c2 := hdec.tr
            have f2 := hdec.fr 803
            clear hdec
            by_cases hrm0 : rm = 0
            · subst hrm0
              go_wp2
              go_roundg (i - 1)
              case measure => have := HA.out.1; omega
              case rel =>
                have h1 := HA.out
                have h2 := HT.out
                have hpk := h1.2.2.1.pick hi0 h1.2.1 (by omega)
                rw [← h2.1] at hpk
                have hput := h1.2.2.1.put (by omega) (by omega) hpk
                rw [decide_eq_false (p := t % 10 ≠ 0) (by omega), Bool.and_false, Bool.or_false, ← h2.2.1, show i + δ - 1 = i - 1 + δ from by omega] at hput
                refine ⟨i - 1, q, a', fun j => if j = i - 1 + δ then t % 10 else e j, lost, congrArg (Value.int .i64) (by omega), congrArg (Value.int .i64) (by omega), rfl, ⟨rfl, by omega, hput, h1.2.2.2.1, fun j hj => h1.2.2.2.2.1 j (by omega), fun j hj1 hj2 => ?_⟩, hb⟩
                have hne : ¬ j = i - 1 + δ := by omega
                simp only [hne, if_false]; exact h1.2.2.2.2.2 j (by omega) hj2
            · have hrm1 : 0 < rm := by omega
              have t9 : ((rm : Int) != 0) = true := by simp; omega
              go_wp2
              go_roundg (i - 1)
              case measure => have := HA.out.1; omega
              case rel =>
                have h1 := HA.out
                have h2 := HT.out
                have hpk := h1.2.2.1.pick hi0 h1.2.1 (by omega)
                rw [← h2.1] at hpk
                have hput := h1.2.2.1.put (by omega) (by omega) hpk
                rw [decide_eq_true (p := t % 10 ≠ 0) (by omega), decide_eq_true (show 800 ≤ i + δ - 1 by omega), Bool.and_true, Bool.or_true, ← h2.2.1, show i + δ - 1 = i - 1 + δ from by omega] at hput
                refine ⟨i - 1, q, a', fun j => if j = i - 1 + δ then t % 10 else e j, true, congrArg (Value.int .i64) (by omega), congrArg (Value.int .i64) (by omega), rfl, ⟨rfl, by omega, hput, by rw [Bool.or_true]; exact h1.2.2.2.1.setTr true, fun j hj => h1.2.2.2.2.1 j (by omega), fun j hj1 hj2 => ?_⟩, hb.setCell hB _⟩
                have hne : ¬ j = i - 1 + δ := by omega
                simp only [hne, if_false]; exact h1.2.2.2.2.2 j (by omega) hj2
    case rest =>
      obtain ⟨n', a', e, lost, rfl, rfl, hA, hb⟩ := hcut
      go_wp2_with fail
      go_loopg [6, 7, 10, 11] δ (fun m wv n qo re wr => ∃ (v n' : Nat) (a' : Nat → Int) (e : Nat → Nat) (lost : Bool), wv = .int .i64 v ∧ n = .int .u64 n' ∧
        Aside (m = v ∧ v ≤ δ ∧ Lp g e nd (nd + δ) k 0 v n' lost ∧ DecAt wr b a' nd dp neg (tr || lost) ∧ (∀ j, v ≤ j → j < min (nd + δ) 800 → a' j = 48 + (e j : Int))) ∧ Below B w wr)
      case atStart => exact ⟨δ, n', a', e, lost, rfl, rfl, ⟨rfl, Nat.le_refl _, hA.out⟩, hb⟩
      case round =>
        obtain ⟨v, n', a', e, lost, rfl, rfl, hA, hb⟩ := hrel
        have hleft := hA.out.2.2.1.left (by have := hA.out.2.1; omega) HDD.out.1 HDD.out.2
        by_cases hv : v = 0
        · subst hv
          have hn0 := hleft.2.1 rfl
          subst hn0
          obtain ⟨_, _, hlp, hdec, hdg⟩ := hA.out
          have HP : Hid (Lp g e nd (nd + δ) k 0 0 0 lost ∧ (∀ j, j < min (nd + δ) 800 → a' j = 48 + (e j : Int) ∧ e j ≤ 9)) := ⟨hlp, fun j hj => ⟨hdg j (by omega) hj, hlp.e9 j (by omega) (by omega)⟩⟩
          have c1 := hdec.nd
          have c2 := hdec.dp
          have f1 := hdec.fr 800
          have f2 := hdec.fr 801
          have fin : ∀ (m' : Nat) (w' w2 : World) (ee : Ending), m' = min (nd + δ) 800 → DecAt w2 b a' m' (dp + δ) neg (tr || lost) → Below B w w2 → TrimPost b a' m' (dp + δ) neg (tr || lost) B w2 ee w' → LeftPost b g nd dp neg tr k B w ee w' := by
            intro m' w' w2 ee hm' _ hb2 hT
            obtain ⟨he, m2, hm1, hm2, hm3, hdec', hb'⟩ := hT
            have hd := HDD.out
            have hP := HP.out
            have hdn := hP.1.done (m := m2) (by omega) hd.1 hd.2 (by omega) (fun i hi1 hi2 => by
              have e1 := hm2 i hi1 (by omega)
              have e2 := (hP.2 i hi2).1
              omega)
            have hm0 := hdn.2.1
            rw [if_neg (by omega)] at hdec'
            have hl1 := hm3 (by omega)
            have hl2 := (hP.2 (m2 - 1) (by omega)).1
            exact ⟨he, a', e, m2, dp + δ, lost, nd + δ, hdec', fun i hi => hP.2 i (by omega), hdn.1, hm0, hdn.2.2, by omega, by omega, by omega, by omega, hb2.trans hb'⟩
          have FIN := Lib.hid fin
          have HDE : Hid (DecAt wr b a' nd dp neg (tr || lost) ∧ Below B w wr) := ⟨hdec, hb⟩
          clear fin hdec hlp hdg hA hleft
          by_cases h8 : 800 ≤ nd + δ
          · go_wp2_with fail
            refine (trim_walk b a' 800 (dp + δ) neg (tr || lost) B _ (by omega) ?_ hB).mono ?_
            · exact ((HDE.out.1.setNd _).setNd _).setDp _
            intro ee w' hT
            have HT := Lib.hid hT
            clear hT
            rw [HT.out.1]
            go_wp2_with fail
            go_end0
            exact FIN.out 800 _ _ _ (by omega) (((HDE.out.1.setNd _).setNd _).setDp _) (((HDE.out.2.setCell hB _).setCell hB _).setCell hB _) ⟨rfl, HT.out.2⟩
          · go_wp2_with fail
            refine (trim_walk b a' (nd + δ) (dp + δ) neg (tr || lost) B _ (by omega) ?_ hB).mono ?_
            · exact (HDE.out.1.setNd _).setDp _
            intro ee w' hT
            have HT := Lib.hid hT
            clear hT
            rw [HT.out.1]
            go_wp2_with fail
            go_end0
            exact FIN.out (nd + δ) _ _ _ (by omega) ((HDE.out.1.setNd _).setDp _) ((HDE.out.2.setCell hB _).setCell hB _) ⟨rfl, HT.out.2⟩
        · have hn0 := hleft.1 (by omega)
          have h10 : (10 : Nat) ^ v ≤ 10 ^ 19 := Nat.pow_le_pow_right (by omega) (by have := hA.out.2.1; omega)
          have h19 : (10 : Nat) ^ 19 = 10000000000000000000 := by decide
          have htot : ∃ q rm : Nat, IntKind.u64.wrap ((n' : Int) / 10) = (q : Int) ∧ IntKind.u64.wrap ((n' : Int) - IntKind.u64.wrap (10 * (q : Int))) = (rm : Int) ∧ q = n' / 10 ∧ rm = n' % 10 := by
            have e4 := u64_tenth (t := n') (by have := hleft.2.2; omega)
            exact ⟨_, _, e4.1, e4.2, rfl, rfl⟩
          obtain ⟨q, rm, ht2, ht3, ht5, ht6⟩ := htot
          have HT : Hid (q = n' / 10 ∧ rm = n' % 10) := ⟨ht5, ht6⟩
          have hrm : (rm : Int) ≤ 9 := by omega
          have HA : Hid (gk = v ∧ v ≤ δ ∧ Lp g e nd (nd + δ) k 0 v n' lost ∧ DecAt wr b a' nd dp neg (tr || lost) ∧ (∀ j, v ≤ j → j < min (nd + δ) 800 → a' j = 48 + (e j : Int))) := hA.out
          have hdec := hA.out.2.2.2.1
          have hvi : 1 ≤ v := by omega
          have hv1 : ((v : Int) - 1).toNat = v - 1 := by omega
          have hv2 : 0 ≤ (v : Int) - 1 := by omega
          have hv3 : (v : Int) - 1 < 800 := by have := hA.out.2.1; omega
          have c2 := hdec.dig (v - 1) (by omega)
          have f2 := hdec.fr (v - 1)
          clear hleft h10 h19 ht5 ht6 hA hdec hv
          go_wp2
          go_roundg (v - 1)
          case measure => have := HA.out.1; omega
          case rel =>
            have h1 := HA.out
            have h2 := HT.out
            have hput := h1.2.2.1.put (by omega) (by omega) h1.2.2.1.eq
            rw [decide_eq_false (by omega), Bool.false_and, Bool.or_false, ← h2.1] at hput
            refine ⟨v - 1, q, fun j => if j = v - 1 then (rm : Int) + 48 else a' j, fun j => if j = v - 1 then n' % 10 else e j, lost, congrArg (Value.int .i64) (by omega), rfl, ⟨rfl, by omega, hput, h1.2.2.2.1.setDig (by omega) _, ?_⟩, hb.setCell hB _⟩
            intro j hj1 hj2
            by_cases hje : j = v - 1
            · simp only [hje, if_true]; rw [← h2.2]; omega
            · simp only [hje, if_false]; exact h1.2.2.2.2 j (by omega) hj2
end Go.Proofs.YtnpinogjajhlhaaGreatDoor.Fl
end
section
/- Shift, walked: the decimal stands for the shifted number. -/
namespace Go.Proofs.YtnpinogjajhlhaaGreatDoor.Fl
open Go.RowKit

/-- In block b lies a decimal that stands for xx, shifted by sh to the left: its point at dp, its first digit d0, its own value V. -/
def StAt (w : World) (b K L xx : Nat) (dp sh : Int) (neg : Bool) (d0 V : Nat) : Prop :=
  ∃ (a : Nat → Int) (g : Nat → Nat) (nd : Nat) (tr : Bool), DecAt w b a nd dp neg tr ∧ Dig a g nd ∧ St K L xx g nd dp sh tr ∧ g 0 = d0 ∧ vv K L (num g nd) (dp - nd) sh = V

/-- As StAt, and the last digit is none of the noughts. -/
def StL (w : World) (b K L xx : Nat) (dp sh : Int) (neg : Bool) (d0 V : Nat) : Prop :=
  ∃ (a : Nat → Int) (g : Nat → Nat) (nd : Nat) (tr : Bool), DecAt w b a nd dp neg tr ∧ Dig a g nd ∧ St K L xx g nd dp sh tr ∧ g 0 = d0 ∧ vv K L (num g nd) (dp - nd) sh = V ∧ g (nd - 1) ≠ 0

def ShPost (b K L xx : Nat) (dp sh : Int) (neg : Bool) (lo hi : Int) (Q : Nat → Prop) (B : Nat) (w : World) (e : Ending) (w' : World) : Prop :=
  e = .returned (.tuple #[]) ∧ ∃ dp' d0 V, StAt w' b K L xx dp' sh neg d0 V ∧ dp + lo ≤ dp' ∧ dp' ≤ dp + hi ∧ Q V ∧ Below B w w' ∧ StL w' b K L xx dp' sh neg d0 V

set_option maxHeartbeats 1000000 in
/-- To the left, at once. -/
theorem shl_walk (b K L xx : Nat) (dp sh : Int) (neg : Bool) (d0 V k : Nat) (w : World) (hk : 1 ≤ k) (hk2 : k ≤ 60) (h : StAt w b K L xx dp sh neg d0 V) (B : Nat) (hB : B ≤ b) (hch : CheatsAt w B)
    (hK : 2000 ≤ K) (hL : 3000 ≤ L) (hdp : -1000 ≤ dp) (hdp2 : dp ≤ 600) (hsh : sh + k ≤ 2000) (hr : -310 ≤ dp ∨ 0 ≤ sh + k) :
    Calls Tryz.prog 163 #[.pointer (some ⟨b, 0, none⟩), .int .i64 k] w (ShPost b K L xx dp (sh + k) neg 0 20 (· ≤ V) B w) := by
  obtain ⟨a, g, nd, tr, hdec, hdig, ⟨_, hnd0, hnd, hg0, hinv⟩, _, hV⟩ := h
  have hw := left_walk b a g nd dp neg tr k w hnd hnd0 hk hk2 hdec hdig hg0 (by omega) (by omega) B hB hch
  have fin : ∀ e w', LeftPost b g nd dp neg tr k B w e w' → ShPost b K L xx dp (sh + k) neg 0 20 (· ≤ V) B w e w' := by
    rintro e w' ⟨he, a', q, nd', dp', lost, W, h1, h2, h3, h4, h5, h6, h7, h8, h9, h10⟩
    have st : St K L xx q nd' dp' (sh + k) (tr || lost) := ⟨fun i hi => (h2 i hi).2, h4, h3.nd_le', h5, inv_left hK hL hinv h3 h7 hnd hdp hsh (by omega) (by omega)⟩
    exact ⟨he, dp', q 0, _, ⟨a', q, nd', tr || lost, h1, h2, st, rfl, rfl⟩, by omega, by omega, by rw [← hV]; exact left_le h3 h7 (by omega) (by omega), h10, ⟨a', q, nd', tr || lost, h1, h2, st, rfl, rfl, h6⟩⟩
  have c0 := hdec.nd
  have HW := Lib.hid hw
  have FIN := Lib.hid fin
  have t1 : ((nd : Int) == 0) = false := by rw [beq_eq_false_iff_ne]; omega
  have hk0 : (0 : Int) < k := by omega
  have hk6 : (k : Int) ≤ 60 := by omega
  clear hw fin hdec hdig hinv hg0 hr hV
  go_enter Tryz.func163, Tryz.ntmps163
  go_wp2_with fail
  go_loopg [1] 0 (fun m kv wr => wr = w ∧ kv = .int .i64 k)
  case atStart => exact ⟨rfl, rfl⟩
  case round =>
    obtain ⟨hw, rfl⟩ := hrel
    obtain rfl := hw.symm
    go_wp2_with fail
    refine HW.out.mono ?_
    intro e w' hq
    have HQ := Lib.hid (FIN.out e w' hq)
    rw [HQ.out.1]
    clear hq
    go_wp2_with fail
    go_end0
    exact ⟨rfl, HQ.out.2⟩

/-- One chunk to the right, as a fact. -/
theorem shr_step {b K L xx : Nat} {dp sh : Int} {neg : Bool} {d0 V k B : Nat} {w : World} (hk : 1 ≤ k) (hk2 : k ≤ 60) (h : StAt w b K L xx dp sh neg d0 V) (hB : B ≤ b)
    (hK : 2000 ≤ K) (hL : 3000 ≤ L) (hdp : -900 ≤ dp) (hdp2 : dp ≤ 600) (hsh : sh ≤ 2000) (hr : -280 ≤ dp) :
    Calls Tryz.prog 193 #[.pointer (some ⟨b, 0, none⟩), .int .u64 k] w (ShPost b K L xx dp (sh - k) neg (-30) 0 (fun _ => True) B w) := by
  obtain ⟨a, g, nd, tr, hdec, hdig, ⟨_, hnd0, hnd, hg0, hinv⟩, _, _⟩ := h
  refine (right_walk b a g nd dp neg tr k w hnd hnd0 hk hk2 hdec hdig hg0 (by omega) (by omega) B hB).mono ?_
  rintro e w' ⟨he, a', q, nd', dp', lost, X, W, M, h1, h2, h3, h4, h5, h6, h7, h8, h9, h10, h11, h12⟩
  have st : St K L xx q nd' dp' (sh - k) (tr || lost) := ⟨fun i hi => (h2 i hi).2, h4, h3.nd_le', h5, inv_right hK hL hinv h3 h7 h8 hnd h11 (by omega) hsh (by omega) (by omega)⟩
  exact ⟨he, dp', q 0, _, ⟨a', q, nd', tr || lost, h1, h2, st, rfl, rfl⟩, by omega, by omega, trivial, h12, ⟨a', q, nd', tr || lost, h1, h2, st, rfl, rfl, h6⟩⟩

set_option maxHeartbeats 1000000 in
/-- To the right: by chunks of 60. -/
theorem shr_walk (b K L xx : Nat) (dp sh : Int) (neg : Bool) (d0 V k : Nat) (w : World) (hk : 1 ≤ k) (hk2 : k ≤ 120) (h : StAt w b K L xx dp sh neg d0 V) (B : Nat) (hB : B ≤ b)
    (hK : 2000 ≤ K) (hL : 3000 ≤ L) (hdp2 : dp ≤ 600) (hsh : sh ≤ 2000) (hr : -200 ≤ dp) :
    Calls Tryz.prog 163 #[.pointer (some ⟨b, 0, none⟩), .int .i64 (-(k : Int))] w (ShPost b K L xx dp (sh - k) neg (-60) 0 (fun _ => True) B w) := by
  have A0 : Aside (StAt w b K L xx dp sh neg d0 V) := h
  obtain ⟨a, g, nd, tr, hdec, _, ⟨_, hnd0, _, _, _⟩, _, _⟩ := h
  have c0 := hdec.nd
  have t1 : ((nd : Int) == 0) = false := by rw [beq_eq_false_iff_ne]; omega
  have hk0 : ¬ (0 : Int) < -(k : Int) := by omega
  have hk1 : -(k : Int) < 0 := by omega
  clear hdec
  go_enter Tryz.func163, Tryz.ntmps163
  go_wp2_with fail
  go_loopg [1] 1 (fun m kv wr => ∃ (j : Nat) (dp' : Int) (d0' V' : Nat), kv = .int .i64 (-(j : Int)) ∧ Aside (m ≤ 1 ∧ 1 ≤ j ∧ j ≤ 60 * (m + 1) ∧ j ≤ k ∧ StAt wr b K L xx dp' (sh - (k - j : Nat)) neg d0' V' ∧ dp - 30 * (1 - (m : Int)) ≤ dp' ∧ dp' ≤ dp) ∧ Below B w wr)
  case atStart => exact ⟨k, dp, d0, V, rfl, ⟨by omega, hk, by omega, Nat.le_refl _, by rw [Nat.sub_self]; simpa using A0.out, by omega, by omega⟩, Below.refl _ _⟩
  case round =>
    obtain ⟨j, dp', d0', V', rfl, hA, hb⟩ := hrel
    obtain ⟨hm, hj1, hj2, hjk, hst, hd1, hd2⟩ := hA.out
    by_cases h6 : 60 < j
    · have hS := shr_step (k := 60) (B := B) (by omega) (by omega) hst hB hK hL (by omega) (by omega) (by omega) (by omega)
      have HS := Lib.hid hS
      have HJ : Hid (gk ≤ 1 ∧ 1 ≤ j ∧ j ≤ 60 * (gk + 1) ∧ j ≤ k ∧ dp - 30 * (1 - (gk : Int)) ≤ dp' ∧ dp' ≤ dp) := ⟨hm, hj1, hj2, hjk, hd1, hd2⟩
      have t6 : -(j : Int) < -60 := by omega
      have hj8 : (j : Int) ≤ 120 := by omega
      clear hS hst hA hm hj2 hjk hd1 hd2 hj1
      go_wp2_with fail
      refine HS.out.mono ?_
      intro e w' hq
      have HQ := Lib.hid hq
      rw [HQ.out.1]
      clear hq
      go_wp2_with fail
      go_roundg 0
      case measure => have := HJ.out; omega
      case rel =>
        obtain ⟨_, dp2, d2, V2, q1, q2, q3, _, q4, _⟩ := HQ.out
        have hJ := HJ.out
        refine ⟨j - 60, dp2, d2, V2, congrArg (Value.int .i64) (by omega), ⟨by omega, by omega, by omega, by omega, ?_, by omega, by omega⟩, hb.trans q4⟩
        have e1 : (sh - ((k - j : Nat) : Int) - ((60 : Nat) : Int)) = sh - ((k - (j - 60) : Nat) : Int) := by omega
        rw [e1] at q1; exact q1
    · have hS := shr_step (k := j) (B := B) (by omega) (by omega) hst hB hK hL (by omega) (by omega) (by omega) (by omega)
      have HS := Lib.hid hS
      have HJ : Hid (gk ≤ 1 ∧ 1 ≤ j ∧ j ≤ 60 * (gk + 1) ∧ j ≤ k ∧ dp - 30 * (1 - (gk : Int)) ≤ dp' ∧ dp' ≤ dp) := ⟨hm, hj1, hj2, hjk, hd1, hd2⟩
      have t6 : ¬ -(j : Int) < -60 := by omega
      have hj8 : (j : Int) ≤ 120 := by omega
      clear hS hst hA hm hj2 hjk hd1 hd2 hj1
      go_wp2_with fail
      refine HS.out.mono ?_
      intro e w' hq
      have HQ := Lib.hid hq
      rw [HQ.out.1]
      clear hq
      go_wp2_with fail
      go_end0
      obtain ⟨_, dp2, d2, V2, q1, q2, q3, _, q4, q6⟩ := HQ.out
      have hJ := HJ.out
      have e1 : (sh - ((k - j : Nat) : Int) - (j : Int)) = sh - k := by omega
      rw [e1] at q1 q6
      exact ⟨rfl, dp2, d2, V2, q1, by omega, by omega, trivial, hb.trans q4, q6⟩

/-- A format's three numbers in memory, below B. -/
def InfoAt (w : World) (gi B : Nat) (mb eb : Nat) (bias : Int) : Prop :=
  gi < B ∧ w.cell? ⟨gi, 0, none⟩ = some (.int .u64 mb) ∧ w.cell? ⟨gi, 1, none⟩ = some (.int .u64 eb) ∧ w.cell? ⟨gi, 2, none⟩ = some (.int .i64 bias)

theorem InfoAt.below {w w' : World} {gi B mb eb : Nat} {bias : Int} (h : InfoAt w gi B mb eb bias) (hb : Below B w w') : InfoAt w' gi B mb eb bias :=
  ⟨h.1, (hb.cell (p := ⟨gi, 0, none⟩) h.1).trans h.2.1, (hb.cell (p := ⟨gi, 1, none⟩) h.1).trans h.2.2.1, (hb.cell (p := ⟨gi, 2, none⟩) h.1).trans h.2.2.2⟩

def ptab : List Nat := [1, 3, 6, 9, 13, 16, 19, 23, 26]

/-- The table of powers in memory, below B. -/
def PowtabAt (w : World) (B : Nat) : Prop :=
  13 < B ∧ ∃ pb po, pb < B ∧ w.cell? ⟨13, 0, none⟩ = some (.slice (some ⟨pb, po, none⟩) 9 9) ∧ ∀ k, k < 9 → w.cell? ⟨pb, po + k, none⟩ = some (.int .i64 (ptab.getD k 0 : Nat))

theorem PowtabAt.below {w w' : World} {B : Nat} (h : PowtabAt w B) (hb : Below B w w') : PowtabAt w' B := by
  obtain ⟨h0, pb, po, h1, h2, h3⟩ := h
  exact ⟨h0, pb, po, h1, (hb.cell (p := ⟨_, 0, none⟩) h0).trans h2, fun k hk => (hb.cell (p := ⟨pb, _, none⟩) h1).trans (h3 k hk)⟩

/-- What floatBits gives: the nearest rung, with the sign, and whether it is beyond. -/
def FbPost (f : Ieee.Format) (Lo K L xx : Nat) (neg : Bool) (B : Nat) (w : World) (e : Ending) (w' : World) : Prop :=
  ∃ r : Nat, RN f.binade (2 ^ (Lo + 1)) xx (10 ^ K * 2 ^ L) r ∧ e = .returned (.tuple #[.int .u64 (f.word neg (min r f.infRung) : Nat), .bool (decide (f.infRung ≤ r))]) ∧ Below B w w'

end Go.Proofs.YtnpinogjajhlhaaGreatDoor.Fl
end
