/- A part of the proof that lexiconlaw03.NumsReads answers true at every kind and every text: DwSpec, DwRound. No condition. -/
import Derived.Test.YtnpinogjajhlhaaGreatDoorZ01
import Derived.Test.YtnpinogjajhlhaaGreatDoorZ10
import Derived.Test.YtnpinogjajhlhaaGreatDoorZ08
import Derived.Deep.DeepCutAuto
import Derived.Deep.CutBlock
import Derived.IntWalk
section
/- special: at a number's text it finds none. -/
namespace Go.Proofs.YtnpinogjajhlhaaGreatDoor.Fl
open Go.RowKit

def IntEndI (r : Int) (w : World) (e : Ending) (w' : World) : Prop := e = .returned (.int .i64 r) ∧ w' = w

/-- No common prefix with "infinity", where the first byte is a digit. -/
theorem cpl_walk (S : ByteArray) (w : World) (d : Nat) (hd : d ≤ 9) (h0 : 0 < S.size) (hc : (S[0].toNat : Int) = 48 + (d : Int)) :
    Calls Tryz.prog 197 #[.string S, .string ⟨#[105, 110, 102, 105, 110, 105, 116, 121]⟩] w (IntEndI 0 w) := by
  have hpos1 : ¬ S = ByteArray.empty := fun hc => by rw [hc] at h0; exact absurd h0 (by decide)
  have hd' : (d : Int) ≤ 9 := by omega
  have hx : ((48 : Int) + (d : Int) != (((⟨#[105, 110, 102, 105, 110, 105, 116, 121]⟩ : ByteArray)[0]'(by decide)).toNat : Int)) = true := by
    have e : ((((⟨#[105, 110, 102, 105, 110, 105, 116, 121]⟩ : ByteArray)[0]'(by decide)).toNat : Int)) = 105 := rfl
    rw [e]; simp; omega
  clear hd
  go_enter Tryz.func197, Tryz.ntmps197
  go_wp2_with fail
  all_goals
    go_loopg [6] 1 (fun mm i wr => i = .int .i64 0 ∧ wr = w)
    case atStart => exact ⟨rfl, rfl⟩
    case round =>
      obtain ⟨rfl, rfl⟩ := hrel
      go_wp2_with fail
      go_ret
      exact ⟨rfl, rfl⟩

def SpecPost (w : World) (e : Ending) (w' : World) : Prop := e = .returned (.tuple #[.float .f64 0, .int .i64 0, .bool false]) ∧ w' = w

theorem special_walk (S : ByteArray) (neg : Bool) (n : Nat) (g : Nat → Nat) (en : Bool) (m : Nat) (h : Nat → Nat) (w : World) (hS : Txt S neg n g en m h) :
    Calls Tryz.prog 166 #[.string S] w (SpecPost w) := by
  have AT : Hid (Txt S neg n g en m h) := Lib.hid hS
  have hbig := hS.big
  have hpos : 0 < S.size := by have := hS.size; omega
  have hpos1 : ¬ S = ByteArray.empty := fun hc => by rw [hc] at hpos; exact absurd hpos (by decide)
  clear hS
  go_enter Tryz.func166, Tryz.ntmps166
  cases hneg : neg with
  | false =>
    have hc := AT.out.d0 0 hpos (by rw [hneg]; rfl)
    have h9 := AT.out.g9 0 AT.out.pos
    have hc1 : ((S[0].toNat : Int) == 43) = false := by rw [beq_eq_false_iff_ne]; omega
    have hc2 : ((S[0].toNat : Int) == 45) = false := by rw [beq_eq_false_iff_ne]; omega
    have hc3 : ((S[0].toNat : Int) == 105) = false := by rw [beq_eq_false_iff_ne]; omega
    have hc4 : ((S[0].toNat : Int) == 73) = false := by rw [beq_eq_false_iff_ne]; omega
    have hc5 : ((S[0].toNat : Int) == 110) = false := by rw [beq_eq_false_iff_ne]; omega
    have hc6 : ((S[0].toNat : Int) == 78) = false := by rw [beq_eq_false_iff_ne]; omega
    have HE := Lib.hid hneg
    clear hc h9 hneg
    go_wp2_with fail
    go_ret3
    exact ⟨rfl, rfl⟩
  | true =>
    have hc := AT.out.sign 0 hpos rfl hneg
    have hc1 : ((S[0].toNat : Int) == 43) = false := by rw [beq_eq_false_iff_ne]; omega
    have hc2 : ((S[0].toNat : Int) == 45) = true := by rw [beq_iff_eq]; omega
    have h1 : 1 < S.size := by have h2 := AT.out.size; have := AT.out.pos; rw [hneg] at h2; simp at h2; omega
    have hcd := AT.out.d0 1 h1 (by rw [hneg]; rfl)
    have h9 := AT.out.g9 0 AT.out.pos
    have HX : Hid (0 < (S.extract 1 S.size).size ∧ ∀ h0 : 0 < (S.extract 1 S.size).size, ((S.extract 1 S.size)[0].toNat : Int) = 48 + (g 0 : Int)) := by
      have hz : (S.extract 1 S.size).size = S.size - 1 := by rw [ByteArray.size_extract]; omega
      refine Lib.hid ⟨by omega, fun h0 => ?_⟩
      rw [ByteArray.getElem_extract]; exact hcd
    have H9 := Lib.hid h9
    clear hneg h9 hcd h1
    go_wp2_with fail
    refine (cpl_walk _ _ (g 0) H9.out HX.out.1 (HX.out.2 _)).mono ?_
    rintro e w' ⟨rfl, rfl⟩
    go_wp2_with fail
    go_ret3
    exact ⟨rfl, rfl⟩
end Go.Proofs.YtnpinogjajhlhaaGreatDoor.Fl
end
section
/- The decimal's rounding to a whole number: shouldRoundUp, RoundedInteger, walked. -/
namespace Go.Proofs.YtnpinogjajhlhaaGreatDoor.Fl
open Go.RowKit

/-- shouldRoundUp as Go asks it of the bytes. -/
def upI (a : Nat → Int) (nd : Nat) (tr : Bool) (p : Int) : Bool :=
  if p < 0 ∨ (nd : Int) ≤ p then false
  else if a p.toNat = 53 ∧ p + 1 = nd then (if tr = true then true else decide (0 < p) && ((a (p.toNat - 1) - 48) % 2 != 0))
  else decide (53 ≤ a p.toNat)

def BoolEnd (r : Bool) (w : World) (e : Ending) (w' : World) : Prop := e = .returned (.bool r) ∧ w' = w

set_option maxHeartbeats 1000000 in
theorem sru_walk (b : Nat) (a : Nat → Int) (nd : Nat) (dp : Int) (neg tr : Bool) (p : Int) (w : World) (hnd : nd ≤ 800) (ha : ∀ i, i < nd → 48 ≤ a i ∧ a i ≤ 57) (h : DecAt w b a nd dp neg tr) :
    Calls Tryz.prog 194 #[.pointer (some ⟨b, 0, none⟩), .int .i64 p] w (BoolEnd (upI a nd tr p) w) := by
  have c0 := h.nd
  have ct := h.tr
  have hd := h.dig
  clear h
  by_cases h1 : p < 0
  · have hr : Hid (upI a nd tr p = false) := by
      refine Lib.hid ?_
      unfold upI; rw [if_pos (Or.inl h1)]
    clear hd
    go_enter Tryz.func194, Tryz.ntmps194
    go_wp2
    go_ret
    exact ⟨by rw [hr.out]; rfl, rfl⟩
  · obtain ⟨k, rfl⟩ : ∃ k : Nat, p = k := ⟨p.toNat, by omega⟩
    by_cases h2 : nd ≤ k
    · have hr : Hid (upI a nd tr k = false) := by
        refine Lib.hid ?_
        unfold upI; rw [if_pos (Or.inr (by omega))]
      clear hd
      go_enter Tryz.func194, Tryz.ntmps194
      go_wp2
      go_ret
      exact ⟨by rw [hr.out]; rfl, rfl⟩
    · have hr : upI a nd tr k = if a k = 53 ∧ (k : Int) + 1 = nd then (if tr = true then true else decide (0 < (k : Int)) && ((a (k - 1) - 48) % 2 != 0)) else decide (53 ≤ a k) := by
        unfold upI; rw [if_neg (by omega), Int.toNat_natCast]
      have c1 := hd k (by omega)
      have hk8 : (k : Int) < 800 := by omega
      have hk0 : 0 ≤ (k : Int) := by omega
      have b1 := (ha k (by omega)).1
      have b2 := (ha k (by omega)).2
      by_cases h5 : a k = 53
      · by_cases h6 : k + 1 = nd
        · cases tr with
          | true =>
            have hR : Hid (upI a nd true k = true) := Lib.hid (by rw [hr, if_pos ⟨h5, by omega⟩, if_pos rfl])
            have t1 : (a k == 53) = true := by simp [h5]
            have t2 : ((k : Int) + 1 == (nd : Int)) = true := by simp; omega
            clear hd hr h5 h6 ha
            go_enter Tryz.func194, Tryz.ntmps194
            go_wp2
            go_ret
            exact ⟨by rw [hR.out]; rfl, rfl⟩
          | false =>
            by_cases h7 : k = 0
            · subst h7
              have hR : Hid (upI a nd false 0 = false) := Lib.hid (by rw [show (0 : Int) = ((0 : Nat) : Int) from rfl, hr, if_pos ⟨h5, by omega⟩]; simp)
              have t1 : (a 0 == 53) = true := by simp [h5]
              have t2 : (((0 : Nat) : Int) + 1 == (nd : Int)) = true := by simp; omega
              have t3 : ((1 : Int) == (nd : Int)) = true := by simp; omega
              clear hd hr h5 h6 ha
              go_enter Tryz.func194, Tryz.ntmps194
              go_wp2
              go_ret
              exact ⟨by rw [hR.out]; rfl, rfl⟩
            · have c2 := hd (k - 1) (by omega)
              have b3 := (ha (k - 1) (by omega)).1
              have b4 := (ha (k - 1) (by omega)).2
              have e1 : ((k : Int) - 1).toNat = k - 1 := by omega
              have e2 : 0 ≤ (k : Int) - 1 := by omega
              have e3 : (k : Int) - 1 < 800 := by omega
              have e4 : 0 < k := by omega
              have hR : Hid (upI a nd false k = ((a (k - 1) - 48) % 2 != 0)) := Lib.hid (by
                rw [hr, if_pos ⟨h5, by omega⟩]; simp only [Bool.false_eq_true, if_false]; rw [decide_eq_true (show 0 < (k : Int) by omega), Bool.true_and])
              have t1 : (a k == 53) = true := by simp [h5]
              have t2 : ((k : Int) + 1 == (nd : Int)) = true := by simp; omega
              clear hd hr h5 h6 h7 ha
              go_enter Tryz.func194, Tryz.ntmps194
              go_wp2
              go_ret
              refine ⟨?_, rfl⟩
              rw [hR.out]
              refine congrArg (fun x => Ending.returned (.bool x)) ?_
              rfl
        · have hR : Hid (upI a nd tr k = true) := Lib.hid (by rw [hr, if_neg (by omega)]; simp; omega)
          have t1 : (a k == 53) = true := by simp [h5]
          have t2 : ((k : Int) + 1 == (nd : Int)) = false := by simp; omega
          have t3 : 53 ≤ a k := by omega
          clear hd hr h5 h6 ha
          go_enter Tryz.func194, Tryz.ntmps194
          go_wp2
          go_ret
          exact ⟨by rw [hR.out]; rfl, rfl⟩
      · have hR : Hid (upI a nd tr k = decide (53 ≤ a k)) := Lib.hid (by rw [hr, if_neg (fun hh => h5 hh.1)])
        have t1 : (a k == 53) = false := by simp [h5]
        clear hd hr h5 ha
        go_enter Tryz.func194, Tryz.ntmps194
        go_wp2
        go_ret
        exact ⟨by rw [hR.out]; rfl, rfl⟩

/-- The bytes of digits. -/
def Dig (a : Nat → Int) (g : Nat → Nat) (nd : Nat) : Prop := ∀ i, i < nd → a i = 48 + (g i : Int) ∧ g i ≤ 9

theorem upI_eq {a : Nat → Int} {g : Nat → Nat} {nd : Nat} (h : Dig a g nd) (tr : Bool) (p : Int) : upI a nd tr p = upAt g nd tr p := by
  unfold upI upAt
  by_cases h1 : p < 0 ∨ (nd : Int) ≤ p
  · rw [if_pos h1, if_pos h1]
  · rw [if_neg h1, if_neg h1]
    obtain ⟨k, rfl⟩ : ∃ k : Nat, p = k := ⟨p.toNat, by omega⟩
    rw [Int.toNat_natCast]
    have hk := h k (by omega)
    have e1 : (a k = 53) ↔ (g k = 5) := by omega
    have e2 : decide (53 ≤ a k) = decide (5 ≤ g k) := decide_eq_decide.2 (by omega)
    rw [e2]
    by_cases h2 : a k = 53 ∧ (k : Int) + 1 = nd
    · rw [if_pos h2, if_pos (show g k = 5 ∧ (k : Int) + 1 = nd from ⟨e1.1 h2.1, h2.2⟩)]
      congr 1
      by_cases h3 : (0 : Int) < k
      · have hk1 := h (k - 1) (by omega)
        rw [decide_eq_true h3, Bool.true_and, Bool.true_and, hk1.1]
        have : (48 + (g (k - 1) : Int) - 48) % 2 = ((g (k - 1) % 2 : Nat) : Int) := by omega
        rw [this]
        rcases Nat.mod_two_eq_zero_or_one (g (k - 1)) with hm | hm <;> rw [hm] <;> rfl
      · rw [decide_eq_false h3]; rfl
    · rw [if_neg h2, if_neg (fun hh => h2 ⟨e1.2 hh.1, hh.2⟩)]

def IntEnd (k : IntKind) (r : Int) (w : World) (e : Ending) (w' : World) : Prop := e = .returned (.int k r) ∧ w' = w

set_option maxHeartbeats 8000000 in
theorem rint_walk (b : Nat) (a : Nat → Int) (g : Nat → Nat) (nd : Nat) (dp : Int) (neg tr : Bool) (w : World) (hnd : nd ≤ 800) (ha : Dig a g nd) (h : DecAt w b a nd dp neg tr) (hdp : dp ≤ 18) (hpos : 0 < nd) :
    Calls Tryz.prog 201 #[.pointer (some ⟨b, 0, none⟩)] w (IntEnd .u64 (rint g nd dp tr) w) := by
  have c0 := h.nd
  have ct := h.tr
  have cp := h.dp
  have hd := h.dig
  have A0 : Aside (DecAt w b a nd dp neg tr ∧ Dig a g nd) := ⟨h, ha⟩
  clear h ha
  have hdp2 : ¬ 20 < dp := by omega
  go_enter Tryz.func201, Tryz.ntmps201
  go_wp2_with fail
  go_loop [3, 4] (fun i n => ∃ k : Nat, (k : Int) ≤ max dp 0 ∧ k ≤ nd ∧ i = .int .i64 k ∧ n = .int .u64 (num g k : Nat)) (fun i _ => nd - (intOf i).toNat)
  case atStart => exact ⟨0, by omega, by omega, rfl, rfl⟩
  case round =>
    obtain ⟨k, hk1, hk2, rfl, rfl⟩ := hrel
    by_cases h1 : (k : Int) < dp ∧ k < nd
    · have hg := (A0.out.2 k (by omega)).1
      have hg9 := (A0.out.2 k (by omega)).2
      have c1 : w.cell? ⟨b, k, none⟩ = some (.int .u8 (48 + (g k : Int))) := by rw [← hg]; exact hd k (by omega)
      have hN : ((num g k : Nat) : Int) ≤ 1000000000000000000 := by
        have h1 := num_lt (a := g) (w := k) fun i hi => (A0.out.2 i (by omega)).2
        have h2 : 10 ^ k ≤ 10 ^ 18 := Nat.pow_le_pow_right (by omega) (by omega)
        have : 10 ^ 18 = 1000000000000000000 := by decide
        omega
      have hk8 : (k : Int) < 800 := by omega
      have ha1 := h1.1
      have ha2 := h1.2
      have hg9' : (g k : Int) ≤ 9 := by omega
      clear h1 hg hg9 hd
      generalize hZ : num g k = z at *
      have HZ := Lib.hid hZ
      clear hZ
      go_wp2
      go_round
      case rel => exact ⟨k + 1, by omega, by omega, by go_num, by rw [num, HZ.out]; exact congrArg (Value.int .u64) (by push_cast; omega)⟩
      case measure => simp [intOf]; omega
    · have hkk : k = min dp.toNat nd := by omega
      have hkd : (k : Int) < dp → nd ≤ k := by omega
      clear hd h1
      have HK := Lib.hid hkk
      clear hkk
      generalize hZ : num g k = z at *
      have HZ := Lib.hid hZ
      clear hZ
      have HR : Hid (rint g nd dp tr = z * 10 ^ (dp - k).toNat + if upI a nd tr dp = true then 1 else 0) := by
        refine Lib.hid ?_
        unfold rint
        rw [upI_eq A0.out.2]
        congr 1
        by_cases hc : dp ≤ nd
        · rw [if_pos hc, show dp.toNat = k from by have := HK.out; omega, HZ.out, show (dp - k).toNat = 0 from by have := HK.out; omega]; simp
        · rw [if_neg hc, show nd = k from by have := HK.out; omega, HZ.out]
      have hzb : Hid (z < 10 ^ k) := by
        refine Lib.hid ?_
        rw [← HZ.out]
        exact num_lt fun i hi => (A0.out.2 i (by omega)).2
      have hk18 : k ≤ 18 ∨ k = 0 := by have := HK.out; omega
      by_cases h2 : (k : Int) < dp
      all_goals
        go_wp2_with fail
        go_loopg [3, 4] (dp - k).toNat (fun m i n wr => wr = w ∧ ∃ j : Nat, k ≤ j ∧ (j : Int) ≤ max dp k ∧ m = (dp - k).toNat - (j - k) ∧ i = .int .i64 j ∧ n = .int .u64 (z * 10 ^ (j - k) : Nat))
        case atStart => exact ⟨rfl, k, by omega, by omega, by omega, rfl, by simp⟩
        case round =>
          obtain ⟨hww, j, hj1, hj2, hgk, rfl, rfl⟩ := hrel
          obtain rfl := hww.symm
          have HGK := Lib.hid hgk
          clear hgk
          have hB : z * 10 ^ (j - k) < 10 ^ j := by
            have := Nat.mul_lt_mul_of_pos_right hzb.out (Nat.pow_pos (n := j - k) (show 0 < 10 by omega))
            rwa [← Nat.pow_add, show k + (j - k) = j from by omega] at this
          have hB2 : 10 ^ j ≤ 10 ^ 18 := Nat.pow_le_pow_right (by omega) (by omega)
          have hB3 : 10 ^ 18 = 1000000000000000000 := by decide
          by_cases h3 : (j : Int) < dp
          · by_cases h9 : dp ≤ k
            · exfalso; omega
            clear h9
            have hB4 : 10 ^ (j + 1) ≤ 10 ^ 18 := Nat.pow_le_pow_right (by omega) (by omega)
            have hB5 : ((z * 10 ^ (j - k) : Nat) : Int) ≤ 100000000000000000 := by rw [Nat.pow_succ] at hB4; omega
            have hs : Hid (z * 10 ^ (j + 1 - k) = z * 10 ^ (j - k) * 10) := Lib.hid (by rw [show j + 1 - k = j - k + 1 from by omega, Nat.pow_succ, Nat.mul_assoc])
            clear hB hB2 hB3 hB4
            generalize z * 10 ^ (j - k) = y at *
            have HJ : Hid (k ≤ j ∧ (j : Int) ≤ max dp k) := ⟨hj1, hj2⟩
            clear hj1 hj2 hk18
            go_wp2
            go_roundg ((dp - k).toNat - (j + 1 - k))
            case rel => have hj := HJ.out; exact ⟨rfl, j + 1, by omega, by omega, rfl, by go_num, by rw [hs.out]; exact congrArg (Value.int .u64) (by push_cast; omega)⟩
            case measure => have := HGK.out; have := HJ.out; omega
          · have hje : Hid ((dp - k).toNat = j - k) := Lib.hid (by omega)
            have hB5 : ((z * 10 ^ (j - k) : Nat) : Int) ≤ 1000000000000000000 := by omega
            clear hB hB2 hB3
            have HR2 : Hid (rint g nd dp tr = z * 10 ^ (j - k) + if upI a nd tr dp = true then 1 else 0) := Lib.hid (by rw [HR.out, hje.out])
            generalize z * 10 ^ (j - k) = y at *
            have hS := sru_walk b a nd dp neg tr dp w hnd (fun i hi => by have := A0.out.2 i hi; omega) A0.out.1
            clear hj1 hj2 hk18
            generalize upI a nd tr dp = u at *
            have HS := Lib.hid hS
            clear hS
            cases u
            all_goals
              go_wp2_with (go_at_call 194; refine HS.out.mono ?_; rintro e w' ⟨rfl, rfl⟩)
              go_ret
              exact ⟨by rw [HR2.out]; rfl, rfl⟩
end Go.Proofs.YtnpinogjajhlhaaGreatDoor.Fl
end
