/- A part of the proof that lexiconlaw03.NumsReads answers true at every kind and every text: Tl. No condition. -/
import Derived.Test.YtnpinogjajhlhaaGreatDoorZ44
import Derived.Test.YtnpinogjajhlhaaGreatDoorZ32
import Derived.Test.YtnpinogjajhlhaaGreatDoorZ36
import Derived.Test.YtnpinogjajhlhaaGreatDoorZ40
section
/- A NUMBER taken apart: what its digits and its power of ten are worth. No program here. -/
namespace Go.Proofs.YtnpinogjajhlhaaGreatDoor.Fl
open Ieee

/-- One ratio, with noughts behind the digits or without. -/
theorem vn_shift (N j : Nat) (X : Int) : vn (N * 10 ^ j) X * vd (X + j) = vn N (X + j) * vd X := by
  unfold vn vd
  have e : 10 ^ j * 10 ^ X.toNat * 10 ^ (-(X + j)).toNat = 10 ^ (X + j).toNat * 10 ^ (-X).toNat := by
    rw [← Nat.pow_add, ← Nat.pow_add, ← Nat.pow_add]; congr 1; omega
  calc N * 10 ^ j * 10 ^ X.toNat * 10 ^ (-(X + j)).toNat = N * (10 ^ j * 10 ^ X.toNat * 10 ^ (-(X + j)).toNat) := by ac_rfl
    _ = N * 10 ^ (X + j).toNat * 10 ^ (-X).toNat := by rw [e]; ac_rfl

/-- Digits as floats reads them. -/
def FlD (D : List UInt8) : Prop := allD D ∧ (D = [] ∨ (10 ^ (D.length - 1) ≤ nv D ∧ nv D % 10 ≠ 0 ∧ nv D < 10 ^ D.length))

theorem nv_lt : ∀ {l : List UInt8}, allD l → nv l < 10 ^ l.length := by
  intro l hl
  have h9 : ∀ i, i < l.length → gl l i ≤ 9 := fun i hi => (gl_at hl hi).choose_spec.2.2
  rw [← num_gl]; exact num_lt h9

section
variable {ds fs : List UInt8} {hx : Bool} {sg es : List UInt8} {D : List UInt8} {X : Int}

theorem told_fld (hd : allD (ds ++ fs)) (h : ToldP ds fs hx sg es D X) : FlD D := by
  have hT : allD (Lib.trimLeftB (ds ++ fs) 48) := fun x hx => hd x ((List.dropWhile_suffix _).sublist.subset hx)
  by_cases hne : Lib.trimLeftB (ds ++ fs) 48 = []
  · have : D = [] := by rw [h.1, hne]; rfl
    rw [this]
    exact ⟨fun x hx => absurd hx (List.not_mem_nil), Or.inl rfl⟩
  · obtain ⟨j, h1, h2, h3, h4, h5, h6⟩ := wh_trim hd hne
    rw [← h.1] at h3 h4 h6
    exact ⟨h6, Or.inr ⟨h4, h3, nv_lt h6⟩⟩

theorem told_size (h : ToldP ds fs hx sg es D X) : D.length ≤ ds.length + fs.length := by
  obtain ⟨j, hj⟩ := trim_split (Lib.trimLeftB (ds ++ fs) 48)
  have h1 := congrArg List.length hj
  have h2 := trimLeft_len (ds ++ fs) 48
  rw [List.length_append] at h1 h2
  rw [h.1]; omega

theorem num_len {S : ByteArray} {neg pt : Bool} {c : UInt8} (hN : NumL S.data.toList neg ds pt fs hx c sg es) (hb : S.size ≤ 67108864) : ds.length + fs.length ≤ 67108864 ∧ allD (ds ++ fs) := by
  refine ⟨?_, fun x hx => ?_⟩
  · have h1 : S.data.toList.length = S.size := (size_list S).symm
    rw [hN.eq] at h1
    simp only [List.length_append] at h1
    by_cases hp : pt = true
    · rw [if_pos hp] at h1; simp only [List.length_cons] at h1; omega
    · rw [hN.fs0 (by simpa using hp)]; simp; omega
  · rcases List.mem_append.1 hx with h | h
    · exact hN.dsd x h
    · exact hN.fsd x h

theorem told_nil (h : ToldP ds fs hx sg es D X) (hne : Lib.trimLeftB (ds ++ fs) 48 = []) : D = [] ∧ X = 0 ∧ valV ds fs = 0 := by
  have hD : D = [] := by rw [h.1, hne]; rfl
  refine ⟨hD, h.2.2.2.1 hD, ?_⟩
  unfold valV; rw [← nv_trim, hne]; rfl

/-- From what floats finds to the NUMBER's own value. -/
theorem told_near {f : Format} {Lo k T1 T2 : Nat} (hf : Fit f Lo) (hT1 : T1 ≤ 1000) (hT2 : T2 ≤ 999) (hk : 2 ^ k ≤ 10 ^ T1) (hS : 2 ^ (Lo + 1) ≤ 10 ^ T2)
    (hinf : f.infRung ≤ (k + Lo - f.fractionBits) * f.binade + f.binade) (hd : allD (ds ++ fs)) (hl : ds.length + fs.length ≤ 67108864) (h : ToldP ds fs hx sg es D X) {rc : Nat}
    (hr : RN f.binade (2 ^ (Lo + 1)) (vn (nv D) X) (vd X) rc) :
    ∃ r, RN f.binade (2 ^ (Lo + 1)) (vn (valV ds fs) (valX fs hx sg es)) (vd (valX fs hx sg es)) r ∧ ((f.infRung ≤ rc ∧ f.infRung ≤ r) ∨ r = rc) := by
  by_cases hne : Lib.trimLeftB (ds ++ fs) 48 = []
  · obtain ⟨e1, e2, e3⟩ := told_nil h hne
    have hn0 : nv D = 0 := by rw [e1]; rfl
    have h0 := rn_nought (nv D) X hn0 (binade_pos f) (S := 2 ^ (Lo + 1))
    have := hr.unique (binade_pos f) (vd_pos _) (vd_pos _) h0 rfl
    subst this
    exact ⟨0, rn_nought _ _ e3 (binade_pos f), Or.inr rfl⟩
  · obtain ⟨j, h1, h2, h3, h4, h5, h6⟩ := wh_trim hd hne
    obtain ⟨-, hX1, hX2, -, hX4⟩ := id h
    have hT := trimLeft_len (ds ++ fs) 48
    rw [List.length_append] at hT
    rw [← h.1] at h1 h2 h3 h4 h5 h6
    have hDne : D ≠ [] := fun e => by rw [e] at h5; simp at h5
    obtain ⟨tx, ht1, ht2⟩ := hX4 hDne
    have hlt := nv_lt h6
    have hVV : valV ds fs = nv D * 10 ^ j := h2
    obtain ⟨L, hL⟩ : ∃ L, D.length = L := ⟨_, rfl⟩
    rw [hL] at h1 h4 h5 hlt ht1
    have hvx : ve L (X + L - 1) = X := by unfold ve; omega
    have hvy : ve L (valX fs hx sg es + j + L - 1) = valX fs hx sg es + j := by unfold ve; omega
    have hnear : Near (X + L - 1) (valX fs hx sg es + j + L - 1) := by
      unfold Near valX
      generalize (Lib.trimLeftB (ds ++ fs) 48).length = t at *
      clear hvx hvy hr
      cases hx with
      | true =>
        simp only [if_true] at ht2 ⊢
        rcases ht2 with e | ⟨-, e1, e2⟩ | ⟨-, e1, e2⟩ <;> omega
      | false =>
        simp only [Bool.false_eq_true, if_false, false_and, or_false] at ht2 ⊢
        omega
    rw [← hvx] at hr
    obtain ⟨r, hr1, hr2⟩ := rd_near (k := k) hf h5 (Or.inr h4) hlt hnear hT1 hT2 hk hS hinf hr
    rw [hvy] at hr1
    refine ⟨r, ?_, hr2⟩
    rw [hVV]
    exact hr1.same (vd_pos _) (vd_pos _) (vn_shift _ _ _).symm

theorem fitV_zero (s : Int) (neg : Bool) : fitV s neg 0 = some 0 := by
  unfold fitV
  cases neg <;> simp

theorem told_whole {s : Int} {neg : Bool} (hd : allD (ds ++ fs)) (hl : ds.length + fs.length ≤ 67108864) (h : ToldP ds fs hx sg es D X) :
    (X < 0 ∨ 30 < (D.length : Int) + X → WhSpec s neg (valV ds fs) (valX fs hx sg es) 0 31) ∧
    (∀ n : Nat, X = n → D.length + n ≤ 30 → (∀ b, fitV s neg (nv (D ++ List.replicate n 48)) = some b → WhSpec s neg (valV ds fs) (valX fs hx sg es) b 0) ∧
      (fitV s neg (nv (D ++ List.replicate n 48)) = none → WhSpec s neg (valV ds fs) (valX fs hx sg es) 0 31)) := by
  by_cases hne : Lib.trimLeftB (ds ++ fs) 48 = []
  · obtain ⟨e1, e2, e3⟩ := told_nil h hne
    subst e1
    refine ⟨fun h => by rw [e2] at h; simp at h, fun n hn _ => ?_⟩
    have : n = 0 := by omega
    subst this
    have hf : fitV s neg (nv (([] : List UInt8) ++ List.replicate 0 48)) = some 0 := fitV_zero s neg
    rw [hf]
    exact ⟨fun b hb => Or.inl ⟨e3, by injection hb with hb; exact hb.symm, rfl⟩, fun hb => by cases hb⟩
  · obtain ⟨j, h1, h2, h3, h4, h5, h6⟩ := wh_trim hd hne
    obtain ⟨-, hX1, hX2, -, hX4⟩ := id h
    have hT := trimLeft_len (ds ++ fs) 48
    rw [List.length_append] at hT
    rw [← h.1] at h1 h2 h3 h4 h5 h6
    have hDne : D ≠ [] := fun e => by rw [e] at h5; simp at h5
    obtain ⟨tx, ht1, ht2⟩ := hX4 hDne
    have hVV : valV ds fs = nv D * 10 ^ j := h2
    obtain ⟨L, hL⟩ : ∃ L, D.length = L := ⟨_, rfl⟩
    rw [hL] at h1 h4 h5 ht1 ⊢
    have key : (X < 0 → valX fs hx sg es + j < 0) ∧ (0 ≤ X → 30 < (L : Int) + X → 0 ≤ valX fs hx sg es + j ∧ 30 < (L : Int) + (valX fs hx sg es + j)) ∧ (0 ≤ X → (L : Int) + X ≤ 30 → valX fs hx sg es + j = X) := by
      unfold valX
      generalize (Lib.trimLeftB (ds ++ fs) 48).length = t at *
      cases hx with
      | true =>
        simp only [if_true] at ht2 ⊢
        rcases ht2 with e | ⟨-, e1, e2⟩ | ⟨-, e1, e2⟩ <;> omega
      | false =>
        simp only [Bool.false_eq_true, if_false, false_and, or_false] at ht2 ⊢
        omega
    refine ⟨fun hh => Or.inr ⟨nv D, j, hVV, h3, ?_⟩, fun n hn hLn => ?_⟩
    · by_cases hX : X < 0
      · exact Or.inl ⟨key.1 hX, rfl, rfl⟩
      · obtain ⟨k1, k2⟩ := key.2.1 (by omega) (by omega)
        refine Or.inr (Or.inr ⟨k1, fit_over _ ?_ s neg, rfl, rfl⟩)
        refine Nat.le_trans ?_ (Nat.mul_le_mul_right _ h4)
        rw [← Nat.pow_add]
        exact Nat.le_trans (show 18446744073709551616 ≤ 10 ^ 20 by decide) (Nat.pow_le_pow_right (by decide) (by omega))
    · have k3 := key.2.2 (by omega) (by omega)
      rw [nv_noughts]
      refine ⟨fun b hb => Or.inr ⟨nv D, j, hVV, h3, Or.inr (Or.inl ⟨by omega, ?_, rfl⟩)⟩, fun hb => Or.inr ⟨nv D, j, hVV, h3, Or.inr (Or.inr ⟨by omega, ?_, rfl, rfl⟩)⟩⟩
      · rw [k3, hn, Int.toNat_natCast]; exact hb
      · rw [k3, hn, Int.toNat_natCast]; exact hb

/-- More than 900 digits: the first 900, and a one behind them. -/
theorem cut_digits {P Lo c r : Nat} {x x' : Int} {D' : List UInt8} (hP : 2 ≤ P) (hP2 : P ≤ 53) (hLo : Lo ≤ 1074) (hc : c = 899) (hD : allD D) (h1 : 10 ^ (D.length - 1) ≤ nv D) (h0 : nv D % 10 ≠ 0) (hlen : 900 < D.length)
    (hx : (D.length : Int) + x ≤ 900) (hx' : x' = x + D.length - 901) (hD' : D' = D.take 900 ++ [49]) (hr : RN (2 ^ (P - 1)) (2 ^ (Lo + 1)) (vn (nv D') x') (vd x') r) : RN (2 ^ (P - 1)) (2 ^ (Lo + 1)) (vn (nv D) x) (vd x) r := by
  obtain ⟨T, hT⟩ : ∃ T, nv (D.take 900) = T := ⟨_, rfl⟩
  obtain ⟨R, hR⟩ : ∃ R, nv (D.drop 900) = R := ⟨_, rfl⟩
  obtain ⟨M, hM⟩ : ∃ M, D.length - 900 = M := ⟨_, rfl⟩
  obtain ⟨E, hE⟩ : ∃ E : Nat, (E : Int) = 900 - D.length - x := ⟨(900 - D.length - x).toNat, by omega⟩
  have a1 : x'.toNat = 0 := by clear h1 hr h0; omega
  have a2 : (-x').toNat = E + 1 := by clear h1 hr h0; omega
  have a3 : x.toNat = 0 := by clear h1 hr h0; omega
  have a4 : (-x).toNat = E + M := by clear h1 hr h0; omega
  have hV : nv D = T * 10 ^ M + R := by
    have e : nv D = nvA (nv (D.take 900)) (D.drop 900) := by unfold nv; rw [← nvA_append, List.take_append_drop]
    rw [e, hT]
    have : ∀ (l : List UInt8) a, nvA a l = a * 10 ^ l.length + nv l := by
      intro l
      induction l with
      | nil => intro a; show a = a * 1 + 0; omega
      | cons c l ih =>
        intro a
        show nvA (a * 10 + (c.toNat - 48)) l = a * 10 ^ (l.length + 1) + nvA (0 * 10 + (c.toNat - 48)) l
        rw [ih, ih (0 * 10 + (c.toNat - 48)), Nat.pow_succ, Nat.add_mul, Nat.zero_mul, Nat.zero_add]
        have : a * 10 * 10 ^ l.length = a * (10 ^ l.length * 10) := by ac_rfl
        omega
    rw [this, hR, List.length_drop, hM]
  have hRlt : R < 10 ^ M := by
    rw [← hR, ← hM, ← List.length_drop]; exact nv_lt fun x hx => hD x (List.mem_of_mem_drop hx)
  have hR0 : 0 < R := by
    refine Nat.pos_of_ne_zero fun h => h0 ?_
    obtain ⟨M', rfl⟩ : ∃ M', M = M' + 1 := ⟨M - 1, by omega⟩
    rw [hV, h, Nat.add_zero, Nat.pow_succ, ← Nat.mul_assoc, Nat.mul_mod_left]
  have hTlo : Go.RowKit.Hid (10 ^ c ≤ T) := by
    refine Nat.le_of_not_lt fun hlt => ?_
    have e1 : (T + 1) * 10 ^ M ≤ 10 ^ c * 10 ^ M := Nat.mul_le_mul_right _ hlt
    rw [← Nat.pow_add, show c + M = D.length - 1 by omega, Nat.add_mul, Nat.one_mul] at e1
    omega
  have hN' : nv D' = T * 10 + 1 := by rw [hD', nv_snoc, hT]; rfl
  have hp := fun k : Nat => Nat.pow_pos (n := k) (show 0 < 10 by decide)
  have v1 : vn (nv D') x' = T * 10 + 1 := by unfold vn; rw [a1, Nat.pow_zero, Nat.mul_one, hN']
  have v2 : vd x' = 10 ^ E * 10 := by unfold vd; rw [a2, Nat.pow_succ]
  have v3 : vn (nv D) x = T * 10 ^ M + R := by unfold vn; rw [a3, Nat.pow_zero, Nat.mul_one, hV]
  have v4 : vd x = 10 ^ E * 10 ^ M := by unfold vd; rw [a4, Nat.pow_add]
  rw [v1, v2] at hr
  rw [v3, v4]
  have hpE := hp E
  refine rn_cut (c := c) (E := E) (T := T) hP hP2 hLo hc hTlo.out ?_ ?_ ?_ ?_ hr
  · have : T * (10 ^ E * 10) = T * 10 * 10 ^ E := by ac_rfl
    rw [this]; exact Nat.mul_lt_mul_of_pos_right (by omega) hpE
  · have : (T + 1) * (10 ^ E * 10) = (T * 10 + 10) * 10 ^ E := by
      rw [show T * 10 + 10 = (T + 1) * 10 from (Nat.succ_mul T 10).symm]
      generalize T + 1 = y
      ac_rfl
    rw [this]; exact Nat.mul_lt_mul_of_pos_right (by omega) hpE
  · have : T * (10 ^ E * 10 ^ M) = T * 10 ^ M * 10 ^ E := by ac_rfl
    rw [this]; exact Nat.mul_lt_mul_of_pos_right (by omega) hpE
  · have : (T + 1) * (10 ^ E * 10 ^ M) = (T * 10 ^ M + 10 ^ M) * 10 ^ E := by
      rw [show T * 10 ^ M + 10 ^ M = (T + 1) * 10 ^ M from (Nat.succ_mul T _).symm]
      generalize T + 1 = y
      ac_rfl
    rw [this]; exact Nat.mul_lt_mul_of_pos_right (by omega) hpE
end
end Go.Proofs.YtnpinogjajhlhaaGreatDoor.Fl
end
