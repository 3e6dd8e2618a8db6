/- A part of the proof that lexiconlaw03.NumsReads answers true at every kind and every text: TxOf, Fin. No condition. -/
import Derived.Test.YtnpinogjajhlhaaGreatDoorZ29
section
/- The text that leading writes is one as strconv's reading is proved at. No program here. -/
namespace Go.Proofs.YtnpinogjajhlhaaGreatDoor.Fl

/-- The digits of a list; nought behind its end. -/
def gl (l : List UInt8) (i : Nat) : Nat := match l[i]? with | some c => c.toNat - 48 | none => 0

theorem gl_out {l : List UInt8} {i : Nat} (h : l.length ≤ i) : gl l i = 0 := by unfold gl; rw [List.getElem?_eq_none h]
theorem gl_at {l : List UInt8} (hd : allD l) {i : Nat} (h : i < l.length) : ∃ c, l[i]? = some c ∧ c.toNat = 48 + gl l i ∧ gl l i ≤ 9 := by
  have hm := hd l[i] (List.getElem_mem h)
  refine ⟨l[i], List.getElem?_eq_getElem h, ?_, ?_⟩
  · unfold gl; rw [List.getElem?_eq_getElem h]; simp only; omega
  · unfold gl; rw [List.getElem?_eq_getElem h]; simp only; omega

theorem nv_one (c : UInt8) : nv [c] = c.toNat - 48 := by
  show 0 * 10 + (c.toNat - 48) = c.toNat - 48
  rw [Nat.zero_mul, Nat.zero_add]
theorem nv_snoc (l : List UInt8) (c : UInt8) : nv (l ++ [c]) = nv l * 10 + (c.toNat - 48) := nvA_append _ _ 0

theorem num_gl_take (l : List UInt8) : ∀ k, k ≤ l.length → num (gl l) k = nv (l.take k) := by
  intro k
  induction k with
  | zero => intro _; rw [List.take_zero]; rfl
  | succ k ih =>
    intro h
    have h1 := ih (by omega)
    have hk : k < l.length := by omega
    rw [List.take_add_one, List.getElem?_eq_getElem hk, Option.toList_some]
    have e1 := nv_snoc (l.take k) l[k]
    have e2 : gl l k = l[k].toNat - 48 := by unfold gl; rw [List.getElem?_eq_getElem hk]
    have e3 : num (gl l) (k + 1) = 10 * num (gl l) k + gl l k := rfl
    rw [e1, e3, h1, e2, Nat.mul_comm]

theorem num_gl (l : List UInt8) : num (gl l) l.length = nv l := by rw [num_gl_take l l.length (Nat.le_refl _), List.take_length]

theorem nv_trim : ∀ l : List UInt8, nv (Lib.trimLeftB l 48) = nv l
  | [] => rfl
  | c :: r => by
    unfold Lib.trimLeftB
    rw [List.dropWhile_cons]
    by_cases h : (c == 48) = true
    · rw [if_pos h]
      have ih := nv_trim r
      unfold Lib.trimLeftB at ih
      have hc : c = 48 := by simpa using h
      rw [ih, hc]; rfl
    · rw [if_neg h]

theorem trim_head : ∀ l : List UInt8, ∀ c r, Lib.trimLeftB l 48 = c :: r → c ≠ 48
  | [], c, r, h => by cases h
  | a :: l, c, r, h => by
    unfold Lib.trimLeftB at h
    rw [List.dropWhile_cons] at h
    split at h
    · exact trim_head l c r h
    · rename_i hn
      injection h with h1 _
      subst h1
      intro hc; apply hn; rw [hc]; rfl

theorem trim_mem {l : List UInt8} {x : UInt8} (h : x ∈ Lib.trimLeftB l 48) : x ∈ l := (List.dropWhile_suffix _).sublist.subset h

section
variable {ds fs : List UInt8}
theorem leadD_allD (h1 : allD ds) (h2 : allD fs) : allD (leadD ds fs) := by
  intro x hx
  unfold leadD at hx
  split at hx
  · have : x = 48 := by simpa using hx
    subst this; decide
  · rcases List.mem_append.1 (trim_mem hx) with h | h
    · exact h1 x h
    · exact h2 x h

theorem leadD_nv : nv (leadD ds fs) = nv (ds ++ fs) := by
  unfold leadD
  split
  · rename_i h
    have := nv_trim (ds ++ fs)
    rw [h] at this
    rw [← this]; rfl
  · exact nv_trim _

theorem leadD_first (h : gl (leadD ds fs) 0 = 0) (hd : allD (leadD ds fs)) : (leadD ds fs).length = 1 := by
  by_cases ht : Lib.trimLeftB (ds ++ fs) 48 = []
  · unfold leadD; rw [if_pos ht]; rfl
  · exfalso
    have e : leadD ds fs = Lib.trimLeftB (ds ++ fs) 48 := by unfold leadD; rw [if_neg ht]
    rw [e] at h hd
    cases hl : Lib.trimLeftB (ds ++ fs) 48 with
    | nil => exact ht hl
    | cons c r =>
      have hne := trim_head _ c r hl
      rw [hl] at h hd
      have hc := hd c (List.mem_cons_self ..)
      unfold gl at h
      simp only [List.getElem?_cons_zero] at h
      exact hne (UInt8.toNat_inj.1 (by show c.toNat = 48; omega))
end

theorem decDigits_allD (u : Nat) : allD (Lib.decDigits u) := by
  induction u using Nat.strongRecOn with
  | ind u ih =>
    rw [Lib.decDigits]
    have hb : ∀ k, k < 10 → 48 ≤ (UInt8.ofNat (48 + k)).toNat ∧ (UInt8.ofNat (48 + k)).toNat ≤ 57 := fun k hk => by
      rw [UInt8.toNat_ofNat']; omega
    split
    · rename_i h
      intro x hx
      have : x = UInt8.ofNat (48 + u) := by simpa using hx
      rw [this]; exact hb u h
    · intro x hx
      rcases List.mem_append.1 hx with h | h
      · exact ih (u / 10) (by omega) x h
      · have : x = UInt8.ofNat (48 + u % 10) := by simpa using h
        rw [this]; exact hb _ (by omega)

theorem decDigits_nv (u : Nat) : nv (Lib.decDigits u) = u := by
  induction u using Nat.strongRecOn with
  | ind u ih =>
    rw [Lib.decDigits]
    have hb : ∀ k, k < 10 → (UInt8.ofNat (48 + k)).toNat - 48 = k := fun k hk => by
      rw [UInt8.toNat_ofNat']; omega
    split
    · rename_i h
      rw [nv_one, hb u h]
    · rw [nv_snoc, ih (u / 10) (by omega), hb _ (by omega)]
      omega

theorem txt_of (T : ByteArray) (neg : Bool) (D : List UInt8) (P : Int) (hT : T.data.toList = leadL neg D P) (hD : allD D) (h1 : 1 ≤ D.length) (hb : T.size ≤ 1152921504606846976) :
    Txt T neg D.length (gl D) (decide (P < 0)) (Lib.decDigits P.natAbs).length (gl (Lib.decDigits P.natAbs)) := by
  obtain ⟨d, r, hdr⟩ : ∃ d r, D = d :: r := by cases D with | nil => simp at h1 | cons d r => exact ⟨d, r, rfl⟩
  obtain ⟨Q, hQ⟩ : ∃ Q, Lib.decDigits P.natAbs = Q := ⟨_, rfl⟩
  have hQd : allD Q := by rw [← hQ]; exact decDigits_allD _
  have hQ1 : 1 ≤ Q.length := by rw [← hQ, Lib.decDigits_length]; exact Lib.nDigits_pos _
  have hit : Lib.itoa P = (if P < 0 then [45] else []) ++ Q := by
    unfold Lib.itoa
    by_cases h : P < 0
    · rw [if_pos h, if_pos h, hQ]; rfl
    · rw [if_neg h, if_neg h, show P.toNat = P.natAbs by omega, hQ]; rfl
  rw [hQ]
  have hL : T.data.toList = (if neg = true then [45] else []) ++ (d :: 46 :: (r ++ (101 :: ((if P < 0 then [45] else []) ++ Q)))) := by
    rw [hT]; unfold leadL; rw [hit, hdr]; rfl
  have hsl : (if neg = true then [(45 : UInt8)] else []).length = neg.toNat := by cases neg <;> rfl
  have hpl : (if P < 0 then [(45 : UInt8)] else []).length = (decide (P < 0)).toNat := by
    by_cases h : P < 0
    · rw [if_pos h, decide_eq_true h]; rfl
    · rw [if_neg h, decide_eq_false h]; rfl
  obtain ⟨sgn, hsgn⟩ : ∃ s, (if neg = true then [(45 : UInt8)] else []) = s := ⟨_, rfl⟩
  obtain ⟨es, hes⟩ : ∃ s, (if P < 0 then [(45 : UInt8)] else []) = s := ⟨_, rfl⟩
  rw [hsgn] at hL hsl
  rw [hes] at hL hpl
  have hsize : T.size = neg.toNat + (1 + (1 + (r.length + (1 + ((decide (P < 0)).toNat + Q.length))))) := by
    rw [size_list, hL]
    simp only [List.length_append, List.length_cons, hsl, hpl]; omega
  have hDl : D.length = r.length + 1 := by rw [hdr]; rfl
  have get : ∀ k, T.data.toList[neg.toNat + k]? = (d :: 46 :: (r ++ (101 :: (es ++ Q))))[k]? := fun k => by
    rw [hL, List.getElem?_append_right (by omega), hsl]; congr 1; omega
  have bta : ∀ (p : Nat) (hp : p < T.size) (x : UInt8), T.data.toList[p]? = some x → (T[p].toNat : Int) = (x.toNat : Int) := fun p hp x hx => by
    rw [bt_of hp, at_list hx]
  refine ⟨by rw [hsize, hDl]; omega, h1, hQ1, hb, fun i hi => (gl_at hD hi).choose_spec.2.2, fun i hi => (gl_at hQd hi).choose_spec.2.2, fun i hi => gl_out hi, ?_, ?_, ?_, ?_, ?_, ?_, ?_⟩
  · intro p hp h0 hn
    subst h0
    refine bta 0 hp 45 ?_
    rw [hL, ← hsgn, if_pos hn]; rfl
  · intro p hp h0
    obtain ⟨c, c1, c2, c3⟩ := gl_at hD (i := 0) h1
    rw [hdr] at c1
    have c4 : d = c := by simpa using c1
    rw [bta p hp d (by rw [h0]; have := get 0; rw [Nat.add_zero] at this; rw [this]; rfl), c4, c2]; push_cast; rfl
  · intro p hp h0
    exact bta p hp 46 (by rw [h0, get 1]; rfl)
  · intro p hp i hi1 hi2 h0
    obtain ⟨c, c1, c2, c3⟩ := gl_at hD hi2
    rw [bta p hp c ?_, c2]; · push_cast; rfl
    rw [h0, show neg.toNat + 1 + i = neg.toNat + (1 + i) by omega, get]
    obtain ⟨j, rfl⟩ : ∃ j, i = j + 1 := ⟨i - 1, by omega⟩
    rw [hdr] at c1
    rw [show 1 + (j + 1) = j + 1 + 1 by omega, List.getElem?_cons_succ, List.getElem?_cons_succ, List.getElem?_append_left (by omega)]
    simpa using c1
  · intro p hp h0
    refine bta p hp 101 ?_
    rw [h0, hDl, show neg.toNat + (r.length + 1) + 1 = neg.toNat + (r.length + 1 + 1) by omega, get, List.getElem?_cons_succ, List.getElem?_cons_succ, List.getElem?_append_right (Nat.le_refl _), Nat.sub_self]; rfl
  · intro p hp h0 hP
    refine bta p hp 45 ?_
    have hP' : P < 0 := of_decide_eq_true hP
    rw [h0, hDl, show neg.toNat + (r.length + 1) + 2 = neg.toNat + (r.length + 1 + 1 + 1) by omega, get, List.getElem?_cons_succ, List.getElem?_cons_succ, List.getElem?_append_right (by omega), show r.length + 1 - r.length = 1 by omega, ← hes, if_pos hP']; rfl
  · intro p hp j hj h0
    obtain ⟨c, c1, c2, c3⟩ := gl_at hQd hj
    rw [bta p hp c ?_, c2]; · push_cast; rfl
    rw [h0, hDl, show neg.toNat + (r.length + 1) + 2 + (decide (P < 0)).toNat + j = neg.toNat + (r.length + 1 + (decide (P < 0)).toNat + j + 1 + 1) by omega, get, List.getElem?_cons_succ, List.getElem?_cons_succ,
      List.getElem?_append_right (by omega), show r.length + 1 + (decide (P < 0)).toNat + j - r.length = (decide (P < 0)).toNat + j + 1 by omega, List.getElem?_cons_succ, List.getElem?_append_right (by omega), hpl, show (decide (P < 0)).toNat + j - (decide (P < 0)).toNat = j by omega]
    exact c1

end Go.Proofs.YtnpinogjajhlhaaGreatDoor.Fl
end
section
/- The number that strconv reads off leading's text is the NUMBER's own. No program here. -/
namespace Go.Proofs.YtnpinogjajhlhaaGreatDoor.Fl
open Ieee
variable {f : Format} {Lo : Nat}

theorem rd_big (hf : Fit f Lo) {V n k r T : Nat} {x : Int} (hn : 1 ≤ n) (hV : 10 ^ (n - 1) ≤ V) (hx : (T : Int) ≤ x) (hk : 2 ^ k ≤ 10 ^ T)
    (hinf : f.infRung ≤ (k + Lo - f.fractionBits) * f.binade + f.binade) (h : RN f.binade (2 ^ (Lo + 1)) (vn V (ve n x)) (vd (ve n x)) r) : f.infRung ≤ r := by
  refine Nat.le_trans hinf ((rn_pow hf k).mono (binade_pos f) (by omega) (vd_pos _) h ?_)
  rw [Nat.mul_one]
  have e1 : 10 ^ T * vd (ve n x) ≤ 10 ^ (n - 1) * 10 ^ (ve n x).toNat := by
    unfold vd
    rw [← Nat.pow_add, ← Nat.pow_add]
    exact Nat.pow_le_pow_right (by omega) (by unfold ve; omega)
  unfold vn
  exact Nat.le_trans (Nat.mul_le_mul_right _ hk) (Nat.le_trans e1 (Nat.mul_le_mul_right _ hV))

theorem rd_tiny {V n B S T : Nat} {x : Int} (hB : 0 < B) (hV : V < 10 ^ n) (hx : x ≤ -(T : Int) - 1) (hS : S ≤ 10 ^ T) : RN B S (vn V (ve n x)) (vd (ve n x)) 0 := by
  refine rn_zero hB ?_
  unfold vn vd
  have e0 : (ve n x).toNat = 0 := by unfold ve; omega
  rw [e0, Nat.pow_zero, Nat.mul_one]
  refine Nat.le_trans (Nat.mul_le_mul (Nat.le_of_lt hV) hS) ?_
  rw [← Nat.pow_add]
  exact Nat.pow_le_pow_right (by omega) (by unfold ve; omega)

/-- Two powers of ten that are the same, or both far out on one side. -/
def Near (x y : Int) : Prop := x = y ∨ (1000 ≤ x ∧ 1000 ≤ y) ∨ (x ≤ -1000 ∧ y ≤ -1000)

theorem rd_near (hf : Fit f Lo) {V n k rc T1 T2 : Nat} {x y : Int} (hn : 1 ≤ n) (hV : V = 0 ∨ 10 ^ (n - 1) ≤ V) (hV2 : V < 10 ^ n) (hxy : Near x y) (hT1 : T1 ≤ 1000) (hT2 : T2 ≤ 999) (hk : 2 ^ k ≤ 10 ^ T1) (hS : 2 ^ (Lo + 1) ≤ 10 ^ T2)
    (hinf : f.infRung ≤ (k + Lo - f.fractionBits) * f.binade + f.binade) (h : RN f.binade (2 ^ (Lo + 1)) (vn V (ve n x)) (vd (ve n x)) rc) :
    ∃ r, RN f.binade (2 ^ (Lo + 1)) (vn V (ve n y)) (vd (ve n y)) r ∧ ((f.infRung ≤ rc ∧ f.infRung ≤ r) ∨ (r = rc)) := by
  rcases hV with hV | hV
  · have h0 := rn_nought V (ve n x) hV (binade_pos f) (S := 2 ^ (Lo + 1))
    have := h.unique (binade_pos f) (vd_pos _) (vd_pos _) h0 rfl
    subst this
    exact ⟨0, rn_nought V (ve n y) hV (binade_pos f), Or.inr rfl⟩
  · rcases hxy with rfl | ⟨h1, h2⟩ | ⟨h1, h2⟩
    · exact ⟨rc, h, Or.inr rfl⟩
    · obtain ⟨r, hr⟩ := rn_ex hf V (ve n y)
      exact ⟨r, hr, Or.inl ⟨rd_big hf hn hV (show (T1 : Int) ≤ x by omega) hk hinf h, rd_big hf hn hV (show (T1 : Int) ≤ y by omega) hk hinf hr⟩⟩
    · have h0 := rd_tiny (binade_pos f) hV2 (show x ≤ -(T2 : Int) - 1 by omega) hS
      have := h.unique (binade_pos f) (vd_pos _) (vd_pos _) h0 rfl
      subst this
      exact ⟨0, rd_tiny (binade_pos f) hV2 (show y ≤ -(T2 : Int) - 1 by omega) hS, Or.inr rfl⟩

theorem pow10_1000 : 2 ^ 1024 ≤ 10 ^ 1000 := by decide +kernel
theorem pow10_1000' : 2 ^ 128 ≤ 10 ^ 1000 := by decide +kernel
theorem pow10_500 : 2 ^ (1074 + 1) ≤ 10 ^ 500 := by decide +kernel
theorem pow10_500' : 2 ^ (149 + 1) ≤ 10 ^ 500 := by decide +kernel

/-- The value of a NUMBER: all its digits, and the power of ten of the last one. -/
def valV (ds fs : List UInt8) : Nat := nv (ds ++ fs)
def valX (fs : List UInt8) (hx : Bool) (sg es : List UInt8) : Int := (if hx = true then ev sg es else 0) - (fs.length : Int)

section
variable {ds fs : List UInt8} {hx : Bool} {sg es : List UInt8}

/-- The exponent that strconv reads, against the true one. -/
theorem lead_near (h0 : ds ≠ []) (hl : ds.length + fs.length ≤ 67108864) : Near (ex (gl (Lib.decDigits (leadP ds fs hx sg es).natAbs)) (Lib.decDigits (leadP ds fs hx sg es).natAbs).length (decide (leadP ds fs hx sg es < 0)))
      (valX fs hx sg es + (leadD ds fs).length - 1) := by
  obtain ⟨P, hP⟩ : ∃ P, leadP ds fs hx sg es = P := ⟨_, rfl⟩
  have hlen := leadD_len h0 fs
  have hd := decDigits_allD P.natAbs
  have hc := cl_num (h := gl (Lib.decDigits P.natAbs)) (m := (Lib.decDigits P.natAbs).length) (fun i hi => (gl_at hd hi).choose_spec.2.2)
  rw [num_gl, decDigits_nv] at hc
  rw [hP]
  have hPe : P = (if hx = true then cx sg es else 0) + ((leadD ds fs).length : Int) - 1 - (fs.length : Int) := by rw [← hP]; rfl
  have hcx : cx sg es = ev sg es ∨ (cx sg es = 1099511627776 ∧ 1099511627776 < ev sg es) ∨ (cx sg es = -1099511627776 ∧ ev sg es < -1099511627776) := by unfold cx; omega
  have hxe : ex (gl (Lib.decDigits P.natAbs)) (Lib.decDigits P.natAbs).length (decide (P < 0)) = (if P < 0 then -(cl (gl (Lib.decDigits P.natAbs)) (Lib.decDigits P.natAbs).length : Int) else cl (gl (Lib.decDigits P.natAbs)) (Lib.decDigits P.natAbs).length) := by
    unfold ex; by_cases h : P < 0
    · rw [if_pos (decide_eq_true h), if_pos h]
    · rw [if_neg (by simpa using h), if_neg h]
  rw [hxe]
  generalize cl (gl (Lib.decDigits P.natAbs)) (Lib.decDigits P.natAbs).length = z at *
  unfold Near valX
  cases hx with
  | true =>
    simp only [if_true] at hPe ⊢
    split <;> omega
  | false =>
    simp only [Bool.false_eq_true, if_false] at hPe ⊢
    split <;> omega

theorem leadD_size (hd : allD ds) (hf : allD fs) : (valV ds fs = 0 ∨ 10 ^ ((leadD ds fs).length - 1) ≤ valV ds fs) ∧ valV ds fs < 10 ^ (leadD ds fs).length ∧ num (gl (leadD ds fs)) (leadD ds fs).length = valV ds fs := by
  have hD := leadD_allD hd hf
  have hn : num (gl (leadD ds fs)) (leadD ds fs).length = valV ds fs := by rw [num_gl, leadD_nv]; rfl
  have h9 : ∀ i, i < (leadD ds fs).length → gl (leadD ds fs) i ≤ 9 := fun i hi => (gl_at hD hi).choose_spec.2.2
  refine ⟨?_, by rw [← hn]; exact num_lt h9, hn⟩
  by_cases h0 : gl (leadD ds fs) 0 = 0
  · left
    have h1 := leadD_first h0 hD
    rw [← hn, h1]
    show 10 * 0 + gl (leadD ds fs) 0 = 0
    rw [h0]
  · right
    rw [← hn]
    refine num_ge h0 ?_
    have : leadD ds fs ≠ [] := fun hc => h0 (by rw [hc]; rfl)
    exact List.length_pos_iff.2 this

theorem ve_val (n : Nat) (fs : List UInt8) (hx : Bool) (sg es : List UInt8) : ve n (valX fs hx sg es + n - 1) = valX fs hx sg es := by unfold ve; omega
end

end Go.Proofs.YtnpinogjajhlhaaGreatDoor.Fl
end
