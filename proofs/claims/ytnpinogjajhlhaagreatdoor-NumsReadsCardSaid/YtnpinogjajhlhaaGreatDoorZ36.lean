/- A part of the proof that lexiconlaw03.NumsReads answers true at every kind and every text: Wh, DwWhole. No condition. -/
import Derived.Test.YtnpinogjajhlhaaGreatDoorZ34
import Derived.Test.YtnpinogjajhlhaaGreatDoorZ32
import Derived.Test.YtnpinogjajhlhaaGreatDoorZ35
import Derived.Lib.Repeat
section
/- A NUMBER that is whole: the plain law. No program here. -/
namespace Go.Proofs.YtnpinogjajhlhaaGreatDoor.Fl

/-- What a NUMBER with the value V * 10 ^ X is as a number of an integer sort. -/
def WhSpec (s : Int) (neg : Bool) (V : Nat) (X : Int) (b : Nat) (err : Int) : Prop :=
  (V = 0 ∧ b = 0 ∧ err = 0) ∨
  (∃ D j : Nat, V = D * 10 ^ j ∧ D % 10 ≠ 0 ∧ ((X + j < 0 ∧ b = 0 ∧ err = 31) ∨
    (0 ≤ X + j ∧ fitV s neg (D * 10 ^ (X + j).toNat) = some b ∧ err = 0) ∨ (0 ≤ X + j ∧ fitV s neg (D * 10 ^ (X + j).toNat) = none ∧ b = 0 ∧ err = 31)))

theorem ten_unique : ∀ {j i D C : Nat}, D % 10 ≠ 0 → C % 10 ≠ 0 → D * 10 ^ j = C * 10 ^ i → D = C ∧ j = i
  | 0, 0, D, C, _, _, h => by simpa using h
  | 0, i + 1, D, C, hD, _, h => by rw [Nat.pow_succ, ← Nat.mul_assoc] at h; omega
  | j + 1, 0, D, C, _, hC, h => by rw [Nat.pow_succ, ← Nat.mul_assoc] at h; omega
  | j + 1, i + 1, D, C, hD, hC, h => by
    rw [Nat.pow_succ, Nat.pow_succ, ← Nat.mul_assoc, ← Nat.mul_assoc] at h
    obtain ⟨h1, h2⟩ := ten_unique hD hC (Nat.eq_of_mul_eq_mul_right (by decide : 0 < 10) h)
    exact ⟨h1, by omega⟩

theorem WhSpec.unique {s : Int} {neg : Bool} {V : Nat} {X : Int} {b1 b2 : Nat} {e1 e2 : Int} (h1 : WhSpec s neg V X b1 e1) (h2 : WhSpec s neg V X b2 e2) : b1 = b2 ∧ e1 = e2 := by
  have hz : ∀ {D j : Nat}, V = D * 10 ^ j → D % 10 ≠ 0 → V ≠ 0 := fun {D j} e h hv => by
    rw [hv] at e
    rcases Nat.mul_eq_zero.1 e.symm with h0 | h0
    · rw [h0] at h; exact h rfl
    · have := Nat.pow_pos (a := 10) (n := j) (by decide); omega
  rcases h1 with ⟨a1, a2, a3⟩ | ⟨D, j, a1, a2, a3⟩ <;> rcases h2 with ⟨c1, c2, c3⟩ | ⟨C, i, c1, c2, c3⟩
  · exact ⟨by omega, by omega⟩
  · exact absurd a1 (hz c1 c2)
  · exact absurd c1 (hz a1 a2)
  · obtain ⟨rfl, rfl⟩ := ten_unique a2 c2 (a1.symm.trans c1)
    rcases a3 with ⟨x1, x2, x3⟩ | ⟨x1, x2, x3⟩ | ⟨x1, x2, x3, x4⟩ <;> rcases c3 with ⟨y1, y2, y3⟩ | ⟨y1, y2, y3⟩ | ⟨y1, y2, y3, y4⟩
    · exact ⟨by omega, by omega⟩
    · omega
    · omega
    · omega
    · rw [x2] at y2; injection y2 with y2; exact ⟨y2, by omega⟩
    · rw [x2] at y2; cases y2
    · omega
    · rw [x2] at y2; cases y2
    · exact ⟨by omega, by omega⟩

theorem nvA_low (l : List UInt8) : ∀ a, a * 10 ^ l.length ≤ nvA a l := by
  induction l with
  | nil => intro a; exact Nat.le_of_eq (Nat.mul_one a)
  | cons c l ih =>
    intro a
    show _ ≤ nvA (a * 10 + (c.toNat - 48)) l
    refine Nat.le_trans ?_ (ih _)
    rw [List.length_cons, Nat.pow_succ, Nat.mul_comm (10 ^ _) 10, ← Nat.mul_assoc]
    exact Nat.mul_le_mul_right _ (by omega)

theorem nv_noughts (A : List UInt8) : ∀ j, nv (A ++ List.replicate j 48) = nv A * 10 ^ j
  | 0 => by simp
  | j + 1 => by
    rw [List.replicate_succ', ← List.append_assoc, nv_snoc, nv_noughts A j, Nat.pow_succ, ← Nat.mul_assoc]; rfl

theorem repeat_nought : ∀ n, Lib.repeatL [48] n = List.replicate n 48
  | 0 => rfl
  | n + 1 => by rw [Lib.repeatL, repeat_nought n]; rfl

theorem take_all (l : List UInt8) : ∃ j, l.takeWhile (· == (48 : UInt8)) = List.replicate j 48 := by
  refine ⟨_, List.eq_replicate_iff.2 ⟨rfl, fun b hb => ?_⟩⟩
  have := List.all_takeWhile (p := (· == (48 : UInt8))) (l := l)
  have := List.all_eq_true.1 this b hb
  exact eq_of_beq this

theorem trim_split (l : List UInt8) : ∃ j, l = Lib.trimRightB l 48 ++ List.replicate j 48 := by
  obtain ⟨j, hj⟩ := take_all l.reverse
  refine ⟨j, ?_⟩
  have h := List.takeWhile_append_dropWhile (p := (· == (48 : UInt8))) (l := l.reverse)
  rw [hj] at h
  have h2 := congrArg List.reverse h
  rw [List.reverse_reverse, List.reverse_append, List.reverse_replicate] at h2
  exact h2.symm

theorem drop_head {l : List UInt8} {a : UInt8} {r : List UInt8} (h : l.dropWhile (· == (48 : UInt8)) = a :: r) : a ≠ 48 := by
  have := List.head?_dropWhile_not (p := (· == (48 : UInt8))) l
  rw [h] at this
  intro e; rw [e] at this; exact absurd this (by simp)

/-- Digits without noughts ahead, and what is left without those behind. -/
theorem wh_trim {l : List UInt8} (hl : allD l) (hne : Lib.trimLeftB l 48 ≠ []) :
    ∃ j, (Lib.trimLeftB l 48).length = (Lib.trimRightB (Lib.trimLeftB l 48) 48).length + j ∧ nv l = nv (Lib.trimRightB (Lib.trimLeftB l 48) 48) * 10 ^ j ∧
      nv (Lib.trimRightB (Lib.trimLeftB l 48) 48) % 10 ≠ 0 ∧ 10 ^ ((Lib.trimRightB (Lib.trimLeftB l 48) 48).length - 1) ≤ nv (Lib.trimRightB (Lib.trimLeftB l 48) 48) ∧
      1 ≤ (Lib.trimRightB (Lib.trimLeftB l 48) 48).length ∧ allD (Lib.trimRightB (Lib.trimLeftB l 48) 48) := by
  have hT : allD (Lib.trimLeftB l 48) := fun x hx => hl x ((List.dropWhile_suffix _).sublist.subset hx)
  rw [← nv_trim l]
  cases hc : Lib.trimLeftB l 48 with
  | nil => exact absurd hc hne
  | cons a r =>
    rw [hc] at hT
    have ha : a ≠ 48 := drop_head hc
    clear hc hne
    obtain ⟨j, hj⟩ := trim_split (a :: r)
    have hSd : allD (Lib.trimRightB (a :: r) 48) := fun x hx => hT x (by rw [hj]; exact List.mem_append_left _ hx)
    have hS : ∃ q b, Lib.trimRightB (a :: r) 48 = q ++ [b] ∧ b ≠ 48 := by
      unfold Lib.trimRightB
      cases hd : ((a :: r).reverse.dropWhile (· == (48 : UInt8))) with
      | nil =>
        have : Lib.trimRightB (a :: r) 48 = [] := by unfold Lib.trimRightB; rw [hd]; rfl
        rw [this, List.nil_append] at hj
        have := List.mem_replicate.1 (hj ▸ List.mem_cons_self .. : a ∈ List.replicate j 48)
        exact absurd this.2 ha
      | cons b q => exact ⟨q.reverse, b, by rw [List.reverse_cons], drop_head hd⟩
    obtain ⟨q, b, hqb, hb⟩ := hS
    have hbd := hSd b (by rw [hqb]; simp)
    have hbn : b.toNat ≠ 48 := fun h => hb (UInt8.toNat_inj.1 h)
    have had := hT a (List.mem_cons_self ..)
    have han : a.toNat ≠ 48 := fun h => ha (UInt8.toNat_inj.1 h)
    refine ⟨j, ?_, ?_, ?_, ?_, ?_, hSd⟩
    · have := congrArg List.length hj
      rw [List.length_append, List.length_replicate] at this; exact this
    · have := congrArg nv hj
      rw [nv_noughts] at this; exact this
    · rw [hqb, nv_snoc]
      generalize b.toNat = z at *
      omega
    · cases hS : Lib.trimRightB (a :: r) 48 with
      | nil => rw [hS] at hqb; simp at hqb
      | cons x y =>
        have hx : x = a := by rw [hS] at hj; injection hj with h1 h2; exact h1.symm
        rw [hx, List.length_cons, Nat.add_sub_cancel]
        refine Nat.le_trans ?_ (nvA_low y (0 * 10 + (a.toNat - 48)))
        have : 1 ≤ 0 * 10 + (a.toNat - 48) := by generalize a.toNat = z at *; omega
        calc 10 ^ y.length = 1 * 10 ^ y.length := (Nat.one_mul _).symm
          _ ≤ _ := Nat.mul_le_mul_right _ this
    · rw [hqb]; simp

/-- The power of ten as nums.Whole comes to it. -/
def whP (fs : List UInt8) (hx : Bool) (sg es : List UInt8) (t u : Nat) : Int := (if hx = true then cx sg es else 0) - (fs.length : Int) + ((t : Int) - (u : Int))

theorem wh_zero {s : Int} {neg : Bool} {ds fs : List UInt8} {X : Int} (h : Lib.trimLeftB (ds ++ fs) 48 = []) : WhSpec s neg (valV ds fs) X 0 0 := by
  refine Or.inl ⟨?_, rfl, rfl⟩
  unfold valV; rw [← nv_trim, h]; rfl

section
variable {s : Int} {neg : Bool} {ds fs : List UInt8} {hx : Bool} {sg es : List UInt8}

theorem wh_far (hd : allD (ds ++ fs)) (hl : ds.length + fs.length ≤ 67108864) (hne : Lib.trimLeftB (ds ++ fs) 48 ≠ [])
    (hp : whP fs hx sg es (Lib.trimLeftB (ds ++ fs) 48).length (Lib.trimRightB (Lib.trimLeftB (ds ++ fs) 48) 48).length < 0 ∨ 20 < whP fs hx sg es (Lib.trimLeftB (ds ++ fs) 48).length (Lib.trimRightB (Lib.trimLeftB (ds ++ fs) 48) 48).length ∨
      20 < ((Lib.trimRightB (Lib.trimLeftB (ds ++ fs) 48) 48).length : Int) + whP fs hx sg es (Lib.trimLeftB (ds ++ fs) 48).length (Lib.trimRightB (Lib.trimLeftB (ds ++ fs) 48) 48).length) :
    WhSpec s neg (valV ds fs) (valX fs hx sg es) 0 31 := by
  obtain ⟨j, h1, h2, h3, h4, h5, -⟩ := wh_trim hd hne
  have hT := trimLeft_len (ds ++ fs) 48
  rw [List.length_append] at hT
  generalize (Lib.trimLeftB (ds ++ fs) 48).length = t at *
  generalize (Lib.trimRightB (Lib.trimLeftB (ds ++ fs) 48) 48).length = u at *
  generalize nv (Lib.trimRightB (Lib.trimLeftB (ds ++ fs) 48) 48) = D at *
  refine Or.inr ⟨D, j, h2, h3, ?_⟩
  have hcx : cx sg es = ev sg es ∨ (cx sg es = 1099511627776 ∧ 1099511627776 < ev sg es) ∨ (cx sg es = -1099511627776 ∧ ev sg es < -1099511627776) := by unfold cx; omega
  have hx2 : valX fs hx sg es + j < 0 ∨ (0 ≤ valX fs hx sg es + j ∧ 20 < (u : Int) + (valX fs hx sg es + j)) := by
    unfold whP at hp
    unfold valX
    cases hx with
    | true => simp only [if_true] at hp ⊢; omega
    | false => simp only [Bool.false_eq_true, if_false] at hp ⊢; omega
  rcases hx2 with hx2 | ⟨hx2, hx3⟩
  · exact Or.inl ⟨hx2, rfl, rfl⟩
  · refine Or.inr (Or.inr ⟨hx2, fit_over _ ?_ s neg, rfl, rfl⟩)
    have h6 : 10 ^ 20 ≤ D * 10 ^ (valX fs hx sg es + j).toNat := by
      refine Nat.le_trans ?_ (Nat.mul_le_mul_right _ h4)
      rw [← Nat.pow_add]
      exact Nat.pow_le_pow_right (by decide) (by omega)
    exact Nat.le_trans (by decide) h6

theorem wh_near (hd : allD (ds ++ fs)) (hl : ds.length + fs.length ≤ 67108864) (hne : Lib.trimLeftB (ds ++ fs) 48 ≠ []) {n : Nat}
    (hp : whP fs hx sg es (Lib.trimLeftB (ds ++ fs) 48).length (Lib.trimRightB (Lib.trimLeftB (ds ++ fs) 48) 48).length = (n : Int)) (hn : n ≤ 20) {o : Option Nat} (ho : fitV s neg (nv (Lib.trimRightB (Lib.trimLeftB (ds ++ fs) 48) 48 ++ Lib.repeatL [48] n)) = o) :
    (∀ b, o = some b → WhSpec s neg (valV ds fs) (valX fs hx sg es) b 0) ∧ (o = none → WhSpec s neg (valV ds fs) (valX fs hx sg es) 0 31) := by
  obtain ⟨j, h1, h2, h3, h4, h5, -⟩ := wh_trim hd hne
  rw [repeat_nought, nv_noughts] at ho
  have hT := trimLeft_len (ds ++ fs) 48
  rw [List.length_append] at hT
  generalize (Lib.trimLeftB (ds ++ fs) 48).length = t at *
  generalize (Lib.trimRightB (Lib.trimLeftB (ds ++ fs) 48) 48).length = u at *
  generalize nv (Lib.trimRightB (Lib.trimLeftB (ds ++ fs) 48) 48) = D at *
  have hcx : cx sg es = ev sg es ∨ (cx sg es = 1099511627776 ∧ 1099511627776 < ev sg es) ∨ (cx sg es = -1099511627776 ∧ ev sg es < -1099511627776) := by unfold cx; omega
  have hx2 : valX fs hx sg es + j = (n : Int) := by
    unfold whP at hp
    unfold valX
    cases hx with
    | true => simp only [if_true] at hp ⊢; omega
    | false => simp only [Bool.false_eq_true, if_false] at hp ⊢; omega
  refine ⟨fun b hb => Or.inr ⟨D, j, h2, h3, Or.inr (Or.inl ⟨by omega, ?_, rfl⟩)⟩, fun hb => Or.inr ⟨D, j, h2, h3, Or.inr (Or.inr ⟨by omega, ?_, rfl, rfl⟩)⟩⟩
  · rw [hx2, Int.toNat_natCast, ho, hb]
  · rw [hx2, Int.toNat_natCast, ho, hb]
end
end Go.Proofs.YtnpinogjajhlhaaGreatDoor.Fl
end
section
/- nums.Whole, walked. -/
namespace Go.Proofs.YtnpinogjajhlhaaGreatDoor.Fl
open Go.RowKit

def WnPost (s : Int) (neg : Bool) (V : Nat) (X : Int) (B : Nat) (w : World) (e : Ending) (w' : World) : Prop :=
  ∃ (b : Nat) (err : Int), WhSpec s neg V X b err ∧ e = .returned (.tuple #[.int .u64 b, .int .i64 err]) ∧ Below B w w'

set_option maxHeartbeats 4000000 in
set_option maxRecDepth 100000 in
theorem whole_num (k : Int) (S : ByteArray) {neg : Bool} {ds : List UInt8} {pt : Bool} {fs : List UInt8} {hx : Bool} {c : UInt8} {sg es : List UInt8} (hN : NumL S.data.toList neg ds pt fs hx c sg es) (hne : S.toList ≠ []) (hn : numLen S = S.size) (hb : S.size ≤ 67108864)
    (hs : sortK k = 2 ∨ sortK k = 3 ∨ sortK k = 4 ∨ sortK k = 5) (w : World) (B : Nat) (hB : B ≤ w.heap.size) (hL : LibAt w B) :
    Calls Tryz.prog 6 #[.int .u8 k, .string S] w (WnPost (sortK k) neg (valV ds fs) (valX fs hx sg es) B w) := by
  obtain ⟨R, hR⟩ : ∃ R : ByteArray, (⟨(Lib.trimPrefix S.data.toList [45]).toArray⟩ : ByteArray) = R := ⟨_, rfl⟩
  have hRl : R.data.toList = bodyL ds pt fs hx c sg es := by rw [← hR]; exact hN.minus.2
  have hcp := fun w => Tryz.strings_CutPrefix S ⟨#[45]⟩ w
  have hcp2 : ∀ w, Calls Tryz.prog 19 #[.string S, .string ⟨#[45]⟩] w (fun e w' => e = .returned (.tuple #[.string R, .bool neg]) ∧ w' = w) := fun w => by
    have := hcp w
    rw [show (⟨#[45]⟩ : ByteArray).data.toList = [45] from rfl, hN.minus.1, hR] at this
    exact this
  have HFIT : Hid (∀ (D : ByteArray), allD D.data.toList → D.data.toList ≠ [] → D.size ≤ 281474976710656 → ∀ w, B ≤ w.heap.size → ErrsAt w B → Calls Tryz.prog 21 #[.int .u8 k, .bool neg, .string D] w (FitPost (fitV (sortK k) neg (nv D.data.toList)) B w)) :=
    Lib.hid (fun D h1 h2 h3 w hB hE => fit_walk k neg D h1 h2 h3 w B hB hE hs)
  have HS := Lib.hid (sort_walk k)
  generalize sortK k = s at *
  have HA := Lib.hid hcp2
  have HN := Lib.hid hN
  have HL := Lib.hid hL
  have HNUM := Lib.hid (pnum_walk S (by omega))
  rw [hn] at HNUM
  have HR : Hid (R.data.toList = bodyL ds pt fs hx c sg es) := Lib.hid hRl
  have b0 : (s == 0) = false := by rw [beq_eq_false_iff_ne]; omega
  have b1 : (s == 1) = false := by rw [beq_eq_false_iff_ne]; omega
  have b6 : (s == 6) = false := by rw [beq_eq_false_iff_ne]; omega
  have b7 : (s == 7) = false := by rw [beq_eq_false_iff_ne]; omega
  have be : S.toList.isEmpty = false := by
    cases h : S.toList with
    | nil => exact absurd h hne
    | cons a r => rfl
  clear hcp hcp2 hR hRl hN hL hs hne hn
  go_enter Tryz.func6, Tryz.ntmps6
  go_wp2_with fail
  refine (HS.out _).mono ?_
  rintro e w' ⟨rfl, rfl⟩
  go_wp2_with fail
  refine (HNUM.out _).mono ?_
  rintro e w2 ⟨rfl, rfl⟩
  go_wp2_with fail
  refine (HA.out _).mono ?_
  rintro e w' ⟨rfl, rfl⟩
  have hRs : R.size ≤ S.size := by
    rw [size_list, size_list, HR.out, HN.out.eq, List.length_append]
    unfold bodyL; omega
  have hia := Tryz.strings_IndexAny_laid R ⟨#[101, 69]⟩ w' (by omega) (by decide) (fun j b hj => HN.out.ascii b (by rw [← HR.out]; exact List.mem_of_getElem? hj)) (fun j b hj => by
    have : b ∈ ([101, 69] : List UInt8) := List.mem_of_getElem? hj
    simp at this; rcases this with rfl | rfl <;> decide)
  rw [HR.out, show (⟨#[101, 69]⟩ : ByteArray).data.toList = [101, 69] from rfl, HN.out.any] at hia
  obtain ⟨k2, hk⟩ : ∃ k, (mantL ds pt fs).length = k := ⟨_, rfl⟩
  rw [hk] at hia
  have hkR : k2 ≤ R.size := by
    rw [size_list, HR.out, ← hk]
    unfold bodyL mantL
    rw [List.length_append, List.length_append, List.length_append]; omega
  have HK := Lib.hid hk
  have hB0 := Lib.hid hia
  clear hia hk
  go_wp2_with fail
  refine hB0.out.mono ?_
  rintro e w2 ⟨rfl, hb2⟩
  have hbb := hb2.mono hB
  clear hb2 hB0
  have HB := Lib.hid hbb
  have hB2 := Nat.le_trans hB hbb.size
  clear hbb
  go_upto_if 43 with (fail)
  go_cut [6, 8, 9] (fun rv pv iv wd => (∃ M : ByteArray, rv = .string M ∧ Aside (M.data.toList = mantL ds pt fs)) ∧ (∃ p : Int, pv = .int .i64 p ∧ Aside (p = if hx = true then cx sg es else 0)) ∧ (∃ z, iv = .int .i64 z) ∧ Below B w' wd)
  case first =>
    cases hh : hx with
    | true =>
      rw [if_pos rfl]
      have hkR2 : k2 + 1 ≤ R.size := by
        rw [size_list, HR.out, ← HK.out, hh]
        unfold bodyL mantL
        simp only [if_true, List.length_append, List.length_cons]; omega
      have hlist : (R.extract (k2 + 1) R.size).data.toList = sg ++ es := by
        rw [ext_list, HR.out, hh]
        have e : bodyL ds pt fs true c sg es = mantL ds pt fs ++ (c :: (sg ++ es)) := by unfold bodyL mantL; rw [List.append_assoc]; rfl
        rw [size_list, HR.out, hh, e, ← HK.out]
        have e2 : (mantL ds pt fs ++ c :: (sg ++ es)).drop ((mantL ds pt fs).length + 1) = sg ++ es := by
          rw [← List.drop_drop, List.drop_left]; rfl
        rw [e2, List.take_of_length_le]
        simp only [List.length_append, List.length_cons]; omega
      have hexp := expo_walk (R.extract (k2 + 1) R.size) sg es hlist HN.out.sgn HN.out.esd (HN.out.es1 hh) (by rw [extract_size]; omega) w2 B hB2 (HL.out.errs.below HB.out)
      have HE := Lib.hid hexp
      have HM : Hid ((R.extract 0 k2).data.toList = mantL ds pt fs) := by
        refine Lib.hid ?_
        rw [ext_list, HR.out]
        have e : bodyL ds pt fs hx c sg es = mantL ds pt fs ++ (if hx = true then c :: (sg ++ es) else []) := by unfold bodyL mantL; rw [List.append_assoc]
        rw [e, ← HK.out]; simp
      have HH := Lib.hid hh
      clear hlist hexp hh
      go_wp2_with fail
      refine HE.out.mono ?_
      rintro e w3 ⟨rfl, hb3⟩
      obtain ⟨cv, hcv⟩ : ∃ cv, cx sg es = cv := ⟨_, rfl⟩
      have HC := Lib.hid hcv
      rw [hcv]
      clear hcv
      have hb4 := HB.out.trans hb3
      clear hb3
      go_wp2_with fail
      go_meet
      exact ⟨⟨_, rfl, HM.out⟩, ⟨cv, rfl, by rw [HH.out, if_pos rfl]; exact HC.out.symm⟩, ⟨_, rfl⟩, hb4⟩
    | false =>
      rw [if_neg Bool.false_ne_true]
      have HM : Hid (R.data.toList = mantL ds pt fs) := Lib.hid (by rw [HR.out, hh]; unfold bodyL mantL; simp)
      have HH := Lib.hid hh
      have hb4 := HB.out
      clear hh
      go_wp2_with fail
      go_meet
      exact ⟨⟨_, rfl, HM.out⟩, ⟨0, rfl, by rw [HH.out]; rfl⟩, ⟨_, rfl⟩, hb4⟩
  case rest =>
    obtain ⟨⟨M, rfl, hM⟩, ⟨p, rfl, hp⟩, ⟨z, rfl⟩, hb5⟩ := hcut
    have hMs : M.size ≤ R.size := by
      rw [size_list, size_list, HR.out, hM.out]
      unfold bodyL mantL; rw [List.length_append, List.length_append, List.length_append]; omega
    obtain ⟨hlB, ml, hml⟩ := (HL.out.below hb5).len
    have hcut := Tryz.strings_Cut M ⟨#[46]⟩ ml wc (by omega) hml
    rw [hM.out, show (⟨#[46]⟩ : ByteArray).data.toList = [46] from rfl, HN.out.cutp] at hcut
    obtain ⟨W, hW⟩ : ∃ W : ByteArray, (⟨ds.toArray⟩ : ByteArray) = W := ⟨_, rfl⟩
    obtain ⟨F, hF⟩ : ∃ F : ByteArray, (⟨fs.toArray⟩ : ByteArray) = F := ⟨_, rfl⟩
    simp only [hW, hF] at hcut
    have HW : Hid (W.data.toList = ds ∧ F.data.toList = fs) := ⟨by rw [← hW], by rw [← hF]⟩
    have HC := Lib.hid hcut
    have hpb : -1099511627776 ≤ p ∧ p ≤ 1099511627776 := by rw [hp.out]; unfold cx; split <;> omega
    obtain ⟨hp1, hp2⟩ := hpb
    have hsz : W.size + F.size ≤ 67108864 := by
      have h1 : M.data.toList.length = (mantL ds pt fs).length := by rw [hM.out]
      rw [← size_list] at h1
      have h2 : fs.length ≤ (if pt = true then 46 :: fs else ([] : List UInt8)).length := by
        by_cases h : pt = true
        · rw [if_pos h]; simp
        · rw [HN.out.fs0 (by simpa using h)]; simp
      rw [size_list W, size_list F, HW.out.1, HW.out.2]
      unfold mantL at h1; rw [List.length_append] at h1; omega
    have hWF : ¬ 9223372036854775807 < W.size + F.size := by omega
    clear hcut hW hF hml
    go_wp2_with fail
    refine HC.out.mono ?_
    rintro e w3 ⟨rfl, q, rfl⟩
    have hb6 := belowN hb5 q
    generalize wc.drewN q = w4 at *
    clear hb5
    go_upto_if 58 with (fail)
    go_cut [6, 8, 12] (fun rv pv bv wd => (∃ M2 : ByteArray, rv = .string M2 ∧ Aside (M2.data.toList = ds ++ fs)) ∧ (∃ p2 : Int, pv = .int .i64 p2 ∧ Aside (p2 = p - (fs.length : Int))) ∧ (∃ q : Bool, bv = .bool q) ∧ wd = w4)
    case first =>
      cases hh : pt with
      | true =>
        have HM2 : Hid ((W ++ F).data.toList = ds ++ fs) := Lib.hid (by rw [ByteArray.data_append, Array.toList_append, HW.out.1, HW.out.2])
        have HF2 : Hid ((F.size : Int) = (fs.length : Int)) := Lib.hid (by rw [size_list F, HW.out.2])
        clear hh
        go_wp2_with fail
        go_meet
        exact ⟨⟨_, rfl, HM2.out⟩, ⟨_, rfl, by have := HF2.out; show p - (F.size : Int) = p - (fs.length : Int); omega⟩, ⟨_, rfl⟩, rfl⟩
      | false =>
        have HM2 : Hid (M.data.toList = ds ++ fs ∧ fs.length = 0) := Lib.hid (by rw [hM.out, HN.out.fs0 hh, hh]; unfold mantL; exact ⟨rfl, rfl⟩)
        clear hh
        go_wp2_with fail
        go_meet
        exact ⟨⟨_, rfl, HM2.out.1⟩, ⟨_, rfl, by have := HM2.out.2; show p = p - (fs.length : Int); omega⟩, ⟨_, rfl⟩, rfl⟩
    case rest =>
      obtain ⟨⟨M2, rfl, hM2⟩, ⟨p2, rfl, hp2e⟩, ⟨qb, rfl⟩, rfl⟩ := hcut
      have hfl : fs.length = F.size := by rw [size_list F, HW.out.2]
      have hdl : ds.length = W.size := by rw [size_list W, HW.out.1]
      have hM2s : M2.size = W.size + F.size := by rw [size_list, hM2.out, List.length_append, hfl, hdl]
      have hp2a : -1099578736640 ≤ p2 := by have := hp2e.out; omega
      have hp2b : p2 ≤ 1099578736640 := by have := hp2e.out; omega
      obtain ⟨D, hD⟩ : ∃ D : ByteArray, (⟨(Lib.trimLeftB M2.data.toList 48).toArray⟩ : ByteArray) = D := ⟨_, rfl⟩
      have hDl : D.data.toList = Lib.trimLeftB (ds ++ fs) 48 := by rw [← hD, hM2.out]
      have htl := Tryz.strings_TrimLeft_one M2 48 (by decide) wc
      rw [hD] at htl
      have HD := Lib.hid hDl
      have hDs : D.size ≤ M2.size := by
        have := trimLeft_len (ds ++ fs) 48
        rw [size_list, hDl, size_list, hM2.out]; exact this
      obtain ⟨U, hU⟩ : ∃ U : ByteArray, (⟨(Lib.trimRightB D.data.toList 48).toArray⟩ : ByteArray) = U := ⟨_, rfl⟩
      have hUl : U.data.toList = Lib.trimRightB (Lib.trimLeftB (ds ++ fs) 48) 48 := by rw [← hU, hDl]
      have htr := Tryz.strings_TrimRight_one D 48 (by decide) wc (by omega)
      rw [hU] at htr
      have HU := Lib.hid hUl
      have hUs : U.size ≤ D.size := by
        obtain ⟨j, hj⟩ := trim_split (Lib.trimLeftB (ds ++ fs) 48)
        have := congrArg List.length hj
        rw [List.length_append] at this
        rw [size_list, size_list, hUl, hDl]; omega
      have hbd : allD (ds ++ fs) := fun x hx => by
        rcases List.mem_append.1 hx with h | h
        · exact HN.out.dsd x h
        · exact HN.out.fsd x h
      have HBD : Hid (allD (ds ++ fs) ∧ ds.length + fs.length ≤ 67108864) := ⟨hbd, by omega⟩
      obtain ⟨P, hP⟩ : ∃ P : Int, p2 + ((D.size : Int) - (U.size : Int)) = P := ⟨_, rfl⟩
      have HP : Hid (P = whP fs hx sg es (Lib.trimLeftB (ds ++ fs) 48).length (Lib.trimRightB (Lib.trimLeftB (ds ++ fs) 48) 48).length) := Lib.hid (by
        rw [← hP, hp2e.out, hp.out, ← hUl, ← hDl, ← size_list, ← size_list]; rfl)
      have HTL := Lib.hid htl
      have HTR := Lib.hid htr
      clear hDl hUl htl htr hbd hD hU hfl hdl
      go_wp2_with fail
      refine HTL.out.mono ?_
      rintro e w5 ⟨rfl, rfl⟩
      go_wp2_with fail
      · have hz : Lib.trimLeftB (ds ++ fs) 48 = [] := by
          have h := ‹D.toList.isEmpty = true›
          rw [Lib.toList_data, HD.out] at h; exact List.isEmpty_iff.1 h
        go_ret2
        exact ⟨0, 0, wh_zero hz, rfl, hb6⟩
      have hz : Lib.trimLeftB (ds ++ fs) 48 ≠ [] := by
        have h := ‹D.toList.isEmpty = false›
        rw [Lib.toList_data, HD.out] at h; intro h2; rw [h2] at h; exact Bool.noConfusion h
      have HZ := Lib.hid hz
      clear hz
      refine HTR.out.mono ?_
      rintro e w6 ⟨rfl, rfl⟩
      by_cases hPlo : P < 0
      · have HF31 : Hid (WhSpec s neg (valV ds fs) (valX fs hx sg es) 0 31) := Lib.hid (wh_far HBD.out.1 HBD.out.2 HZ.out (Or.inl (by rw [← HP.out]; exact hPlo)))
        go_wp2_with fail
        go_ret2
        exact ⟨0, 31, HF31.out, rfl, hb6⟩
      · by_cases hPhi : 20 < P
        · have HF31 : Hid (WhSpec s neg (valV ds fs) (valX fs hx sg es) 0 31) := Lib.hid (wh_far HBD.out.1 HBD.out.2 HZ.out (Or.inr (Or.inl (by rw [← HP.out]; exact hPhi))))
          go_wp2_with fail
          go_ret2
          exact ⟨0, 31, HF31.out, rfl, hb6⟩
        · obtain ⟨n, rfl⟩ : ∃ n : Nat, P = (n : Int) := ⟨P.toNat, by omega⟩
          by_cases hsum : 20 < (U.size : Int) + (n : Int)
          · have HF31 : Hid (WhSpec s neg (valV ds fs) (valX fs hx sg es) 0 31) := Lib.hid (wh_far HBD.out.1 HBD.out.2 HZ.out (Or.inr (Or.inr (by rw [← HP.out, ← HU.out, ← size_list]; exact hsum))))
            go_wp2_with fail
            go_ret2
            exact ⟨0, 31, HF31.out, rfl, hb6⟩
          · obtain ⟨Z, hZ⟩ : ∃ Z : ByteArray, (⟨(Lib.repeatL (⟨#[48]⟩ : ByteArray).data.toList n).toArray⟩ : ByteArray) = Z := ⟨_, rfl⟩
            have hrep := Tryz.strings_Repeat ⟨#[48]⟩ n w6 (by omega) (by show 1 * n ≤ _; omega)
            rw [hZ] at hrep
            have hZs : Z.size = n := by
              rw [size_list, ← hZ]
              show (Lib.repeatL [48] n).length = n
              rw [repeat_nought, List.length_replicate]
            have hnear := wh_near (s := s) (neg := neg) (hx := hx) (sg := sg) (es := es) HBD.out.1 HBD.out.2 HZ.out (n := n) (by rw [← HP.out]) (by omega) rfl
            obtain ⟨o, ho⟩ : ∃ o, fitV s neg (nv (U ++ Z).data.toList) = o := ⟨_, rfl⟩
            have ho2 : fitV s neg (nv (Lib.trimRightB (Lib.trimLeftB (ds ++ fs) 48) 48 ++ Lib.repeatL [48] n)) = o := by
              rw [← ho, ByteArray.data_append, Array.toList_append, HU.out, ← hZ]
            rw [ho2] at hnear
            have HNEAR := Lib.hid hnear
            have hUZd : allD (U ++ Z).data.toList := by
              obtain ⟨j, -, -, -, -, -, hj⟩ := wh_trim HBD.out.1 HZ.out
              rw [ByteArray.data_append, Array.toList_append, HU.out, ← hZ]
              intro x hx1
              rcases List.mem_append.1 hx1 with h | h
              · exact hj x h
              · have h2 : x ∈ Lib.repeatL [48] n := h
                rw [repeat_nought] at h2
                rw [(List.mem_replicate.1 h2).2]; decide
            have hUZ0 : (U ++ Z).data.toList ≠ [] := by
              obtain ⟨j, -, -, -, -, hj, -⟩ := wh_trim HBD.out.1 HZ.out
              rw [ByteArray.data_append, Array.toList_append, HU.out]
              intro hc
              rw [List.append_eq_nil_iff] at hc
              rw [hc.1] at hj; exact absurd hj (by decide)
            have hUZs : (U ++ Z).size ≤ 281474976710656 := by rw [ByteArray.size_append]; omega
            have HFI := Lib.hid (HFIT.out (U ++ Z) hUZd hUZ0 hUZs)
            rw [ho] at HFI
            have HREP := Lib.hid hrep
            have hcat : ¬ 9223372036854775807 < U.size + Z.size := by omega
            clear hnear hUZd hUZ0 hUZs hrep hZ ho ho2
            go_wp2_with fail
            refine HREP.out.mono ?_
            rintro e w7 ⟨rfl, hb7⟩
            have hB6 := Nat.le_trans hB hb6.size
            have hb8 := hb6.trans (hb7.mono hB6)
            clear hb7
            have HB8 := Lib.hid hb8
            clear hb8
            go_wp2_with fail
            refine (HFI.out _ (Nat.le_trans hB HB8.out.size) (HL.out.errs.below HB8.out)).mono ?_
            rintro e w8 ⟨⟨b, hbo, rfl⟩ | ⟨hbo, rfl⟩, hw⟩
            · go_wp2_with fail
              go_ret2
              exact ⟨b, 0, HNEAR.out.1 b hbo, rfl, HB8.out.trans hw⟩
            · go_wp2_with fail
              go_ret2
              exact ⟨0, 31, HNEAR.out.2 hbo, rfl, HB8.out.trans hw⟩
end Go.Proofs.YtnpinogjajhlhaaGreatDoor.Fl
end
