/- A part of the proof that lexiconlaw03.NumsReads answers true at every kind and every text: Lead, DwLead, WkSet. No condition. -/
import Derived.Test.YtnpinogjajhlhaaGreatDoorZ28
import Derived.Test.YtnpinogjajhlhaaGreatDoorZ07
import Derived.Lib.IndexAny
import Derived.Lib.IndexMore
import Derived.Lib.TrimByte
import Derived.Lib.Strings
import Derived.Lib.ItoaLen
import Derived.Lib.QuietBelow
import Derived.Lib.AppendIntMem
import Derived.Lib.OwnBridge
import Derived.Deep.DeepCutAuto
import Derived.Deep.CutBlock
section
/- What the library's functions make of a NUMBER's parts. No program here. -/
namespace Go.Proofs.YtnpinogjajhlhaaGreatDoor.Fl

theorem ia_hit {chars : List UInt8} {c : UInt8} (hc : chars.contains c = true) (B : List UInt8) : ∀ A : List UInt8, (∀ x, x ∈ A → chars.contains x = false) → Lib.indexAny (A ++ c :: B) chars = A.length
  | [], _ => by show Lib.indexAny (c :: B) chars = 0; rw [Lib.indexAny, if_pos hc]
  | a :: A, h => by
    have ih := ia_hit hc B A (fun x hx => h x (List.mem_cons_of_mem _ hx))
    have ha := h a (List.mem_cons_self ..)
    rw [List.cons_append, Lib.indexAny, ha, ih]
    have : ((A.length : Int) == -1) = false := by rw [beq_eq_false_iff_ne]; omega
    simp [this]

theorem ia_none {chars : List UInt8} : ∀ A : List UInt8, (∀ x, x ∈ A → chars.contains x = false) → Lib.indexAny A chars = -1
  | [], _ => rfl
  | a :: A, h => by
    have ih := ia_none A (fun x hx => h x (List.mem_cons_of_mem _ hx))
    have ha := h a (List.mem_cons_self ..)
    rw [Lib.indexAny, ha, ih]; simp

theorem ix_hit {c : UInt8} (B : List UInt8) : ∀ A : List UInt8, (∀ x, x ∈ A → x ≠ c) → Lib.index (A ++ c :: B) [c] = A.length
  | [], _ => by simp [Lib.index]
  | a :: A, h => by
    have ih := ix_hit B A (fun x hx => h x (List.mem_cons_of_mem _ hx))
    have ha : (c == a) = false := beq_eq_false_iff_ne.2 (fun e => h a (List.mem_cons_self ..) e.symm)
    rw [List.cons_append, Lib.index, ih]
    have : ((A.length : Int) == -1) = false := by rw [beq_eq_false_iff_ne]; omega
    simp [List.isPrefixOf, ha, this]

theorem ix_none {c : UInt8} : ∀ A : List UInt8, (∀ x, x ∈ A → x ≠ c) → Lib.index A [c] = -1
  | [], _ => by simp [Lib.index]
  | a :: A, h => by
    have ih := ix_none A (fun x hx => h x (List.mem_cons_of_mem _ hx))
    have ha : (c == a) = false := beq_eq_false_iff_ne.2 (fun e => h a (List.mem_cons_self ..) e.symm)
    rw [Lib.index, ih]
    simp [List.isPrefixOf, ha]

theorem cut_hit {c : UInt8} (A B : List UInt8) (h : ∀ x, x ∈ A → x ≠ c) : Lib.cut (A ++ c :: B) [c] = (A, B, true) := by
  unfold Lib.cut
  rw [ix_hit B A h, if_pos (by omega)]
  simp

theorem cut_none {c : UInt8} (A : List UInt8) (h : ∀ x, x ∈ A → x ≠ c) : Lib.cut A [c] = (A, [], false) := by
  unfold Lib.cut
  rw [ix_none A h, if_neg (by omega)]

section
variable {L : List UInt8} {neg : Bool} {ds : List UInt8} {pt : Bool} {fs : List UInt8} {hx : Bool} {c : UInt8} {sg es : List UInt8}

/-- Behind the sign. -/
def bodyL (ds : List UInt8) (pt : Bool) (fs : List UInt8) (hx : Bool) (c : UInt8) (sg es : List UInt8) : List UInt8 := ds ++ ((if pt = true then 46 :: fs else []) ++ (if hx = true then c :: (sg ++ es) else []))
/-- The digits and the point. -/
def mantL (ds : List UInt8) (pt : Bool) (fs : List UInt8) : List UInt8 := ds ++ (if pt = true then 46 :: fs else [])

theorem NumL.first (h : NumL L neg ds pt fs hx c sg es) : ∃ d r, ds = d :: r ∧ 48 ≤ d.toNat ∧ d.toNat ≤ 57 := by
  cases hd : ds with
  | nil => exact absurd hd h.ds0
  | cons d r => exact ⟨d, r, rfl, h.dsd d (by rw [hd]; exact List.mem_cons_self ..)⟩

theorem NumL.minus (h : NumL L neg ds pt fs hx c sg es) : Lib.hasPrefix L [45] = neg ∧ Lib.trimPrefix L [45] = bodyL ds pt fs hx c sg es := by
  obtain ⟨d, r, hd, h1, h2⟩ := h.first
  have he := h.eq
  cases neg with
  | true =>
    simp only [if_true, List.cons_append, List.nil_append] at he
    rw [he]
    unfold Lib.trimPrefix Lib.hasPrefix
    constructor
    · simp [List.isPrefixOf]
    · simp [List.isPrefixOf, bodyL]
  | false =>
    simp only [Bool.false_eq_true, if_false, List.nil_append] at he
    rw [he]
    have h45 : ((45 : UInt8) == d) = false := beq_eq_false_iff_ne.2 (fun e => by rw [← e] at h1; exact absurd h1 (by decide))
    have hp : Lib.hasPrefix (ds ++ ((if pt = true then 46 :: fs else []) ++ (if hx = true then c :: (sg ++ es) else []))) [45] = false := by
      rw [hd]; unfold Lib.hasPrefix; simp [List.isPrefixOf, h45]
    refine ⟨hp, ?_⟩
    unfold Lib.trimPrefix
    rw [hp]; rfl

theorem digit_no_e {x : UInt8} (h : 48 ≤ x.toNat ∧ x.toNat ≤ 57) : ([101, 69] : List UInt8).contains x = false ∧ x ≠ 46 := by
  constructor
  · simp only [List.contains_cons, List.contains_nil, Bool.or_false, Bool.or_eq_false_iff, beq_eq_false_iff_ne]
    exact ⟨fun e => by rw [e] at h; exact absurd h (by decide), fun e => by rw [e] at h; exact absurd h (by decide)⟩
  · exact fun e => by rw [e] at h; exact absurd h (by decide)

theorem NumL.mant_no_e (h : NumL L neg ds pt fs hx c sg es) : ∀ x, x ∈ mantL ds pt fs → ([101, 69] : List UInt8).contains x = false := by
  intro x hx1
  unfold mantL at hx1
  rcases List.mem_append.1 hx1 with h1 | h1
  · exact (digit_no_e (h.dsd x h1)).1
  · split at h1
    · rcases List.mem_cons.1 h1 with rfl | h2
      · decide
      · exact (digit_no_e (h.fsd x h2)).1
    · exact absurd h1 (List.not_mem_nil)

theorem NumL.any (h : NumL L neg ds pt fs hx c sg es) : Lib.indexAny (bodyL ds pt fs hx c sg es) [101, 69] = if hx = true then ((mantL ds pt fs).length : Int) else -1 := by
  have e : bodyL ds pt fs hx c sg es = mantL ds pt fs ++ (if hx = true then c :: (sg ++ es) else []) := by unfold bodyL mantL; rw [List.append_assoc]
  rw [e]
  cases hx with
  | true =>
    exact ia_hit (by rcases h.cc with rfl | rfl <;> decide) (sg ++ es) _ h.mant_no_e
  | false =>
    simp only [Bool.false_eq_true, if_false, List.append_nil]
    exact ia_none _ h.mant_no_e

theorem NumL.cutp (h : NumL L neg ds pt fs hx c sg es) : Lib.cut (mantL ds pt fs) [46] = (ds, fs, pt) := by
  have hd : ∀ x, x ∈ ds → x ≠ 46 := fun x hx => (digit_no_e (h.dsd x hx)).2
  unfold mantL
  cases hpt : pt with
  | true => exact cut_hit ds fs hd
  | false =>
    rw [h.fs0 hpt]
    simp only [Bool.false_eq_true, if_false, List.append_nil]
    exact cut_none ds hd

theorem NumL.ascii (h : NumL L neg ds pt fs hx c sg es) : ∀ x, x ∈ bodyL ds pt fs hx c sg es → x.toNat < 128 := by
  have hsg : ∀ x, x ∈ sg → x.toNat < 128 := by
    rcases h.sgn with h | h | h <;> rw [h] <;> simp
  have hc : c.toNat < 128 := by rcases h.cc with h | h <;> rw [h] <;> decide
  intro x hx1
  unfold bodyL at hx1
  rcases List.mem_append.1 hx1 with h1 | h1
  · have := h.dsd x h1; omega
  · rcases List.mem_append.1 h1 with h2 | h2
    · split at h2
      · rcases List.mem_cons.1 h2 with rfl | h3
        · decide
        · have := h.fsd x h3; omega
      · exact absurd h2 (List.not_mem_nil)
    · split at h2
      · rcases List.mem_cons.1 h2 with rfl | h3
        · exact hc
        · rcases List.mem_append.1 h3 with h4 | h4
          · exact hsg x h4
          · have := h.esd x h4; omega
      · exact absurd h2 (List.not_mem_nil)

end
end Go.Proofs.YtnpinogjajhlhaaGreatDoor.Fl
end
section
/- leading, walked at a NUMBER. -/
namespace Go.Proofs.YtnpinogjajhlhaaGreatDoor.Fl
open Go.RowKit

/-- What the library's functions need of the memory, below B. -/
structure LibAt (w : World) (B : Nat) : Prop where
  errs : ErrsAt w B
  len : 1 < B ∧ ∃ m, w.cell? ⟨1, 0, none⟩ = some (.int .i64 m)
  tab : Lib.TabIs Tryz.prog w "internal/strconv.uint64pow10" .u64 Lib.pow10Tab
  tabB : 2 < B

theorem LibAt.below {w w' : World} {B : Nat} (h : LibAt w B) (hb : Below B w w') : LibAt w' B := by
  obtain ⟨h1, ⟨h2, m, h3⟩, h4, h5⟩ := h
  exact ⟨h1.below hb, ⟨h2, m, (hb.cell (p := ⟨_, 0, none⟩) h2).trans h3⟩, var?_below hb (by kernel_rfl) h5 h4, h5⟩

theorem ext_list (R : ByteArray) (a b : Nat) : (R.extract a b).data.toList = (R.data.toList.drop a).take (b - a) := by
  rw [ByteArray.data_extract, Array.toList_extract]

theorem size_list (R : ByteArray) : R.size = R.data.toList.length := (Array.length_toList).symm

theorem lead_join (D I : ByteArray) : (D.extract 0 1 ++ ⟨#[46]⟩ ++ D.extract 1 D.size ++ ⟨#[101]⟩ ++ I).data.toList = D.data.toList.take 1 ++ (46 :: (D.data.toList.drop 1 ++ (101 :: I.data.toList))) := by
  have h2 : (D.data.toList.drop 1).take (D.size - 1) = D.data.toList.drop 1 := List.take_of_length_le (by rw [List.length_drop, ← size_list]; omega)
  simp only [ByteArray.data_append, Array.toList_append, ext_list, h2, List.drop_zero, Nat.sub_zero]
  simp

theorem lead_join_neg (D I : ByteArray) : (⟨#[45]⟩ ++ D.extract 0 1 ++ ⟨#[46]⟩ ++ D.extract 1 D.size ++ ⟨#[101]⟩ ++ I).data.toList = 45 :: (D.data.toList.take 1 ++ (46 :: (D.data.toList.drop 1 ++ (101 :: I.data.toList)))) := by
  have h2 : (D.data.toList.drop 1).take (D.size - 1) = D.data.toList.drop 1 := List.take_of_length_le (by rw [List.length_drop, ← size_list]; omega)
  simp only [ByteArray.data_append, Array.toList_append, ext_list, h2, List.drop_zero, Nat.sub_zero]
  simp

/-- The digits that leading writes. -/
def leadD (ds fs : List UInt8) : List UInt8 := if Lib.trimLeftB (ds ++ fs) 48 = [] then [48] else Lib.trimLeftB (ds ++ fs) 48
def leadP (ds fs : List UInt8) (hx : Bool) (sg es : List UInt8) : Int := (if hx = true then cx sg es else 0) + ((leadD ds fs).length : Int) - 1 - (fs.length : Int)
def leadL (neg : Bool) (D : List UInt8) (P : Int) : List UInt8 := (if neg = true then [45] else []) ++ (D.take 1 ++ (46 :: (D.drop 1 ++ (101 :: Lib.itoa P))))

theorem trimLeft_len (l : List UInt8) (c : UInt8) : (Lib.trimLeftB l c).length ≤ l.length := by
  unfold Lib.trimLeftB; exact (List.dropWhile_suffix _).sublist.length_le

theorem leadD_len {ds : List UInt8} (h0 : ds ≠ []) (fs : List UInt8) : (leadD ds fs).length ≤ ds.length + fs.length ∧ 1 ≤ (leadD ds fs).length := by
  have h1 := trimLeft_len (ds ++ fs) 48
  have h2 : 0 < ds.length := List.length_pos_iff.2 h0
  rw [List.length_append] at h1
  unfold leadD
  split
  · simp; omega
  · rename_i h
    have := List.length_pos_iff.2 h
    omega

theorem itoa_len {P : Int} (h1 : -9223372036854775808 ≤ P) (h2 : P ≤ 9223372036854775807) : (Lib.itoa P).length ≤ 100 := by
  unfold Lib.itoa
  split
  · rw [List.length_cons, Lib.decDigits_length]
    have := Lib.nDigits_le20 P.natAbs (by omega)
    omega
  · rw [Lib.decDigits_length]
    have := Lib.nDigits_le20 P.toNat (by omega)
    omega

def LeadPost (l : List UInt8) (B : Nat) (w : World) (e : Ending) (w' : World) : Prop := ∃ T : ByteArray, e = .returned (.string T) ∧ T.data.toList = l ∧ Below B w w'

set_option maxRecDepth 100000 in
theorem lead_walk (S : ByteArray) {neg : Bool} {ds : List UInt8} {pt : Bool} {fs : List UInt8} {hx : Bool} {c : UInt8} {sg es : List UInt8} (hN : NumL S.data.toList neg ds pt fs hx c sg es) (hb : S.size ≤ 67108864) (w : World) (B : Nat) (hB : B ≤ w.heap.size) (hL : LibAt w B) :
    Calls Tryz.prog 50 #[.string S] w (LeadPost (leadL neg (leadD ds fs) (leadP ds fs hx sg es)) B w) := by
  obtain ⟨R, hR⟩ : ∃ R : ByteArray, (⟨(Lib.trimPrefix S.data.toList [45]).toArray⟩ : ByteArray) = R := ⟨_, rfl⟩
  have hRl : R.data.toList = bodyL ds pt fs hx c sg es := by rw [← hR]; exact hN.minus.2
  have hcp := fun w => Tryz.strings_CutPrefix S ⟨#[45]⟩ w
  have hcp2 : ∀ w, Calls Tryz.prog 19 #[.string S, .string ⟨#[45]⟩] w (fun e w' => e = .returned (.tuple #[.string R, .bool neg]) ∧ w' = w) := fun w => by
    have := hcp w
    rw [show (⟨#[45]⟩ : ByteArray).data.toList = [45] from rfl, hN.minus.1, hR] at this
    exact this
  have HA := Lib.hid hcp2
  have HN := Lib.hid hN
  have HL := Lib.hid hL
  have HR : Hid (R.data.toList = bodyL ds pt fs hx c sg es) := Lib.hid hRl
  clear hcp hcp2 hR hRl hN hL
  go_enter Tryz.func50, Tryz.ntmps50
  go_wp2_with fail
  refine (HA.out _).mono ?_
  rintro e w' ⟨rfl, rfl⟩
  have hRs : R.size ≤ S.size := by
    rw [size_list, size_list, HR.out, HN.out.eq, List.length_append]
    unfold bodyL; omega
  have hia := Tryz.strings_IndexAny_laid R ⟨#[101, 69]⟩ w' (by omega) (by decide) (fun j b hj => HN.out.ascii b (by rw [← HR.out]; exact List.mem_of_getElem? hj)) (fun j b hj => by
    have : b ∈ ([101, 69] : List UInt8) := List.mem_of_getElem? hj
    simp at this; rcases this with rfl | rfl <;> decide)
  rw [HR.out, show (⟨#[101, 69]⟩ : ByteArray).data.toList = [101, 69] from rfl, HN.out.any] at hia
  obtain ⟨k, hk⟩ : ∃ k, (mantL ds pt fs).length = k := ⟨_, rfl⟩
  rw [hk] at hia
  have hkR : k ≤ R.size := by
    rw [size_list, HR.out, ← hk]
    unfold bodyL mantL
    rw [List.length_append, List.length_append, List.length_append]; omega
  have HK := Lib.hid hk
  have hB0 := Lib.hid hia
  clear hia hk
  go_wp2_with fail
  refine hB0.out.mono ?_
  rintro e w2 ⟨rfl, hb2⟩
  have hbb := hb2.mono hB
  clear hb2 hB0
  have HB := Lib.hid hbb
  have hB2 := Nat.le_trans hB hbb.size
  clear hbb
  go_upto_if 19 with (fail)
  go_cut [3, 5, 6] (fun rv pv iv wd => (∃ M : ByteArray, rv = .string M ∧ Aside (M.data.toList = mantL ds pt fs)) ∧ (∃ p : Int, pv = .int .i64 p ∧ Aside (p = if hx = true then cx sg es else 0)) ∧ (∃ z, iv = .int .i64 z) ∧ Below B w' wd)
  case first =>
    cases hh : hx with
    | true =>
      rw [if_pos rfl]
      have hkR2 : k + 1 ≤ R.size := by
        rw [size_list, HR.out, ← HK.out, hh]
        unfold bodyL mantL
        simp only [if_true, List.length_append, List.length_cons]; omega
      have hlist : (R.extract (k + 1) R.size).data.toList = sg ++ es := by
        rw [ext_list, HR.out, hh]
        have e : bodyL ds pt fs true c sg es = mantL ds pt fs ++ (c :: (sg ++ es)) := by unfold bodyL mantL; rw [List.append_assoc]; rfl
        rw [size_list, HR.out, hh, e, ← HK.out]
        have e2 : (mantL ds pt fs ++ c :: (sg ++ es)).drop ((mantL ds pt fs).length + 1) = sg ++ es := by
          rw [← List.drop_drop, List.drop_left]; rfl
        rw [e2, List.take_of_length_le]
        simp only [List.length_append, List.length_cons]; omega
      have hexp := expo_walk (R.extract (k + 1) R.size) sg es hlist HN.out.sgn HN.out.esd (HN.out.es1 hh) (by rw [extract_size]; omega) w2 B hB2 (HL.out.errs.below HB.out)
      have HE := Lib.hid hexp
      have HM : Hid ((R.extract 0 k).data.toList = mantL ds pt fs) := by
        refine Lib.hid ?_
        rw [ext_list, HR.out]
        have e : bodyL ds pt fs hx c sg es = mantL ds pt fs ++ (if hx = true then c :: (sg ++ es) else []) := by unfold bodyL mantL; rw [List.append_assoc]
        rw [e, ← HK.out]; simp
      have HH := Lib.hid hh
      clear hlist hexp hh
      go_wp2_with fail
      refine HE.out.mono ?_
      rintro e w3 ⟨rfl, hb3⟩
      obtain ⟨cv, hcv⟩ : ∃ cv, cx sg es = cv := ⟨_, rfl⟩
      have HC := Lib.hid hcv
      rw [hcv]
      clear hcv
      have hb4 := HB.out.trans hb3
      clear hb3
      go_wp2_with fail
      go_meet
      exact ⟨⟨_, rfl, HM.out⟩, ⟨cv, rfl, by rw [HH.out, if_pos rfl]; exact HC.out.symm⟩, ⟨_, rfl⟩, hb4⟩
    | false =>
      rw [if_neg Bool.false_ne_true]
      have HM : Hid (R.data.toList = mantL ds pt fs) := Lib.hid (by rw [HR.out, hh]; unfold bodyL mantL; simp)
      have HH := Lib.hid hh
      have hb4 := HB.out
      clear hh
      go_wp2_with fail
      go_meet
      exact ⟨⟨_, rfl, HM.out⟩, ⟨0, rfl, by rw [HH.out]; rfl⟩, ⟨_, rfl⟩, hb4⟩
  case rest =>
    obtain ⟨⟨M, rfl, hM⟩, ⟨p, rfl, hp⟩, ⟨z, rfl⟩, hb5⟩ := hcut
    have hMs : M.size ≤ R.size := by
      rw [size_list, size_list, HR.out, hM.out]
      unfold bodyL mantL; rw [List.length_append, List.length_append, List.length_append]; omega
    obtain ⟨hlB, ml, hml⟩ := (HL.out.below hb5).len
    have hcut := Tryz.strings_Cut M ⟨#[46]⟩ ml wc (by omega) hml
    rw [hM.out, show (⟨#[46]⟩ : ByteArray).data.toList = [46] from rfl, HN.out.cutp] at hcut
    obtain ⟨W, hW⟩ : ∃ W : ByteArray, (⟨ds.toArray⟩ : ByteArray) = W := ⟨_, rfl⟩
    obtain ⟨F, hF⟩ : ∃ F : ByteArray, (⟨fs.toArray⟩ : ByteArray) = F := ⟨_, rfl⟩
    simp only [hW, hF] at hcut
    have HW : Hid (W.data.toList = ds ∧ F.data.toList = fs) := ⟨by rw [← hW], by rw [← hF]⟩
    have HC := Lib.hid hcut
    have hpb : -1099511627776 ≤ p ∧ p ≤ 1099511627776 := by rw [hp.out]; unfold cx; split <;> omega
    obtain ⟨hp1, hp2⟩ := hpb
    have hsz : W.size + F.size ≤ 67108864 := by
      have h1 : M.data.toList.length = (mantL ds pt fs).length := by rw [hM.out]
      rw [← size_list] at h1
      have h2 : fs.length ≤ (if pt = true then 46 :: fs else ([] : List UInt8)).length := by
        by_cases h : pt = true
        · rw [if_pos h]; simp
        · rw [HN.out.fs0 (by simpa using h)]; simp
      rw [size_list W, size_list F, HW.out.1, HW.out.2]
      unfold mantL at h1; rw [List.length_append] at h1; omega
    have hWF : ¬ 9223372036854775807 < W.size + F.size := by omega
    clear hcut hW hF hml
    go_wp2_with fail
    refine HC.out.mono ?_
    rintro e w3 ⟨rfl, q, rfl⟩
    have hb6 := belowN hb5 q
    generalize wc.drewN q = w4 at *
    clear hb5
    go_wp2_with fail
    obtain ⟨D0, hD0⟩ : ∃ D0 : ByteArray, (⟨(Lib.trimLeftB (W ++ F).data.toList 48).toArray⟩ : ByteArray) = D0 := ⟨_, rfl⟩
    have hD0l : D0.data.toList = Lib.trimLeftB (ds ++ fs) 48 := by
      rw [← hD0, ByteArray.data_append, Array.toList_append, HW.out.1, HW.out.2]
    have htl := Tryz.strings_TrimLeft_one (W ++ F) 48 (by decide) w4
    rw [hD0] at htl
    have HD0 := Lib.hid hD0l
    refine htl.mono ?_
    rintro e w5 ⟨rfl, rfl⟩
    clear htl hD0l hD0
    go_upto_if 39 with (fail)
    obtain ⟨bb, hbe⟩ : ∃ bb, D0.toList.isEmpty = bb := ⟨_, rfl⟩
    rw [hbe]
    have HBE := Lib.hid hbe
    clear hbe
    go_cut [10] (fun dv wd => (∃ D : ByteArray, dv = .string D ∧ Aside (D.data.toList = leadD ds fs)) ∧ wd = w5)
    case first =>
      cases hh : bb with
      | true =>
        have HE : Hid (leadD ds fs = [48]) := Lib.hid (by
          have h := HBE.out
          rw [hh, Lib.toList_data, HD0.out] at h
          unfold leadD; rw [if_pos (List.isEmpty_iff.1 h)])
        clear hh
        go_wp2_with fail
        go_meet
        exact ⟨⟨_, rfl, HE.out.symm⟩, rfl⟩
      | false =>
        have HE : Hid (leadD ds fs = D0.data.toList) := Lib.hid (by
          have h := HBE.out
          rw [hh, Lib.toList_data, HD0.out] at h
          unfold leadD; rw [if_neg (fun e => by rw [e] at h; exact Bool.noConfusion h), HD0.out])
        clear hh
        go_wp2_with fail
        go_meet
        exact ⟨⟨_, rfl, HE.out.symm⟩, rfl⟩
    case rest =>
      obtain ⟨⟨D, rfl, hD⟩, rfl⟩ := hcut
      have hDl := leadD_len HN.out.ds0 fs
      have hDs : D.size = (leadD ds fs).length := by rw [size_list, hD.out]
      have hfl : fs.length = F.size := by rw [size_list F, HW.out.2]
      have hdl : ds.length = W.size := by rw [size_list W, HW.out.1]
      have hD1 : 1 ≤ D.size := by omega
      have hD2 : D.size ≤ 67108864 := by omega
      obtain ⟨P, hP⟩ : ∃ P : Int, p + ((D.size : Int) - 1 - (F.size : Int)) = P := ⟨_, rfl⟩
      have HP : Hid (P = leadP ds fs hx sg es) := Lib.hid (by rw [← hP, hp.out, hDs, ← hfl]; unfold leadP; omega)
      have hP1 : -9223372036854775808 ≤ P := by omega
      have hP2 : P ≤ 9223372036854775807 := by omega
      have hit := Tryz.strconv_Itoa P hP1 hP2
      obtain ⟨I, hI⟩ : ∃ I : ByteArray, (⟨(Lib.itoa P).toArray⟩ : ByteArray) = I := ⟨_, rfl⟩
      rw [hI] at hit
      have HI : Hid (I.data.toList = Lib.itoa P) := Lib.hid (by rw [← hI])
      have hcall : ∀ (d : Nat) (os : Array Obj), Calls Tryz.prog 87 #[.int .i64 P] (Sort.grow (redrawn wc d) os) (fun e w'' => e = .returned (.string I) ∧ ∃ p : Regrown, w'' = Sort.grow (redrawn wc p.d) p.os) := fun d os => by
        have hb1 := hb6.trans ((below_regrown wc d os).mono (Nat.le_trans hB hb6.size))
        refine Calls.regrown_of ((hit _ (HL.out.below hb1).tab).mono ?_)
        rintro e w2 ⟨rfl, k, os2, rfl⟩
        exact ⟨rfl, Lib.below_grow _ _ (Nat.le_refl _) k os2⟩
      have HCALL := Lib.hid hcall
      have hIs : I.size ≤ 100 := by
        rw [size_list, HI.out]; exact itoa_len hP1 hP2
      clear HD0 hDl hDs hfl hdl hI hit hcall
      have g1 : (1 : Int) ≤ (D.size : Int) := by omega
      have n2 : ¬ 9223372036854775807 < 2 + (D.size - 1) := by omega
      have n3 : ¬ 9223372036854775807 < 2 + (D.size - 1) + 1 := by omega
      have n4 : ¬ 9223372036854775807 < 2 + (D.size - 1) + 1 + I.size := by omega
      have m2 : ¬ 9223372036854775807 < 3 + (D.size - 1) := by omega
      have m3 : ¬ 9223372036854775807 < 3 + (D.size - 1) + 1 := by omega
      have m4 : ¬ 9223372036854775807 < 3 + (D.size - 1) + 1 + I.size := by omega
      cases hneg : neg with
      | false =>
        have HNG := Lib.hid hneg
        clear hneg
        go_wp2_with fail
        refine wp_region_quiet_below (by kernel_rfl) (by kernel_rfl) ?_
        repeat (quiet_step (first | (go_at_call 87; exact HCALL.out _ _)))
        refine wpQuiet_nil ?_
        intro _ hw'
        obtain ⟨⟨dq, osq⟩, hw''⟩ := hw'
        subst hw''
        have hb7 := hb6.trans ((below_regrown wc dq osq).mono (Nat.le_trans hB hb6.size))
        go_wp2_with fail
        go_ret
        refine ⟨_, rfl, ?_, hb7⟩
        rw [lead_join, hD.out, HI.out, HP.out, HNG.out]; rfl
      | true =>
        have HNG := Lib.hid hneg
        clear hneg
        go_wp2_with fail
        refine wp_region_quiet_below (by kernel_rfl) (by kernel_rfl) ?_
        repeat (quiet_step (first | (go_at_call 87; exact HCALL.out _ _)))
        refine wpQuiet_nil ?_
        intro _ hw'
        obtain ⟨⟨dq, osq⟩, hw''⟩ := hw'
        subst hw''
        have hb7 := hb6.trans ((below_regrown wc dq osq).mono (Nat.le_trans hB hb6.size))
        go_wp2_with fail
        go_ret
        refine ⟨_, rfl, ?_, hb7⟩
        rw [lead_join_neg, hD.out, HI.out, HP.out, HNG.out]; rfl
end Go.Proofs.YtnpinogjajhlhaaGreatDoor.Fl
end
section
/- setDigits at a number whose digits behind the first one are noughts, walked. -/
namespace Go.Proofs.YtnpinogjajhlhaaGreatDoor.Fl
open Go.RowKit Go.Sort Go.Lib

/-- 32 bytes of nought in a block. -/
def ZeroAt (w : World) (b : Nat) : Prop := ∀ i, i < 32 → w.cell? ⟨b, i, none⟩ = some (.int .u8 0) ∧ w.frozen? ⟨b, i, none⟩ = false

def SdgPost (nd : Nat) (p : Int) (c b B : Nat) (w : World) (e : Ending) (w' : World) : Prop :=
  e = .returned (.tuple #[.int .i64 (nd + p), .int .i64 1]) ∧ w'.cell? ⟨b, 0, none⟩ = some (.int .u8 (c : Nat)) ∧ Below B w w'

theorem putRow_one {w : World} {b n : Nat} {dk : Array UInt8} (q : Nat) (hz : ZeroAt w b) (hn : n ≤ 32) (hs : dk.size = n) : ∀ i, i < n → ((putRow (fun (x : UInt8) => Value.int .u8 (x.toNat : Int)) w b 0 dk).drewN q).cell? ⟨b, i, none⟩ = some (.int .u8 (dk[i]!.toNat : Int)) := by
  intro i hi
  have h0 : Holds (fun (x : UInt8) => Value.int .u8 (x.toNat : Int)) w b 0 (Array.replicate n (0 : UInt8)) := by
    intro j hj
    rw [Array.size_replicate] at hj
    have := hz j (by omega)
    rw [Nat.zero_add]
    refine ⟨?_, this.2⟩
    rw [this.1, getElem!_pos _ j (by simpa using hj), Array.getElem_replicate]; rfl
  have := (holds_putRow _ w b 0 _ dk h0 (by rw [hs, Array.size_replicate]) i (by omega)).1
  rw [Nat.zero_add] at this
  exact this

set_option maxRecDepth 100000 in
theorem setd_walk (u nd c b B : Nat) (p : Int) (w : World) (hz : ZeroAt w b) (hB : B ≤ b) (hnd : 1 ≤ nd) (hnd2 : nd ≤ 20) (hu : u < 10 ^ nd) (hu64 : u < 18446744073709551616) (hp1 : -1000 ≤ p) (hp2 : p ≤ 1000)
    (hc : (dg u (nd - 1)).toNat = c) (hc2 : c ≠ 48) (hd : ∀ t, 1 ≤ t → t < nd → (dg u (nd - 1 - t)).toNat = 48) :
    Calls Tryz.prog 160 #[.slice (some ⟨b, 0, none⟩) 32 32, .int .u64 u, .int .i64 p, .int .i64 nd] w (SdgPost nd p c b B w) := by
  have h0 : Holds (fun (x : UInt8) => Value.int .u8 (x.toNat : Int)) w b 0 (Array.replicate nd (0 : UInt8)) := by
    intro j hj
    rw [Array.size_replicate] at hj
    have := hz j (by omega)
    rw [Nat.zero_add]
    refine ⟨?_, this.2⟩
    rw [this.1, getElem!_pos _ j (by simpa using hj), Array.getElem_replicate]; rfl
  have hfb := Tryz.internal_strconv_formatBase10 b 0 32 u (Array.replicate nd (0 : UInt8)) w h0 (by rw [Array.size_replicate]; exact hu) hu64 (by rw [Array.size_replicate]; omega)
  rw [Array.size_replicate] at hfb
  have HF := Lib.hid hfb
  have HZ := Lib.hid hz
  have HD := Lib.hid (And.intro hc (And.intro hc2 hd))
  have hn1 : (nd : Int) ≤ 20 := by omega
  have hn2 : (1 : Int) ≤ nd := by omega
  clear h0 hfb hz hc hc2 hd hu hu64
  go_enter Tryz.func160, Tryz.ntmps160
  go_wp2_with fail
  refine HF.out.mono ?_
  rintro e w1 ⟨rfl, n, v', dk, rfl, hI⟩
  have hcell := putRow_one n HZ.out (by omega) hI.size
  have hdig : ∀ t, t < nd → dk[t]! = dg u (nd - 1 - t) := fun t ht => hI.done t (Nat.zero_le _) ht
  have hbel : Below B w ((putRow (fun (x : UInt8) => Value.int .u8 (x.toNat : Int)) w b 0 dk).drewN n) := belowN (Lib.below_putRow (q := 0) (Below.refl _ _) hB) n
  generalize (putRow (fun (x : UInt8) => Value.int .u8 (x.toNat : Int)) w b 0 dk).drewN n = w1 at *
  have HW : Hid ((∀ i, i < nd → w1.cell? ⟨b, i, none⟩ = some (.int .u8 ((dg u (nd - 1 - i)).toNat : Int))) ∧ Below B w w1) :=
    ⟨fun i hi => by rw [← hdig i hi]; exact hcell i hi, hbel⟩
  clear hcell hdig hbel hI HF
  go_wp2_with fail
  go_loopg [3] nd (fun mm nv wr => ∃ j : Nat, nv = .int .i64 j ∧ Aside (mm = j ∧ 1 ≤ j ∧ j ≤ nd) ∧ wr = w1)
  case atStart => exact ⟨nd, rfl, ⟨rfl, hnd, Nat.le_refl _⟩, rfl⟩
  case round =>
    obtain ⟨j, rfl, hA, rfl⟩ := hrel
    have hj1 := hA.out.2.1
    have hj2 := hA.out.2.2
    obtain ⟨k, rfl⟩ : ∃ k, j = k + 1 := ⟨j - 1, by omega⟩
    have hk : (((k + 1 : Nat) : Int) - 1) = (k : Int) := by omega
    have hd : 0 < ((k + 1 : Nat) : Int) := by omega
    have hk2 : (k : Int) < 32 := by omega
    have hc0 := HW.out.1 k (by omega)
    by_cases h0 : k = 0
    · subst h0
      have hcz : (dg u (nd - 1 - 0)).toNat = c := HD.out.1
      rw [hcz] at hc0
      have hb : (((c : Nat) : Int) == 48) = false := by rw [beq_eq_false_iff_ne]; have := HD.out.2.1; omega
      have HC := Lib.hid hc0
      clear hcz
      go_wp2_with fail
      go_ret2
      exact ⟨rfl, HC.out, HW.out.2⟩
    · rw [HD.out.2.2 k (by omega) (by omega)] at hc0
      have H0 := Lib.hid h0
      clear h0
      go_wp2_with fail
      go_roundg k
      case measure => have := hA.out.1; omega
      case rel => exact ⟨k, by first | rfl | go_num, ⟨rfl, by have := H0.out; omega, by omega⟩, rfl⟩
end Go.Proofs.YtnpinogjajhlhaaGreatDoor.Fl
end
