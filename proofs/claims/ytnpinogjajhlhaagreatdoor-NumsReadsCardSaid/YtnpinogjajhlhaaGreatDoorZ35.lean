/- A part of the proof that lexiconlaw03.NumsReads answers true at every kind and every text: DwReadK, DwReadA. No condition. -/
import Derived.Test.YtnpinogjajhlhaaGreatDoorZ33
import Derived.Test.YtnpinogjajhlhaaGreatDoorZ34
section
/- nums.Read, walked. -/
namespace Go.Proofs.YtnpinogjajhlhaaGreatDoor.Fl
open Go.RowKit

theorem run_all (R : ByteArray) : run R 0 = R.size ↔ allD R.data.toList := by
  constructor
  · intro h x hx
    obtain ⟨k, hk⟩ := List.mem_iff_getElem?.1 hx
    have hb := at_list hk
    obtain ⟨hl, -⟩ := List.getElem?_eq_some_iff.1 hk
    rw [← size_list] at hl
    have := (run_props R 0).2.1 k (by omega) (by omega)
    unfold dgt at this; omega
  · intro h
    refine run_unique (fun hc => by have := dgt_in hc; omega) 0 (by omega) fun k _ hk => ?_
    obtain ⟨x, h1, h2⟩ := list_at hk
    have := h x (List.mem_of_getElem? h1)
    unfold dgt; omega

def TrueL : List UInt8 := [116, 114, 117, 101]
def FalseL : List UInt8 := [102, 97, 108, 115, 101]

/-- Behind a minus. -/
def restL (S : ByteArray) : List UInt8 := if bt S 0 = 45 then S.data.toList.drop 1 else S.data.toList

/-- A text that an integer may be written as. -/
def okInt (S : ByteArray) : Prop := restL S ≠ [] ∧ allD (restL S) ∧ ((restL S).head? = some 48 → S.toList = [48])

def IntSpec (s : Int) (S : ByteArray) (b : Nat) (err : Int) : Prop :=
  (¬ okInt S ∧ b = 0 ∧ err = 30) ∨ (okInt S ∧ ((fitV s (decide (bt S 0 = 45)) (nv (restL S)) = some b ∧ err = 0) ∨ (fitV s (decide (bt S 0 = 45)) (nv (restL S)) = none ∧ b = 0 ∧ err = 31)))

theorem IntSpec.unique {s : Int} {S : ByteArray} {b1 b2 : Nat} {e1 e2 : Int} (h1 : IntSpec s S b1 e1) (h2 : IntSpec s S b2 e2) : b1 = b2 ∧ e1 = e2 := by
  rcases h1 with ⟨a1, a2, a3⟩ | ⟨a1, ⟨a2, a3⟩ | ⟨a2, a3, a4⟩⟩ <;> rcases h2 with ⟨c1, c2, c3⟩ | ⟨c1, ⟨c2, c3⟩ | ⟨c2, c3, c4⟩⟩
  · exact ⟨by omega, by omega⟩
  · exact absurd c1 a1
  · exact absurd c1 a1
  · exact absurd a1 c1
  · rw [a2] at c2; injection c2 with c2; exact ⟨c2, by omega⟩
  · rw [a2] at c2; cases c2
  · exact absurd a1 c1
  · rw [a2] at c2; cases c2
  · exact ⟨by omega, by omega⟩

def BoolSpec (S : ByteArray) (b : Nat) (err : Int) : Prop :=
  (S.toList = TrueL ∧ b = 1 ∧ err = 0) ∨ (S.toList ≠ TrueL ∧ S.toList = FalseL ∧ b = 0 ∧ err = 0) ∨ (S.toList ≠ TrueL ∧ S.toList ≠ FalseL ∧ b = 0 ∧ err = 30)

theorem BoolSpec.unique {S : ByteArray} {b1 b2 : Nat} {e1 e2 : Int} (h1 : BoolSpec S b1 e1) (h2 : BoolSpec S b2 e2) : b1 = b2 ∧ e1 = e2 := by
  rcases h1 with ⟨a1, a2, a3⟩ | ⟨a1, a2, a3, a4⟩ | ⟨a1, a2, a3, a4⟩ <;> rcases h2 with ⟨c1, c2, c3⟩ | ⟨c1, c2, c3, c4⟩ | ⟨c1, c2, c3, c4⟩ <;>
  first
    | exact ⟨by omega, by omega⟩
    | exact absurd a1 c1
    | exact absurd c1 a1
    | exact absurd a2 c2
    | exact absurd c2 a2

/-- What a text is read as, of a kind whose sort is s. -/
def RdSpec (s : Int) (S : ByteArray) (neg : Bool) (V : Nat) (X : Int) (b : Nat) (err : Int) : Prop :=
  (s = 0 ∧ b = 0 ∧ err = 30) ∨ (s = 1 ∧ BoolSpec S b err) ∨ (s = 6 ∧ FlSpec Ieee.single 149 2143289344 S neg V X b err) ∨ (s = 7 ∧ FlSpec Ieee.double 1074 9221120237041090560 S neg V X b err) ∨ ((s = 2 ∨ s = 3 ∨ s = 4 ∨ s = 5) ∧ IntSpec s S b err)

theorem RdSpec.unique {s : Int} {S : ByteArray} {neg : Bool} {V : Nat} {X : Int} {b1 b2 : Nat} {e1 e2 : Int} (h1 : RdSpec s S neg V X b1 e1) (h2 : RdSpec s S neg V X b2 e2) : b1 = b2 ∧ e1 = e2 := by
  rcases h1 with ⟨a1, a2, a3⟩ | ⟨a1, a2⟩ | ⟨a1, a2⟩ | ⟨a1, a2⟩ | ⟨a1, a2⟩ <;> rcases h2 with ⟨c1, c2, c3⟩ | ⟨c1, c2⟩ | ⟨c1, c2⟩ | ⟨c1, c2⟩ | ⟨c1, c2⟩ <;>
  first
    | exact ⟨by omega, by omega⟩
    | exact a2.unique c2
    | (exfalso; omega)

def RdPost (s : Int) (S : ByteArray) (neg : Bool) (V : Nat) (X : Int) (B : Nat) (w : World) (e : Ending) (w' : World) : Prop :=
  ∃ (b : Nat) (err : Int), RdSpec s S neg V X b err ∧ e = .returned (.tuple #[.int .u64 b, .int .i64 err]) ∧ Below B w w'

theorem rest_eq (S : ByteArray) : Lib.trimPrefix S.data.toList [45] = restL S := by
  unfold Lib.trimPrefix restL
  rw [hasPrefix_minus]
  by_cases h : bt S 0 = 45
  · rw [if_pos h, if_pos (decide_eq_true h)]; rfl
  · rw [if_neg h, decide_eq_false h]; rfl

def IntPost (s : Int) (S : ByteArray) (B : Nat) (w : World) (e : Ending) (w' : World) : Prop :=
  ∃ (b : Nat) (err : Int), IntSpec s S b err ∧ e = .returned (.tuple #[.int .u64 b, .int .i64 err]) ∧ Below B w w'

theorem head_of {R : ByteArray} (h : 0 < R.size) : R.data.toList.head? = some R[0] := by
  rw [List.head?_eq_getElem?]
  exact List.getElem?_eq_some_iff.2 ⟨by rw [← size_list]; exact h, rfl⟩

theorem ne_size {R : ByteArray} (h : R.toList ≠ []) : 0 < R.size := by
  rw [Lib.toList_data] at h
  rw [size_list]
  exact List.length_pos_iff.2 h

theorem IntSpec.bad0 {s : Int} {S : ByteArray} (h : restL S = []) : IntSpec s S 0 30 := Or.inl ⟨fun hc => hc.1 h, rfl, rfl⟩
theorem IntSpec.bad1 {s : Int} {S : ByteArray} (h : ¬ allD (restL S)) : IntSpec s S 0 30 := Or.inl ⟨fun hc => h hc.2.1, rfl, rfl⟩
theorem IntSpec.bad2 {s : Int} {S R : ByteArray} (hR : R.data.toList = restL S) (h0 : 0 < R.size) (h1 : ((R[0]'h0).toNat : Int) = 48) (h2 : (!S.toList == [48]) = true) : IntSpec s S 0 30 := by
  refine Or.inl ⟨fun hc => ?_, rfl, rfl⟩
  have := hc.2.2 (by rw [← hR, head_of h0]; exact congrArg some (UInt8.toNat_inj.1 (by show _ = 48; omega)))
  rw [this] at h2
  exact absurd h2 (by decide)
theorem okInt.mk1 {S R : ByteArray} (hR : R.data.toList = restL S) (h0 : 0 < R.size) (hd : allD (restL S)) (h2 : (!S.toList == [48]) = false) : okInt S :=
  ⟨by rw [← hR]; intro h; rw [size_list, h] at h0; exact absurd h0 (by decide), hd, fun _ => by rw [Bool.not_eq_false', beq_iff_eq] at h2; exact h2⟩
theorem okInt.mk2 {S R : ByteArray} (hR : R.data.toList = restL S) (h0 : 0 < R.size) (hd : allD (restL S)) (h1 : ¬ ((R[0]'h0).toNat : Int) = 48) : okInt S :=
  ⟨by rw [← hR]; intro h; rw [size_list, h] at h0; exact absurd h0 (by decide), hd, fun h => by rw [← hR, head_of h0] at h; injection h with h; rw [h] at h1; exact absurd rfl h1⟩

set_option maxRecDepth 100000 in
theorem read_int2 (k : Int) (S : ByteArray) (hsz : S.size ≤ 67108864) (w : World) (B : Nat) (hB : B ≤ w.heap.size) (hE : ErrsAt w B) (h : sortK k = 2) : Calls Tryz.prog 5 #[.int .u8 k, .string S] w (IntPost 2 S B w) := by
  obtain ⟨R', hR⟩ : ∃ R : ByteArray, (⟨(Lib.trimPrefix S.data.toList (⟨#[45]⟩ : ByteArray).data.toList).toArray⟩ : ByteArray) = R := ⟨_, rfl⟩
  obtain ⟨mb, hmb⟩ : ∃ mb : Bool, Lib.hasPrefix S.data.toList (⟨#[45]⟩ : ByteArray).data.toList = mb := ⟨_, rfl⟩
  have hR2 : R'.data.toList = restL S := by rw [← hR, ← rest_eq]
  have hmb2 : mb = decide (bt S 0 = 45) := by rw [← hmb]; exact hasPrefix_minus S
  have hRs : R'.size ≤ S.size := by rw [size_list, size_list, hR2]; unfold restL; split <;> simp
  have HS := Lib.hid (sort_walk k)
  have HC := Lib.hid (fun w => Tryz.strings_CutPrefix S ⟨#[45]⟩ w)
  have HD := Lib.hid (digits_walk R' (by omega))
  have HF : Hid (allD (restL S) → R'.toList ≠ [] → ∀ w, B ≤ w.heap.size → ErrsAt w B → Calls Tryz.prog 21 #[.int .u8 k, .bool mb, .string R'] w (FitPost (fitV 2 (decide (bt S 0 = 45)) (nv (restL S))) B w)) :=
    Lib.hid (fun hd hne w hB hE => by have := fit_walk k mb R' (by rw [hR2]; exact hd) (by rw [← Lib.toList_data]; exact hne) (by omega) w B hB hE (by rw [h]; decide); rw [h, hR2, hmb2] at this; rw [hmb2]; exact this)
  rw [h] at HS
  rw [hR, hmb] at HC
  have HH : Hid (R'.data.toList = restL S ∧ mb = decide (bt S 0 = 45) ∧ (R'.toList = [] ↔ restL S = []) ∧ (run R' 0 = R'.size ↔ allD (restL S)) ∧ B ≤ w.heap.size ∧ ErrsAt w B) := ⟨hR2, hmb2, by rw [Lib.toList_data, hR2], by rw [run_all, hR2], hB, hE⟩
  obtain ⟨rn, hrn⟩ : ∃ rn, run R' 0 = rn := ⟨_, rfl⟩
  rw [hrn] at HD HH
  clear h hR hmb hR2 hmb2 hrn hB hE
  go_enter Tryz.func5, Tryz.ntmps5
  go_wp2_with fail
  refine (HS.out _).mono ?_
  rintro e w' ⟨rfl, rfl⟩
  go_wp2_with fail
  refine (HC.out _).mono ?_
  rintro e w' ⟨rfl, rfl⟩
  go_wp2_with fail
  · rename_i hne
    go_ret2
    exact ⟨0, 30, .bad0 (HH.out.2.2.1.1 hne), rfl, Below.refl _ _⟩
  refine (HD.out _).mono ?_
  rintro e w2 ⟨rfl, rfl⟩
  go_wp2_with fail
  · rename_i hne _ hrn h0 h48 hz
    go_ret2
    refine ⟨0, 30, .bad2 HH.out.1 h0 h48 ?_, rfl, Below.refl _ _⟩
    rcases hz with hz | hz
    · rw [List.isEmpty_iff] at hz; exact absurd hz hne
    · exact hz
  · have hne := ‹¬R'.toList = []›
    have hd := HH.out.2.2.2.1.1 (Int.ofNat.inj ‹(rn : Int) = (R'.size : Int)›)
    have hok := okInt.mk1 HH.out.1 ‹0 < R'.size› hd (And.right ‹R'.toList.isEmpty = false ∧ (!S.toList == [48]) = false›)
    refine (HF.out hd hne _ HH.out.2.2.2.2.1 HH.out.2.2.2.2.2).mono ?_
    rintro e w3 ⟨⟨b, hb, rfl⟩ | ⟨hb, rfl⟩, hw⟩
    · go_wp2_with fail
      go_ret2
      exact ⟨b, 0, Or.inr ⟨hok, Or.inl ⟨hb, rfl⟩⟩, rfl, hw⟩
    · go_wp2_with fail
      go_ret2
      exact ⟨0, 31, Or.inr ⟨hok, Or.inr ⟨hb, rfl, rfl⟩⟩, rfl, hw⟩
  · rename_i hne _ hrn h0 h48 hz
    rw [List.isEmpty_iff] at hz; exact absurd hz hne
  · have hne := ‹¬R'.toList = []›
    have hd := HH.out.2.2.2.1.1 (Int.ofNat.inj ‹(rn : Int) = (R'.size : Int)›)
    have hok := okInt.mk2 HH.out.1 ‹0 < R'.size› hd ‹_›
    refine (HF.out hd hne _ HH.out.2.2.2.2.1 HH.out.2.2.2.2.2).mono ?_
    rintro e w3 ⟨⟨b, hb, rfl⟩ | ⟨hb, rfl⟩, hw⟩
    · go_wp2_with fail
      go_ret2
      exact ⟨b, 0, Or.inr ⟨hok, Or.inl ⟨hb, rfl⟩⟩, rfl, hw⟩
    · go_wp2_with fail
      go_ret2
      exact ⟨0, 31, Or.inr ⟨hok, Or.inr ⟨hb, rfl, rfl⟩⟩, rfl, hw⟩
  · exact absurd (ne_size ‹¬R'.toList = []›) ‹¬0 < R'.size›
  · rename_i hrn
    go_ret2
    exact ⟨0, 30, .bad1 (fun hd => hrn (congrArg Int.ofNat (HH.out.2.2.2.1.2 hd))), rfl, Below.refl _ _⟩

set_option maxRecDepth 100000 in
theorem read_int3 (k : Int) (S : ByteArray) (hsz : S.size ≤ 67108864) (w : World) (B : Nat) (hB : B ≤ w.heap.size) (hE : ErrsAt w B) (h : sortK k = 3) : Calls Tryz.prog 5 #[.int .u8 k, .string S] w (IntPost 3 S B w) := by
  obtain ⟨R', hR⟩ : ∃ R : ByteArray, (⟨(Lib.trimPrefix S.data.toList (⟨#[45]⟩ : ByteArray).data.toList).toArray⟩ : ByteArray) = R := ⟨_, rfl⟩
  obtain ⟨mb, hmb⟩ : ∃ mb : Bool, Lib.hasPrefix S.data.toList (⟨#[45]⟩ : ByteArray).data.toList = mb := ⟨_, rfl⟩
  have hR2 : R'.data.toList = restL S := by rw [← hR, ← rest_eq]
  have hmb2 : mb = decide (bt S 0 = 45) := by rw [← hmb]; exact hasPrefix_minus S
  have hRs : R'.size ≤ S.size := by rw [size_list, size_list, hR2]; unfold restL; split <;> simp
  have HS := Lib.hid (sort_walk k)
  have HC := Lib.hid (fun w => Tryz.strings_CutPrefix S ⟨#[45]⟩ w)
  have HD := Lib.hid (digits_walk R' (by omega))
  have HF : Hid (allD (restL S) → R'.toList ≠ [] → ∀ w, B ≤ w.heap.size → ErrsAt w B → Calls Tryz.prog 21 #[.int .u8 k, .bool mb, .string R'] w (FitPost (fitV 3 (decide (bt S 0 = 45)) (nv (restL S))) B w)) :=
    Lib.hid (fun hd hne w hB hE => by have := fit_walk k mb R' (by rw [hR2]; exact hd) (by rw [← Lib.toList_data]; exact hne) (by omega) w B hB hE (by rw [h]; decide); rw [h, hR2, hmb2] at this; rw [hmb2]; exact this)
  rw [h] at HS
  rw [hR, hmb] at HC
  have HH : Hid (R'.data.toList = restL S ∧ mb = decide (bt S 0 = 45) ∧ (R'.toList = [] ↔ restL S = []) ∧ (run R' 0 = R'.size ↔ allD (restL S)) ∧ B ≤ w.heap.size ∧ ErrsAt w B) := ⟨hR2, hmb2, by rw [Lib.toList_data, hR2], by rw [run_all, hR2], hB, hE⟩
  obtain ⟨rn, hrn⟩ : ∃ rn, run R' 0 = rn := ⟨_, rfl⟩
  rw [hrn] at HD HH
  clear h hR hmb hR2 hmb2 hrn hB hE
  go_enter Tryz.func5, Tryz.ntmps5
  go_wp2_with fail
  refine (HS.out _).mono ?_
  rintro e w' ⟨rfl, rfl⟩
  go_wp2_with fail
  refine (HC.out _).mono ?_
  rintro e w' ⟨rfl, rfl⟩
  go_wp2_with fail
  · rename_i hne
    go_ret2
    exact ⟨0, 30, .bad0 (HH.out.2.2.1.1 hne), rfl, Below.refl _ _⟩
  refine (HD.out _).mono ?_
  rintro e w2 ⟨rfl, rfl⟩
  go_wp2_with fail
  · rename_i hne _ hrn h0 h48 hz
    go_ret2
    refine ⟨0, 30, .bad2 HH.out.1 h0 h48 ?_, rfl, Below.refl _ _⟩
    rcases hz with hz | hz
    · rw [List.isEmpty_iff] at hz; exact absurd hz hne
    · exact hz
  · have hne := ‹¬R'.toList = []›
    have hd := HH.out.2.2.2.1.1 (Int.ofNat.inj ‹(rn : Int) = (R'.size : Int)›)
    have hok := okInt.mk1 HH.out.1 ‹0 < R'.size› hd (And.right ‹R'.toList.isEmpty = false ∧ (!S.toList == [48]) = false›)
    refine (HF.out hd hne _ HH.out.2.2.2.2.1 HH.out.2.2.2.2.2).mono ?_
    rintro e w3 ⟨⟨b, hb, rfl⟩ | ⟨hb, rfl⟩, hw⟩
    · go_wp2_with fail
      go_ret2
      exact ⟨b, 0, Or.inr ⟨hok, Or.inl ⟨hb, rfl⟩⟩, rfl, hw⟩
    · go_wp2_with fail
      go_ret2
      exact ⟨0, 31, Or.inr ⟨hok, Or.inr ⟨hb, rfl, rfl⟩⟩, rfl, hw⟩
  · rename_i hne _ hrn h0 h48 hz
    rw [List.isEmpty_iff] at hz; exact absurd hz hne
  · have hne := ‹¬R'.toList = []›
    have hd := HH.out.2.2.2.1.1 (Int.ofNat.inj ‹(rn : Int) = (R'.size : Int)›)
    have hok := okInt.mk2 HH.out.1 ‹0 < R'.size› hd ‹_›
    refine (HF.out hd hne _ HH.out.2.2.2.2.1 HH.out.2.2.2.2.2).mono ?_
    rintro e w3 ⟨⟨b, hb, rfl⟩ | ⟨hb, rfl⟩, hw⟩
    · go_wp2_with fail
      go_ret2
      exact ⟨b, 0, Or.inr ⟨hok, Or.inl ⟨hb, rfl⟩⟩, rfl, hw⟩
    · go_wp2_with fail
      go_ret2
      exact ⟨0, 31, Or.inr ⟨hok, Or.inr ⟨hb, rfl, rfl⟩⟩, rfl, hw⟩
  · exact absurd (ne_size ‹¬R'.toList = []›) ‹¬0 < R'.size›
  · rename_i hrn
    go_ret2
    exact ⟨0, 30, .bad1 (fun hd => hrn (congrArg Int.ofNat (HH.out.2.2.2.1.2 hd))), rfl, Below.refl _ _⟩

set_option maxRecDepth 100000 in
theorem read_int4 (k : Int) (S : ByteArray) (hsz : S.size ≤ 67108864) (w : World) (B : Nat) (hB : B ≤ w.heap.size) (hE : ErrsAt w B) (h : sortK k = 4) : Calls Tryz.prog 5 #[.int .u8 k, .string S] w (IntPost 4 S B w) := by
  obtain ⟨R', hR⟩ : ∃ R : ByteArray, (⟨(Lib.trimPrefix S.data.toList (⟨#[45]⟩ : ByteArray).data.toList).toArray⟩ : ByteArray) = R := ⟨_, rfl⟩
  obtain ⟨mb, hmb⟩ : ∃ mb : Bool, Lib.hasPrefix S.data.toList (⟨#[45]⟩ : ByteArray).data.toList = mb := ⟨_, rfl⟩
  have hR2 : R'.data.toList = restL S := by rw [← hR, ← rest_eq]
  have hmb2 : mb = decide (bt S 0 = 45) := by rw [← hmb]; exact hasPrefix_minus S
  have hRs : R'.size ≤ S.size := by rw [size_list, size_list, hR2]; unfold restL; split <;> simp
  have HS := Lib.hid (sort_walk k)
  have HC := Lib.hid (fun w => Tryz.strings_CutPrefix S ⟨#[45]⟩ w)
  have HD := Lib.hid (digits_walk R' (by omega))
  have HF : Hid (allD (restL S) → R'.toList ≠ [] → ∀ w, B ≤ w.heap.size → ErrsAt w B → Calls Tryz.prog 21 #[.int .u8 k, .bool mb, .string R'] w (FitPost (fitV 4 (decide (bt S 0 = 45)) (nv (restL S))) B w)) :=
    Lib.hid (fun hd hne w hB hE => by have := fit_walk k mb R' (by rw [hR2]; exact hd) (by rw [← Lib.toList_data]; exact hne) (by omega) w B hB hE (by rw [h]; decide); rw [h, hR2, hmb2] at this; rw [hmb2]; exact this)
  rw [h] at HS
  rw [hR, hmb] at HC
  have HH : Hid (R'.data.toList = restL S ∧ mb = decide (bt S 0 = 45) ∧ (R'.toList = [] ↔ restL S = []) ∧ (run R' 0 = R'.size ↔ allD (restL S)) ∧ B ≤ w.heap.size ∧ ErrsAt w B) := ⟨hR2, hmb2, by rw [Lib.toList_data, hR2], by rw [run_all, hR2], hB, hE⟩
  obtain ⟨rn, hrn⟩ : ∃ rn, run R' 0 = rn := ⟨_, rfl⟩
  rw [hrn] at HD HH
  clear h hR hmb hR2 hmb2 hrn hB hE
  go_enter Tryz.func5, Tryz.ntmps5
  go_wp2_with fail
  refine (HS.out _).mono ?_
  rintro e w' ⟨rfl, rfl⟩
  go_wp2_with fail
  refine (HC.out _).mono ?_
  rintro e w' ⟨rfl, rfl⟩
  go_wp2_with fail
  · rename_i hne
    go_ret2
    exact ⟨0, 30, .bad0 (HH.out.2.2.1.1 hne), rfl, Below.refl _ _⟩
  refine (HD.out _).mono ?_
  rintro e w2 ⟨rfl, rfl⟩
  go_wp2_with fail
  · rename_i hne _ hrn h0 h48 hz
    go_ret2
    refine ⟨0, 30, .bad2 HH.out.1 h0 h48 ?_, rfl, Below.refl _ _⟩
    rcases hz with hz | hz
    · rw [List.isEmpty_iff] at hz; exact absurd hz hne
    · exact hz
  · have hne := ‹¬R'.toList = []›
    have hd := HH.out.2.2.2.1.1 (Int.ofNat.inj ‹(rn : Int) = (R'.size : Int)›)
    have hok := okInt.mk1 HH.out.1 ‹0 < R'.size› hd (And.right ‹R'.toList.isEmpty = false ∧ (!S.toList == [48]) = false›)
    refine (HF.out hd hne _ HH.out.2.2.2.2.1 HH.out.2.2.2.2.2).mono ?_
    rintro e w3 ⟨⟨b, hb, rfl⟩ | ⟨hb, rfl⟩, hw⟩
    · go_wp2_with fail
      go_ret2
      exact ⟨b, 0, Or.inr ⟨hok, Or.inl ⟨hb, rfl⟩⟩, rfl, hw⟩
    · go_wp2_with fail
      go_ret2
      exact ⟨0, 31, Or.inr ⟨hok, Or.inr ⟨hb, rfl, rfl⟩⟩, rfl, hw⟩
  · rename_i hne _ hrn h0 h48 hz
    rw [List.isEmpty_iff] at hz; exact absurd hz hne
  · have hne := ‹¬R'.toList = []›
    have hd := HH.out.2.2.2.1.1 (Int.ofNat.inj ‹(rn : Int) = (R'.size : Int)›)
    have hok := okInt.mk2 HH.out.1 ‹0 < R'.size› hd ‹_›
    refine (HF.out hd hne _ HH.out.2.2.2.2.1 HH.out.2.2.2.2.2).mono ?_
    rintro e w3 ⟨⟨b, hb, rfl⟩ | ⟨hb, rfl⟩, hw⟩
    · go_wp2_with fail
      go_ret2
      exact ⟨b, 0, Or.inr ⟨hok, Or.inl ⟨hb, rfl⟩⟩, rfl, hw⟩
    · go_wp2_with fail
      go_ret2
      exact ⟨0, 31, Or.inr ⟨hok, Or.inr ⟨hb, rfl, rfl⟩⟩, rfl, hw⟩
  · exact absurd (ne_size ‹¬R'.toList = []›) ‹¬0 < R'.size›
  · rename_i hrn
    go_ret2
    exact ⟨0, 30, .bad1 (fun hd => hrn (congrArg Int.ofNat (HH.out.2.2.2.1.2 hd))), rfl, Below.refl _ _⟩

set_option maxRecDepth 100000 in
theorem read_int5 (k : Int) (S : ByteArray) (hsz : S.size ≤ 67108864) (w : World) (B : Nat) (hB : B ≤ w.heap.size) (hE : ErrsAt w B) (h : sortK k = 5) : Calls Tryz.prog 5 #[.int .u8 k, .string S] w (IntPost 5 S B w) := by
  obtain ⟨R', hR⟩ : ∃ R : ByteArray, (⟨(Lib.trimPrefix S.data.toList (⟨#[45]⟩ : ByteArray).data.toList).toArray⟩ : ByteArray) = R := ⟨_, rfl⟩
  obtain ⟨mb, hmb⟩ : ∃ mb : Bool, Lib.hasPrefix S.data.toList (⟨#[45]⟩ : ByteArray).data.toList = mb := ⟨_, rfl⟩
  have hR2 : R'.data.toList = restL S := by rw [← hR, ← rest_eq]
  have hmb2 : mb = decide (bt S 0 = 45) := by rw [← hmb]; exact hasPrefix_minus S
  have hRs : R'.size ≤ S.size := by rw [size_list, size_list, hR2]; unfold restL; split <;> simp
  have HS := Lib.hid (sort_walk k)
  have HC := Lib.hid (fun w => Tryz.strings_CutPrefix S ⟨#[45]⟩ w)
  have HD := Lib.hid (digits_walk R' (by omega))
  have HF : Hid (allD (restL S) → R'.toList ≠ [] → ∀ w, B ≤ w.heap.size → ErrsAt w B → Calls Tryz.prog 21 #[.int .u8 k, .bool mb, .string R'] w (FitPost (fitV 5 (decide (bt S 0 = 45)) (nv (restL S))) B w)) :=
    Lib.hid (fun hd hne w hB hE => by have := fit_walk k mb R' (by rw [hR2]; exact hd) (by rw [← Lib.toList_data]; exact hne) (by omega) w B hB hE (by rw [h]; decide); rw [h, hR2, hmb2] at this; rw [hmb2]; exact this)
  rw [h] at HS
  rw [hR, hmb] at HC
  have HH : Hid (R'.data.toList = restL S ∧ mb = decide (bt S 0 = 45) ∧ (R'.toList = [] ↔ restL S = []) ∧ (run R' 0 = R'.size ↔ allD (restL S)) ∧ B ≤ w.heap.size ∧ ErrsAt w B) := ⟨hR2, hmb2, by rw [Lib.toList_data, hR2], by rw [run_all, hR2], hB, hE⟩
  obtain ⟨rn, hrn⟩ : ∃ rn, run R' 0 = rn := ⟨_, rfl⟩
  rw [hrn] at HD HH
  clear h hR hmb hR2 hmb2 hrn hB hE
  go_enter Tryz.func5, Tryz.ntmps5
  go_wp2_with fail
  refine (HS.out _).mono ?_
  rintro e w' ⟨rfl, rfl⟩
  go_wp2_with fail
  refine (HC.out _).mono ?_
  rintro e w' ⟨rfl, rfl⟩
  go_wp2_with fail
  · rename_i hne
    go_ret2
    exact ⟨0, 30, .bad0 (HH.out.2.2.1.1 hne), rfl, Below.refl _ _⟩
  refine (HD.out _).mono ?_
  rintro e w2 ⟨rfl, rfl⟩
  go_wp2_with fail
  · rename_i hne _ hrn h0 h48 hz
    go_ret2
    refine ⟨0, 30, .bad2 HH.out.1 h0 h48 ?_, rfl, Below.refl _ _⟩
    rcases hz with hz | hz
    · rw [List.isEmpty_iff] at hz; exact absurd hz hne
    · exact hz
  · have hne := ‹¬R'.toList = []›
    have hd := HH.out.2.2.2.1.1 (Int.ofNat.inj ‹(rn : Int) = (R'.size : Int)›)
    have hok := okInt.mk1 HH.out.1 ‹0 < R'.size› hd (And.right ‹R'.toList.isEmpty = false ∧ (!S.toList == [48]) = false›)
    refine (HF.out hd hne _ HH.out.2.2.2.2.1 HH.out.2.2.2.2.2).mono ?_
    rintro e w3 ⟨⟨b, hb, rfl⟩ | ⟨hb, rfl⟩, hw⟩
    · go_wp2_with fail
      go_ret2
      exact ⟨b, 0, Or.inr ⟨hok, Or.inl ⟨hb, rfl⟩⟩, rfl, hw⟩
    · go_wp2_with fail
      go_ret2
      exact ⟨0, 31, Or.inr ⟨hok, Or.inr ⟨hb, rfl, rfl⟩⟩, rfl, hw⟩
  · rename_i hne _ hrn h0 h48 hz
    rw [List.isEmpty_iff] at hz; exact absurd hz hne
  · have hne := ‹¬R'.toList = []›
    have hd := HH.out.2.2.2.1.1 (Int.ofNat.inj ‹(rn : Int) = (R'.size : Int)›)
    have hok := okInt.mk2 HH.out.1 ‹0 < R'.size› hd ‹_›
    refine (HF.out hd hne _ HH.out.2.2.2.2.1 HH.out.2.2.2.2.2).mono ?_
    rintro e w3 ⟨⟨b, hb, rfl⟩ | ⟨hb, rfl⟩, hw⟩
    · go_wp2_with fail
      go_ret2
      exact ⟨b, 0, Or.inr ⟨hok, Or.inl ⟨hb, rfl⟩⟩, rfl, hw⟩
    · go_wp2_with fail
      go_ret2
      exact ⟨0, 31, Or.inr ⟨hok, Or.inr ⟨hb, rfl, rfl⟩⟩, rfl, hw⟩
  · exact absurd (ne_size ‹¬R'.toList = []›) ‹¬0 < R'.size›
  · rename_i hrn
    go_ret2
    exact ⟨0, 30, .bad1 (fun hd => hrn (congrArg Int.ofNat (HH.out.2.2.2.1.2 hd))), rfl, Below.refl _ _⟩
end Go.Proofs.YtnpinogjajhlhaaGreatDoor.Fl
end
section
/- nums.Read of every kind, walked. -/
namespace Go.Proofs.YtnpinogjajhlhaaGreatDoor.Fl
open Go.RowKit

set_option maxRecDepth 100000 in
theorem read_none (k : Int) (S : ByteArray) (w : World) (B : Nat) (h : sortK k = 0) : Calls Tryz.prog 5 #[.int .u8 k, .string S] w (fun e w' => e = .returned (.tuple #[.int .u64 (0 : Nat), .int .i64 30]) ∧ Below B w w') := by
  have HS := Lib.hid (sort_walk k)
  rw [h] at HS
  clear h
  go_enter Tryz.func5, Tryz.ntmps5
  go_wp2_with fail
  refine (HS.out _).mono ?_
  rintro e w' ⟨rfl, rfl⟩
  go_wp2_with fail
  go_ret2
  exact ⟨rfl, Below.refl _ _⟩

def BoolPost (S : ByteArray) (B : Nat) (w : World) (e : Ending) (w' : World) : Prop :=
  ∃ (b : Nat) (err : Int), BoolSpec S b err ∧ e = .returned (.tuple #[.int .u64 b, .int .i64 err]) ∧ Below B w w'

set_option maxRecDepth 100000 in
theorem read_bool (k : Int) (S : ByteArray) (w : World) (B : Nat) (h : sortK k = 1) : Calls Tryz.prog 5 #[.int .u8 k, .string S] w (BoolPost S B w) := by
  have HS := Lib.hid (sort_walk k)
  rw [h] at HS
  clear h
  obtain ⟨b1, hb1⟩ : ∃ b1 : Bool, (S.toList == [116, 114, 117, 101]) = b1 := ⟨_, rfl⟩
  obtain ⟨b2, hb2⟩ : ∃ b2 : Bool, (S.toList == [102, 97, 108, 115, 101]) = b2 := ⟨_, rfl⟩
  have H1 := Lib.hid hb1
  have H2 := Lib.hid hb2
  cases b1 with
  | true =>
    have h1 : S.toList = TrueL := by rw [beq_iff_eq] at hb1; exact hb1
    have HB := Lib.hid h1
    clear h1
    go_enter Tryz.func5, Tryz.ntmps5
    go_wp2_with fail
    refine (HS.out _).mono ?_
    rintro e w' ⟨rfl, rfl⟩
    go_wp2_with fail
    go_ret2
    exact ⟨1, 0, Or.inl ⟨HB.out, rfl, rfl⟩, rfl, Below.refl _ _⟩
  | false =>
    have h1 : S.toList ≠ TrueL := by rw [beq_eq_false_iff_ne] at hb1; exact hb1
    have HB := Lib.hid h1
    clear h1
    cases b2 with
    | true =>
      have h2 : S.toList = FalseL := by rw [beq_iff_eq] at hb2; exact hb2
      have HB2 := Lib.hid h2
      clear h2
      go_enter Tryz.func5, Tryz.ntmps5
      go_wp2_with fail
      refine (HS.out _).mono ?_
      rintro e w' ⟨rfl, rfl⟩
      go_wp2_with fail
      go_ret2
      exact ⟨0, 0, Or.inr (Or.inl ⟨HB.out, HB2.out, rfl, rfl⟩), rfl, Below.refl _ _⟩
    | false =>
      have h2 : S.toList ≠ FalseL := by rw [beq_eq_false_iff_ne] at hb2; exact hb2
      have HB2 := Lib.hid h2
      clear h2
      go_enter Tryz.func5, Tryz.ntmps5
      go_wp2_with fail
      refine (HS.out _).mono ?_
      rintro e w' ⟨rfl, rfl⟩
      go_wp2_with fail
      go_ret2
      exact ⟨0, 30, Or.inr (Or.inr ⟨HB.out, HB2.out, rfl, rfl⟩), rfl, Below.refl _ _⟩

set_option maxRecDepth 100000 in
theorem read_f32 (k : Int) (S : ByteArray) (w : World) (f : Ieee.Format) (Lo nan : Nat) (neg : Bool) (V : Nat) (X : Int) (B : Nat) (h : sortK k = 6)
    (HR : Hid (Calls Tryz.prog 18 #[.string S, .int .i64 32] w (RfPost f Lo nan S neg V X B w))) :
    Calls Tryz.prog 5 #[.int .u8 k, .string S] w (RfPost f Lo nan S neg V X B w) := by
  have HS := Lib.hid (sort_walk k)
  rw [h] at HS
  clear h
  go_enter Tryz.func5, Tryz.ntmps5
  go_wp2_with fail
  refine (HS.out _).mono ?_
  rintro e w' ⟨rfl, rfl⟩
  go_wp2_with fail
  refine HR.out.mono ?_
  rintro e w' ⟨b, err, hs, rfl, hw⟩
  go_wp2_with fail
  go_ret2
  exact ⟨b, err, hs, rfl, hw⟩

set_option maxRecDepth 100000 in
theorem read_f64 (k : Int) (S : ByteArray) (w : World) (f : Ieee.Format) (Lo nan : Nat) (neg : Bool) (V : Nat) (X : Int) (B : Nat) (h : sortK k = 7)
    (HR : Hid (Calls Tryz.prog 18 #[.string S, .int .i64 64] w (RfPost f Lo nan S neg V X B w))) :
    Calls Tryz.prog 5 #[.int .u8 k, .string S] w (RfPost f Lo nan S neg V X B w) := by
  have HS := Lib.hid (sort_walk k)
  rw [h] at HS
  clear h
  go_enter Tryz.func5, Tryz.ntmps5
  go_wp2_with fail
  refine (HS.out _).mono ?_
  rintro e w' ⟨rfl, rfl⟩
  go_wp2_with fail
  refine HR.out.mono ?_
  rintro e w' ⟨b, err, hs, rfl, hw⟩
  go_wp2_with fail
  go_ret2
  exact ⟨b, err, hs, rfl, hw⟩

theorem nread_walk (k : Int) (S : ByteArray) (hsz : S.size ≤ 67108864) {neg : Bool} {ds : List UInt8} {pt : Bool} {fs : List UInt8} {hx : Bool} {c : UInt8} {sg es : List UInt8} (hN : S.toList ≠ [] → numLen S = S.size → NumL S.data.toList neg ds pt fs hx c sg es)
    (w : World) (B : Nat) (hB : B ≤ w.heap.size) (hF : FlAt w B) : Calls Tryz.prog 5 #[.int .u8 k, .string S] w (RdPost (sortK k) S neg (valV ds fs) (valX fs hx sg es) B w) := by
  have hs : sortK k = 0 ∨ sortK k = 1 ∨ sortK k = 6 ∨ sortK k = 7 ∨ sortK k = 2 ∨ sortK k = 3 ∨ sortK k = 4 ∨ sortK k = 5 := by
    unfold sortK
    repeat' split
    all_goals simp
  have hE : ErrsAt w B := hF.lib.errs
  rcases hs with h | h | h | h | h | h | h | h <;> rw [h]
  · refine (read_none k S w B h).mono ?_
    rintro e w' ⟨rfl, hw⟩
    exact ⟨0, 30, Or.inl ⟨rfl, rfl, rfl⟩, rfl, hw⟩
  · refine (read_bool k S w B h).mono ?_
    rintro e w' ⟨b, err, hs, rfl, hw⟩
    exact ⟨b, err, Or.inr (Or.inl ⟨rfl, hs⟩), rfl, hw⟩
  · refine (read_f32 k S w _ _ _ _ _ _ B h (Lib.hid (rf32_walk S hN hsz w B hB hF))).mono ?_
    rintro e w' ⟨b, err, hs, rfl, hw⟩
    exact ⟨b, err, Or.inr (Or.inr (Or.inl ⟨rfl, hs⟩)), rfl, hw⟩
  · refine (read_f64 k S w _ _ _ _ _ _ B h (Lib.hid (rf64_walk S hN hsz w B hB hF))).mono ?_
    rintro e w' ⟨b, err, hs, rfl, hw⟩
    exact ⟨b, err, Or.inr (Or.inr (Or.inr (Or.inl ⟨rfl, hs⟩))), rfl, hw⟩
  · refine (read_int2 k S hsz w B hB hE h).mono ?_
    rintro e w' ⟨b, err, hs, rfl, hw⟩
    exact ⟨b, err, Or.inr (Or.inr (Or.inr (Or.inr ⟨Or.inl rfl, hs⟩))), rfl, hw⟩
  · refine (read_int3 k S hsz w B hB hE h).mono ?_
    rintro e w' ⟨b, err, hs, rfl, hw⟩
    exact ⟨b, err, Or.inr (Or.inr (Or.inr (Or.inr ⟨Or.inr (Or.inl rfl), hs⟩))), rfl, hw⟩
  · refine (read_int4 k S hsz w B hB hE h).mono ?_
    rintro e w' ⟨b, err, hs, rfl, hw⟩
    exact ⟨b, err, Or.inr (Or.inr (Or.inr (Or.inr ⟨Or.inr (Or.inr (Or.inl rfl)), hs⟩))), rfl, hw⟩
  · refine (read_int5 k S hsz w B hB hE h).mono ?_
    rintro e w' ⟨b, err, hs, rfl, hw⟩
    exact ⟨b, err, Or.inr (Or.inr (Or.inr (Or.inr ⟨Or.inr (Or.inr (Or.inr rfl)), hs⟩))), rfl, hw⟩
end Go.Proofs.YtnpinogjajhlhaaGreatDoor.Fl
end
