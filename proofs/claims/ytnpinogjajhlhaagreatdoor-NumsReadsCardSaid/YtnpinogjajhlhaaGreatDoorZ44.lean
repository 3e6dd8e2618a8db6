/- A part of the proof that lexiconlaw03.NumsReads answers true at every kind and every text: RfTell. No condition. -/
import Derived.Test.YtnpinogjajhlhaaGreatDoorZ43
import Derived.Test.YtnpinogjajhlhaaGreatDoorZ29
import Derived.Test.YtnpinogjajhlhaaGreatDoorZ40
import Derived.Test.YtnpinogjajhlhaaGreatDoorZ38
section
/- The reference's tell, walked: a NUMBER taken apart. -/
namespace Go.Proofs.YtnpinogjajhlhaaGreatDoor.Fl
open Go.RowKit

/-- A NUMBER taken apart, in block b. -/
structure ToldAt (w : World) (b : Nat) (m : Bool) (D : ByteArray) (x : Int) : Prop where
  c0 : w.cell? ⟨b, 0, none⟩ = some (.bool m)
  c1 : w.cell? ⟨b, 1, none⟩ = some (.string D)
  c2 : w.cell? ⟨b, 2, none⟩ = some (.int .i64 x)
  fr : ∀ j, w.frozen? ⟨b, j, none⟩ = false

theorem ToldAt.set0 {w : World} {b : Nat} {m : Bool} {D : ByteArray} {x : Int} (h : ToldAt w b m D x) (m' : Bool) : ToldAt (w.setCell ⟨b, 0, none⟩ (.bool m')) b m' D x :=
  ⟨World.cell?_setCell_same _ _ _ h.c0, cell_other h.c1 (by omega), cell_other h.c2 (by omega), fun j => by rw [World.frozen?_setCell]; exact h.fr j⟩
theorem ToldAt.set1 {w : World} {b : Nat} {m : Bool} {D : ByteArray} {x : Int} (h : ToldAt w b m D x) (D' : ByteArray) : ToldAt (w.setCell ⟨b, 1, none⟩ (.string D')) b m D' x :=
  ⟨cell_other h.c0 (by omega), World.cell?_setCell_same _ _ _ h.c1, cell_other h.c2 (by omega), fun j => by rw [World.frozen?_setCell]; exact h.fr j⟩
theorem ToldAt.set2 {w : World} {b : Nat} {m : Bool} {D : ByteArray} {x : Int} (h : ToldAt w b m D x) (x' : Int) : ToldAt (w.setCell ⟨b, 2, none⟩ (.int .i64 x')) b m D x' :=
  ⟨cell_other h.c0 (by omega), cell_other h.c1 (by omega), World.cell?_setCell_same _ _ _ h.c2, fun j => by rw [World.frozen?_setCell]; exact h.fr j⟩
theorem cell_far {w : World} {b b' i j : Nat} {u v : Value} (h : w.cell? ⟨b, j, none⟩ = some u) (hne : b' ≠ b) : (w.setCell ⟨b', i, none⟩ v).cell? ⟨b, j, none⟩ = some u := by
  rw [World.cell?_setCell_other _ _ _ _ (by intro h; injection h with h _; exact hne h)]; exact h
theorem ToldAt.far {w : World} {b b' i : Nat} {m : Bool} {D : ByteArray} {x : Int} (h : ToldAt w b m D x) (hne : b' ≠ b) (v : Value) : ToldAt (w.setCell ⟨b', i, none⟩ v) b m D x :=
  ⟨cell_far h.c0 hne, cell_far h.c1 hne, cell_far h.c2 hne, fun j => by rw [World.frozen?_setCell]; exact h.fr j⟩

theorem told_new (w : World) (m : Bool) (D : ByteArray) (x : Int) : ToldAt (w.alloc (Obj.cells #[.bool m, .string D, .int .i64 x] 52)) w.heap.size m D x :=
  ⟨World.cell?_alloc_at _ _ _ _ rfl, World.cell?_alloc_at _ _ _ _ rfl, World.cell?_alloc_at _ _ _ _ rfl, fun _ => World.frozen?_alloc_at _ _ _ _ rfl⟩

theorem ToldAt.alloc {w : World} {b : Nat} {m : Bool} {D : ByteArray} {x : Int} (h : ToldAt w b m D x) (o : Obj) : ToldAt (w.alloc o) b m D x := by
  have hl : b < w.heap.size := World.block_lt_of_cell? w ⟨b, 0, none⟩ h.c0
  exact ⟨by rw [World.cell?_alloc_past _ _ _ hl]; exact h.c0, by rw [World.cell?_alloc_past _ _ _ hl]; exact h.c1, by rw [World.cell?_alloc_past _ _ _ hl]; exact h.c2, fun j => by rw [World.frozen?_alloc_past _ _ _ hl]; exact h.fr j⟩

theorem run_list {R : ByteArray} {A B C : List UInt8} (h : R.data.toList = A ++ (B ++ C)) (hB : allD B) (hC : ∀ x r, C = x :: r → ¬ (48 ≤ x.toNat ∧ x.toNat ≤ 57)) : run R A.length = A.length + B.length := by
  refine run_unique ?_ _ (by omega) fun k h1 h2 => ?_
  · cases hc : C with
    | nil =>
      unfold dgt
      rw [bt_out (by rw [size_list, h, hc]; simp)]; omega
    | cons x r =>
      have hx : R.data.toList[A.length + B.length]? = some x := by
        rw [h, hc, List.getElem?_append_right (by omega), show A.length + B.length - A.length = B.length by omega, List.getElem?_append_right (Nat.le_refl _), Nat.sub_self]; rfl
      unfold dgt
      rw [at_list hx]
      exact hC x r hc
  · have hx : R.data.toList[k]? = some B[k - A.length] := by
      rw [h, List.getElem?_append_right h1, List.getElem?_append_left (by omega)]
      exact List.getElem?_eq_getElem (by omega)
    unfold dgt
    rw [at_list hx]
    exact hB _ (List.getElem_mem _)

def TxP (hx : Bool) (sg es : List UInt8) (tx : Int) : Prop :=
  (-2000000000000 ≤ tx ∧ tx ≤ 2000000000000) ∧ (tx = (if hx = true then ev sg es else 0) ∨ (hx = true ∧ 100000000000 ≤ tx ∧ 100000000000 ≤ ev sg es) ∨ (hx = true ∧ tx ≤ -100000000000 ∧ ev sg es ≤ -100000000000))

theorem sg_bytes {sg es : List UInt8} (hs : SignL sg) (hd : allD es) (h1 : es ≠ []) : ∃ x r, sg ++ es = x :: r ∧ ((x.toNat : Int) == 45) = decide (sg = [45]) ∧ ((x.toNat : Int) == 43) = decide (sg = [43]) := by
  rcases hs with rfl | rfl | rfl
  · cases es with
    | nil => exact absurd rfl h1
    | cons x r =>
      have := hd x (List.mem_cons_self ..)
      refine ⟨x, r, rfl, ?_, ?_⟩
      · rw [decide_eq_false (by simp), beq_eq_false_iff_ne]; omega
      · rw [decide_eq_false (by simp), beq_eq_false_iff_ne]; omega
  · exact ⟨43, es, rfl, by decide, by decide⟩
  · exact ⟨45, es, rfl, by decide, by decide⟩

theorem tx_of {sg es : List UInt8} {n : Nat} {mn : Bool} (hm : decide (sg = [45]) = mn) (hn : n = nv es ∨ (100000000000 ≤ n ∧ 100000000000 ≤ nv es)) (hb : n < 2000000000000) : TxP true sg es (if mn = true then -(n : Int) else n) := by
  unfold TxP ev
  cases mn with
  | true =>
    have := of_decide_eq_true hm
    rw [if_pos rfl, if_pos rfl, if_pos this]
    refine ⟨⟨by omega, by omega⟩, ?_⟩
    rcases hn with h | ⟨h1, h2⟩
    · left; omega
    · right; right; exact ⟨rfl, by omega, by omega⟩
  | false =>
    have := of_decide_eq_false hm
    rw [if_neg Bool.false_ne_true, if_pos rfl, if_neg this]
    refine ⟨⟨by omega, by omega⟩, ?_⟩
    rcases hn with h | ⟨h1, h2⟩
    · left; omega
    · right; left; exact ⟨rfl, by omega, by omega⟩

theorem tl_cons (r : List UInt8) : Lib.trimLeftB (48 :: r) 48 = Lib.trimLeftB r 48 := by unfold Lib.trimLeftB; rw [List.dropWhile_cons]; rfl
theorem tl_other {x : UInt8} (h : x ≠ 48) (r : List UInt8) : Lib.trimLeftB (x :: r) 48 = x :: r := by
  unfold Lib.trimLeftB; rw [List.dropWhile_cons, if_neg (by simpa using h)]
theorem tr_snoc (q : List UInt8) : Lib.trimRightB (q ++ [48]) 48 = Lib.trimRightB q 48 := by
  unfold Lib.trimRightB; rw [List.reverse_append]; show (List.dropWhile _ (48 :: q.reverse)).reverse = _; rw [List.dropWhile_cons]; rfl
theorem tr_other {x : UInt8} (h : x ≠ 48) (q : List UInt8) : Lib.trimRightB (q ++ [x]) 48 = q ++ [x] := by
  unfold Lib.trimRightB; rw [List.reverse_append]; show (List.dropWhile _ (x :: q.reverse)).reverse = _; rw [List.dropWhile_cons, if_neg (by simpa using h), List.reverse_cons, List.reverse_reverse]

theorem list_head {D : ByteArray} (h : 0 < D.size) : ∃ x, D.data.toList = x :: D.data.toList.drop 1 ∧ x.toNat = bt D 0 := by
  obtain ⟨x, h1, h2⟩ := list_at h
  cases hl : D.data.toList with
  | nil => rw [hl] at h1; cases h1
  | cons y r => rw [hl] at h1; injection h1 with h1; subst h1; exact ⟨y, rfl, h2⟩

theorem list_last {D : ByteArray} {k : Nat} (h : D.size = k + 1) : ∃ x, D.data.toList = D.data.toList.take k ++ [x] ∧ x.toNat = bt D k := by
  obtain ⟨x, h1, h2⟩ := list_at (S := D) (k := k) (by omega)
  refine ⟨x, ?_, h2⟩
  have hl : D.data.toList.length = k + 1 := by rw [← size_list]; exact h
  have e : D.data.toList = D.data.toList.take (k + 1) := by rw [List.take_of_length_le (by omega)]
  conv => lhs; rw [e]
  rw [List.take_add_one, h1]; rfl

theorem told_load {W : World} {b : Nat} {m : Bool} {D : ByteArray} {x : Int} (h : ToldAt W b m D x) : Sem.run Tryz.prog (loadCells ⟨b, 0, none⟩ 3) W = .ok #[.bool m, .string D, .int .i64 x] W :=
  run_loadCells_list (P := Tryz.prog) W ⟨b, 0, none⟩ [.bool m, .string D, .int .i64 x] (fun k v hk => by
    rw [Addr.add_lit, Nat.zero_add]
    match k, hk with
    | 0, hk => injection hk with hk; rw [← hk]; exact h.c0
    | 1, hk => injection hk with hk; rw [← hk]; exact h.c1
    | 2, hk => injection hk with hk; rw [← hk]; exact h.c2
    | k + 3, hk => exact absurd hk (by simp))

def TellPost (P : List UInt8 → Int → Prop) (neg : Bool) (B : Nat) (w : World) (e : Ending) (w' : World) : Prop :=
  ∃ (D : ByteArray) (X : Int), e = .returned (.agg #[.bool neg, .string D, .int .i64 X]) ∧ P D.data.toList X ∧ Below B w w'

/-- What the digits and the power of ten come to. -/
def ToldP (ds fs : List UInt8) (hx : Bool) (sg es : List UInt8) (D : List UInt8) (X : Int) : Prop :=
  D = Lib.trimRightB (Lib.trimLeftB (ds ++ fs) 48) 48 ∧ -4000000000000 ≤ X ∧ X ≤ 4000000000000 ∧ (D = [] → X = 0) ∧
    (D ≠ [] → ∃ tx : Int, X = tx - fs.length + ((Lib.trimLeftB (ds ++ fs) 48).length - D.length) ∧
      (tx = (if hx = true then ev sg es else 0) ∨ (hx = true ∧ 100000000000 ≤ tx ∧ 100000000000 ≤ ev sg es) ∨ (hx = true ∧ tx ≤ -100000000000 ∧ ev sg es ≤ -100000000000)))

set_option maxHeartbeats 1000000 in
set_option maxRecDepth 100000 in
theorem tell_walk (S : ByteArray) {neg : Bool} {ds : List UInt8} {pt : Bool} {fs : List UInt8} {hx : Bool} {c : UInt8} {sg es : List UInt8} (hN : NumL S.data.toList neg ds pt fs hx c sg es) (hb : S.size ≤ 67108864) (w : World) :
    Calls Tryz.prog 34 #[.string S] w (TellPost (ToldP ds fs hx sg es) neg w.heap.size w) := by
  obtain ⟨d0, r0, hd0, hd1, hd2⟩ := hN.first
  have hlS : S.size = S.data.toList.length := size_list S
  have hpos : 0 < S.size := by
    rw [hlS, hN.eq, hd0]; simp only [List.length_append, List.length_cons]; omega
  have hq : ((S[0].toNat : Int) == 45) = neg := by
    rw [bt_int hpos]
    cases neg with
    | true => rw [at_list (x := 45) (by rw [hN.eq]; rfl)]; rfl
    | false =>
      rw [at_list (x := d0) (by rw [hN.eq, hd0]; rfl), beq_eq_false_iff_ne]; omega
  obtain ⟨BR, hBR⟩ : ∃ BR, w.heap.size = BR := ⟨_, rfl⟩
  have hw0 := told_new w false ⟨#[]⟩ 0
  have HW0 : Hid (ToldAt ((w.alloc (Obj.cells #[.bool false, .string ⟨#[]⟩, .int .i64 0] 52)).alloc (Obj.cells #[.bool false, .string ⟨#[]⟩, .int .i64 0] 52)) BR false ⟨#[]⟩ 0 ∧ ToldAt ((w.alloc (Obj.cells #[.bool false, .string ⟨#[]⟩, .int .i64 0] 52)).alloc (Obj.cells #[.bool false, .string ⟨#[]⟩, .int .i64 0] 52)) (BR + 1) false ⟨#[]⟩ 0) := by
    rw [← hBR]
    refine ⟨hw0.alloc _, ?_⟩
    have := told_new (w.alloc (Obj.cells #[.bool false, .string ⟨#[]⟩, .int .i64 0] 52)) false ⟨#[]⟩ 0
    rw [World.size_alloc] at this
    exact this
  have HB0 : Hid (Below BR w ((w.alloc (Obj.cells #[.bool false, .string ⟨#[]⟩, .int .i64 0] 52)).alloc (Obj.cells #[.bool false, .string ⟨#[]⟩, .int .i64 0] 52))) := by
    rw [← hBR]
    exact ((Below.refl _ _).alloc (Nat.le_refl _) _).alloc (by simp) _
  have HN := Lib.hid hN
  have HBR := Lib.hid hBR
  have HD0 := Lib.hid (And.intro hd0 (And.intro hd1 hd2))
  clear hN hd0 hd1 hd2 hlS hw0
  go_enter Tryz.func34, Tryz.ntmps34
  go_upto_if 14 with (fail)
  generalize (w.alloc (Obj.cells #[.bool false, .string ⟨#[]⟩, .int .i64 0] 52)).alloc (Obj.cells #[.bool false, .string ⟨#[]⟩, .int .i64 0] 52) = w2 at *
  go_cut [0] (fun sv wd => (∃ R : ByteArray, sv = .string R ∧ Aside (R.data.toList = bodyL ds pt fs hx c sg es)) ∧ Aside (ToldAt wd BR false ⟨#[]⟩ 0 ∧ ToldAt wd (BR + 1) neg ⟨#[]⟩ 0 ∧ Below BR w wd))
  case first =>
    cases hn : neg with
    | true =>
      have HE := Lib.hid hn
      have hf := HW0.out.2.fr 0
      have hc0 := HW0.out.2.c0
      clear hn
      go_wp2_with fail
      go_meet
      refine ⟨⟨_, rfl, ?_⟩, HW0.out.1.far (by omega) _, by rw [HE.out]; exact HW0.out.2.set0 true, HB0.out.setCell (Nat.le_succ _) _⟩
      rw [ext_list, HN.out.eq, HE.out]
      simp only [if_true, List.cons_append, List.nil_append, List.drop_succ_cons, List.drop_zero]
      exact List.take_of_length_le (by have := congrArg List.length HN.out.eq; rw [HE.out] at this; simp only [if_true, List.cons_append, List.nil_append, List.length_cons] at this; rw [← size_list] at this; omega)
    | false =>
      have HE := Lib.hid hn
      clear hn
      go_wp2_with fail
      go_meet
      refine ⟨⟨_, rfl, ?_⟩, HW0.out.1, by rw [HE.out]; exact HW0.out.2, HB0.out⟩
      rw [HN.out.eq, HE.out]; rfl
  case rest =>
    obtain ⟨⟨R, rfl, hR⟩, hA⟩ := hcut
    obtain ⟨n1, hn1⟩ : ∃ n1, ds.length = n1 := ⟨_, rfl⟩
    have hRs : R.size = n1 + ((if pt = true then 46 :: fs else []).length + (if hx = true then c :: (sg ++ es) else []).length) := by
      rw [size_list, hR.out]; unfold bodyL; rw [List.length_append, List.length_append, hn1]
    have hRb : R.size ≤ 67108864 := by
      have := congrArg List.length HN.out.eq
      rw [List.length_append, ← size_list] at this
      have h2 := congrArg List.length hR.out
      rw [← size_list] at h2
      unfold bodyL at h2; omega
    have hrun : run R 0 = n1 := by
      have := run_list (A := []) (B := ds) (C := (if pt = true then 46 :: fs else []) ++ (if hx = true then c :: (sg ++ es) else [])) (by rw [hR.out]; rfl) HN.out.dsd (fun x r h => by
        cases hp : pt with
        | true => rw [hp] at h; simp only [if_true, List.cons_append] at h; injection h with h _; rw [← h]; decide
        | false =>
          rw [hp] at h
          simp only [Bool.false_eq_true, if_false, List.nil_append] at h
          cases hh : hx with
          | true => rw [hh] at h; simp only [if_true] at h; injection h with h _; rw [← h]; rcases HN.out.cc with e | e <;> rw [e] <;> decide
          | false => rw [hh] at h; simp at h)
      rw [List.length_nil, Nat.zero_add] at this
      rw [this, hn1]
    have HR := Lib.hid (And.intro hRs (And.intro hrun hn1))
    have hrw := rrun_walk R 0 (by omega) (Nat.zero_le _) wc
    rw [hrun] at hrw
    have HRW := Lib.hid hrw
    have hn1R : n1 ≤ R.size := by omega
    clear hRs hrun hn1 hrw
    go_wp2_with fail
    refine HRW.out.mono ?_
    rintro e w' ⟨rfl, rfl⟩
    have HLT : Hid ((pt = true ∨ hx = true → n1 < R.size) ∧ (pt = false → hx = false → R.size = n1)) := by
      refine Lib.hid ⟨fun h => ?_, fun h1 h2 => ?_⟩
      · rw [HR.out.1]
        rcases h with h | h
        · rw [if_pos h]; simp only [List.length_cons]; omega
        · rw [h]; simp only [if_true, List.length_cons]; omega
      · rw [HR.out.1, h1, h2]; simp
    have HBT : Hid (∀ h : n1 < R.size, (((R[n1]'h).toNat : Int) == 46) = pt) := by
      refine Lib.hid fun h => ?_
      rw [bt_int h]
      cases hp : pt with
      | true =>
        have hx1 : R.data.toList[n1]? = some 46 := by
          rw [hR.out]; unfold bodyL; rw [List.getElem?_append_right (by rw [HR.out.2.2]; exact Nat.le_refl _), HR.out.2.2, Nat.sub_self, hp]; rfl
        rw [at_list hx1]; rfl
      | false =>
        cases hh : hx with
        | false => exact absurd h (by rw [HLT.out.2 hp hh]; omega)
        | true =>
          have hx1 : R.data.toList[n1]? = some c := by
            rw [hR.out]; unfold bodyL; rw [List.getElem?_append_right (by rw [HR.out.2.2]; exact Nat.le_refl _), HR.out.2.2, Nat.sub_self, hp, hh]; rfl
          rw [at_list hx1, beq_eq_false_iff_ne]
          rcases HN.out.cc with e | e <;> rw [e] <;> decide
    go_upto_region 8 with (fail)
    have HD1 : Hid ((R.extract 0 n1).data.toList = ds) := by
      refine Lib.hid ?_
      rw [ext_list, hR.out]; unfold bodyL; rw [← HR.out.2.2]; simp
    go_cut [5, 32] (fun dv bv wd => (∃ D1 : ByteArray, dv = .string D1 ∧ Aside (D1.data.toList = ds)) ∧ bv = .bool pt ∧ wd = w')
    case first =>
      by_cases hlt : n1 < R.size
      · have hb := HBT.out hlt
        go_wp2_with fail
        go_meet
        exact ⟨⟨_, rfl, HD1.out⟩, rfl, rfl⟩
      · have hp : pt = false := by
          cases hp : pt with
          | true => exact absurd (HLT.out.1 (Or.inl hp)) hlt
          | false => rfl
        have HP := Lib.hid hp
        clear hp
        go_wp2_with fail
        go_meet
        exact ⟨⟨_, rfl, HD1.out⟩, by rw [HP.out], rfl⟩
    case rest =>
      obtain ⟨⟨D1, rfl, hD1⟩, rfl, rfl⟩ := hcut
      have hD1s : D1.size = n1 := by rw [size_list, hD1.out]; exact HR.out.2.2
      have HD1s := Lib.hid hD1s
      clear hD1s
      go_upto_if 32 with (fail)
      go_cut [4, 5, 6] (fun ev dv xv wd => (∃ (n2 : Nat) (D : ByteArray), ev = .int .i64 n2 ∧ dv = .string D ∧ xv = .int .i64 (-(fs.length : Int)) ∧ Aside (D.data.toList = ds ++ fs ∧ n2 + (if hx = true then c :: (sg ++ es) else []).length = R.size ∧ R.data.toList.drop n2 = (if hx = true then c :: (sg ++ es) else []))) ∧ wd = wc)
      case first =>
        cases hp : pt with
        | true =>
          have HP := Lib.hid hp
          have hlt := HLT.out.1 (Or.inl hp)
          clear hp
          have hRl : R.data.toList = (ds ++ [46]) ++ (fs ++ (if hx = true then c :: (sg ++ es) else [])) := by
            rw [hR.out]; unfold bodyL; rw [HP.out]; simp
          have hfl : n1 + (1 + (fs.length + (if hx = true then c :: (sg ++ es) else []).length)) = R.size := by
            rw [HR.out.1, HP.out]; simp only [if_true, List.length_cons]; omega
          have hrun2 : run R (n1 + 1) = n1 + 1 + fs.length := by
            have := run_list hRl HN.out.fsd (fun x r h => by
              cases hh : hx with
              | true => rw [hh] at h; simp only [if_true] at h; injection h with h _; rw [← h]; rcases HN.out.cc with e | e <;> rw [e] <;> decide
              | false => rw [hh] at h; simp at h)
            rw [List.length_append, HR.out.2.2] at this
            exact this
          obtain ⟨m, hm⟩ : ∃ m, fs.length = m := ⟨_, rfl⟩
          rw [hm] at hrun2 hfl
          have hrw := rrun_walk R (n1 + 1) (by omega) (by omega) wc
          rw [hrun2] at hrw
          have HRW2 := Lib.hid hrw
          obtain ⟨F, hF⟩ : ∃ F, R.extract (n1 + 1) (n1 + 1 + m) = F := ⟨_, rfl⟩
          have hFl : F.data.toList = fs := by
            rw [← hF, ext_list, hRl, List.append_assoc]
            have : ds ++ ([46] ++ (fs ++ (if hx = true then c :: (sg ++ es) else []))) = (ds ++ [46]) ++ (fs ++ (if hx = true then c :: (sg ++ es) else [])) := by simp
            rw [this]
            have h1 : n1 + 1 = (ds ++ [46]).length := by rw [List.length_append, HR.out.2.2]; rfl
            rw [h1, List.drop_left, ← h1, show n1 + 1 + m - (n1 + 1) = m by omega, ← hm, List.take_left]
          have hFs : F.size = m := by rw [size_list, hFl]; exact hm
          have hsl : ∀ wx : World, (Instr.slice 9 (.string R) (some (.int .i64 ((n1 : Int) + 1))) (some (.int .i64 ((n1 : Int) + 1 + m))) none).run Tryz.prog wx = .ok (.string F) wx := fun wx => by
            rw [run_slice_string (w := wx) 9 R .i64 .i64 ((n1 : Int) + 1) ((n1 : Int) + 1 + m) Tryz.underlying9 (by omega) (by omega) (by omega), ← hF]
            rw [show ((n1 : Int) + 1).toNat = n1 + 1 by omega, show ((n1 : Int) + 1 + m).toNat = n1 + 1 + m by omega]
          have hcc : ¬ 9223372036854775807 < D1.size + F.size := by have := HD1s.out; omega
          have HF := Lib.hid (And.intro hFl hFs)
          have HM := Lib.hid (And.intro hm (And.intro hRl hfl))
          clear hFl hFs hF
          have hm1 : (n1 : Int) + 1 + m ≤ R.size := by omega
          have ec1 : ((n1 + 1 : Nat) : Int) = (n1 : Int) + 1 := by omega
          have ec2 : ((n1 + 1 + m : Nat) : Int) = (n1 : Int) + 1 + m := by omega
          rw [ec1, ec2] at HRW2
          clear hrw hrun2 hRl hfl hm ec1 ec2
          go_wp2_with fail
          refine HRW2.out.mono ?_
          rintro e w3 ⟨rfl, rfl⟩
          go_wp2_with fail
          go_meet
          refine ⟨⟨n1 + 1 + m, _, ?_, rfl, ?_, ⟨?_, ?_, ?_⟩⟩, rfl⟩
          · go_num
          · rw [HM.out.1]; go_num
          · rw [ByteArray.data_append, Array.toList_append, hD1.out, HF.out.1]
          · have := HM.out.2.2; omega
          · rw [HM.out.2.1]
            have h1 : n1 + 1 + m = (ds ++ [46]).length + fs.length := by rw [List.length_append, HR.out.2.2, HM.out.1]; rfl
            rw [h1, ← List.append_assoc, ← List.length_append, List.drop_left]
        | false =>
          have HP := Lib.hid hp
          clear hp
          go_wp2_with fail
          go_meet
          have hf0 := HN.out.fs0 HP.out
          refine ⟨⟨n1, _, rfl, rfl, by rw [hf0]; rfl, ⟨?_, ?_, ?_⟩⟩, rfl⟩
          · rw [hD1.out, hf0, List.append_nil]
          · have := HR.out.1; rw [HP.out] at this; simp only [Bool.false_eq_true, if_false, List.length_nil] at this; omega
          · rw [hR.out]; unfold bodyL; rw [HP.out, ← HR.out.2.2]; simp
      case rest =>
        obtain ⟨⟨n2, D, rfl, rfl, rfl, hE⟩, rfl⟩ := hcut
        have hn2 : n2 ≤ R.size := by have := hE.out.2.1; omega
        have hfl : fs.length ≤ 67108864 := by
          have h1 := HR.out.1
          have : fs.length ≤ (if pt = true then 46 :: fs else ([] : List UInt8)).length := by
            cases hp : pt with
            | true => simp
            | false => rw [HN.out.fs0 hp]; simp
          omega
        obtain ⟨m, hm⟩ : ∃ m, fs.length = m := ⟨_, rfl⟩
        rw [hm] at hfl
        have HM := Lib.hid hm
        rw [hm]
        clear hm
        go_upto_if 53 with (fail)
        go_cut [6] (fun xv wd => (∃ tx : Int, xv = .int .i64 (-(m : Int) + tx) ∧ Aside (TxP hx sg es tx)) ∧ wd = wc)
        case first =>
          cases hh : hx with
          | false =>
            have HH := Lib.hid hh
            have hge : ¬ (n2 : Int) < R.size := by have := hE.out.2.1; rw [hh] at this; simp at this; omega
            clear hh
            go_wp2_with fail
            go_meet
            exact ⟨⟨0, by go_num, ⟨by omega, Or.inl (by rw [HH.out]; rfl)⟩⟩, rfl⟩
          | true =>
            have HH := Lib.hid hh
            have hlt : (n2 : Int) < R.size := by have := hE.out.2.1; rw [hh] at this; simp only [if_true, List.length_cons] at this; omega
            have hEl : (R.extract (n2 + 1) R.size).data.toList = sg ++ es := by
              have := hE.out.2.2
              rw [hh, if_pos rfl] at this
              rw [ext_list, ← List.drop_drop, this, List.drop_succ_cons, List.drop_zero]
              have h2 := hE.out.2.1
              rw [hh] at h2
              simp only [if_true, List.length_cons] at h2
              exact List.take_of_length_le (by omega)
            have HEl := Lib.hid hEl
            clear hh hEl
            go_upto_region 14 with (fail)
            go_cut [8] (fun ev wd => (∃ E : ByteArray, ev = .string E ∧ Aside (E.data.toList = sg ++ es)) ∧ wd = wc)
            case first =>
              go_wp2_with fail
              go_meet
              exact ⟨⟨_, rfl, HEl.out⟩, rfl⟩
            case rest =>
              obtain ⟨⟨E, rfl, hEE⟩, rfl⟩ := hcut
              obtain ⟨x, r, hx1, hx2, hx3⟩ := sg_bytes HN.out.sgn HN.out.esd (HN.out.es1 HH.out)
              have hE0 : 0 < E.size := by rw [size_list, hEE.out, hx1]; simp
              have hEb : E.size ≤ 67108864 := by
                have h2 := hE.out.2.1
                rw [HH.out] at h2
                simp only [if_true, List.length_cons] at h2
                rw [size_list, hEE.out]; omega
              have hb0 : bt E 0 = x.toNat := at_list (by rw [hEE.out, hx1]; rfl)
              have hb45 : (((E[0]'hE0).toNat : Int) == 45) = decide (sg = [45]) := by rw [bt_int hE0, hb0]; exact hx2
              have hb43 : (((E[0]'hE0).toNat : Int) == 43) = decide (sg = [43]) := by rw [bt_int hE0, hb0]; exact hx3
              obtain ⟨mn, hmn⟩ : ∃ mn, decide (sg = [45]) = mn := ⟨_, rfl⟩
              obtain ⟨pl, hpl⟩ : ∃ pl, decide (sg = [43]) = pl := ⟨_, rfl⟩
              rw [hmn] at hb45
              rw [hpl] at hb43
              have HS := Lib.hid (And.intro hmn hpl)
              clear hx1 hx2 hx3 hb0 hmn hpl
              go_upto_region 16 with (fail)
              go_cut [68] (fun bv wd => bv = .bool (pl || mn) ∧ wd = wc)
              case first =>
                cases pl
                all_goals
                  go_wp2_with fail
                  go_meet
                  exact ⟨rfl, rfl⟩
              case rest =>
                obtain ⟨rfl, rfl⟩ := hcut
                go_upto_if 68 with (fail)
                go_cut [8] (fun ev wd => (∃ E2 : ByteArray, ev = .string E2 ∧ Aside (E2.data.toList = es ∧ E2.size ≤ 67108864)) ∧ wd = wc)
                case first =>
                  have hone : pl = true ∨ mn = true → (E.extract 1 E.size).data.toList = es := fun h => by
                    have hsg : sg = [45] ∨ sg = [43] := by
                      rcases h with h | h
                      · right; exact of_decide_eq_true (HS.out.2.trans h)
                      · left; exact of_decide_eq_true (HS.out.1.trans h)
                    rw [ext_list, hEE.out]
                    have hl : E.size = es.length + 1 := by
                      rw [size_list, hEE.out]; rcases hsg with e | e <;> rw [e] <;> simp
                    rcases hsg with e | e <;> rw [e, hl] <;> simp
                  have hnone : pl = false → mn = false → E.data.toList = es := fun h1 h2 => by
                    have e1 := of_decide_eq_false (HS.out.1.trans h2)
                    have e2 := of_decide_eq_false (HS.out.2.trans h1)
                    rcases HN.out.sgn with e | e | e
                    · rw [hEE.out, e]; rfl
                    · exact absurd e e2
                    · exact absurd e e1
                  have HO := Lib.hid (And.intro hone hnone)
                  have hsz : (E.extract 1 E.size).size ≤ 67108864 := by rw [extract_size]; omega
                  have HSZ := Lib.hid hsz
                  clear hone hnone hsz
                  have hE1 : (1 : Int) ≤ E.size := by omega
                  cases pl
                  all_goals cases mn
                  · go_wp2_with fail
                    go_meet
                    exact ⟨⟨_, rfl, ⟨HO.out.2 (by simp) (by simp), hEb⟩⟩, rfl⟩
                  · go_wp2_with fail
                    go_meet
                    exact ⟨⟨_, rfl, ⟨HO.out.1 (Or.inr (by simp)), HSZ.out⟩⟩, rfl⟩
                  · go_wp2_with fail
                    go_meet
                    exact ⟨⟨_, rfl, ⟨HO.out.1 (Or.inl (by simp)), HSZ.out⟩⟩, rfl⟩
                  · go_wp2_with fail
                    go_meet
                    exact ⟨⟨_, rfl, ⟨HO.out.1 (Or.inl (by simp)), HSZ.out⟩⟩, rfl⟩
                case rest =>
                  obtain ⟨⟨E2, rfl, hE2⟩, rfl⟩ := hcut
                  have hE2b := hE2.out.2
                  have HD : Hid (allD E2.data.toList) := by rw [hE2.out.1]; exact HN.out.esd
                  clear hb45 hb43 hEb
                  go_wp2_with fail
                  go_loopg [10, 11] (E2.size) (fun mm nv' iv wr => ∃ n j : Nat, nv' = .int .i64 n ∧ iv = .int .i64 j ∧ Aside (mm = E2.size - j ∧ j ≤ E2.size ∧ n = pv E2 j ∧ n < 2000000000000) ∧ wr = wc)
                  case atStart => exact ⟨0, 0, rfl, rfl, ⟨rfl, by omega, rfl, by decide⟩, rfl⟩
                  case round =>
                    obtain ⟨n, j, rfl, rfl, hA2, rfl⟩ := hrel
                    have hn2b : (n : Int) < 2000000000000 := by have := hA2.out.2.2.2; omega
                    have hend : (¬ j < E2.size ∨ 100000000000 ≤ n) → TxP hx sg es (if mn = true then -(n : Int) else n) := fun h => by
                      rw [HH.out]
                      refine tx_of HS.out.1 ?_ hA2.out.2.2.2
                      rcases h with h | h
                      · left; rw [hA2.out.2.2.1, pv_end h, hE2.out.1]
                      · right; refine ⟨h, Nat.le_trans h ?_⟩
                        rw [hA2.out.2.2.1, ← hE2.out.1]; exact pv_le E2 j
                    have HEND := Lib.hid hend
                    clear hend
                    by_cases hl : j < E2.size
                    · by_cases hn : n < 100000000000
                      · have hlI : (j : Int) < E2.size := by omega
                        have hnI : (n : Int) < 100000000000 := by omega
                        have hdj : 48 ≤ bt E2 j ∧ bt E2 j ≤ 57 := by obtain ⟨x, h1, h2⟩ := list_at hl; rw [← h2]; exact HD.out x (List.mem_of_getElem? h1)
                        obtain ⟨cc, hcc⟩ : ∃ cc : Nat, bt E2 j = 48 + cc := ⟨bt E2 j - 48, by omega⟩
                        have hc : (E2[j].toNat : Int) = 48 + (cc : Int) := by rw [bt_int hl, hcc]; omega
                        have hc9 : (cc : Int) ≤ 9 := by omega
                        have HC : Hid (pv E2 (j + 1) = n * 10 + cc ∧ cc ≤ 9 ∧ n < 100000000000) := Lib.hid ⟨by rw [pv_step hl, ← hA2.out.2.2.1, hcc]; omega, by omega, hn⟩
                        clear hdj hcc hn
                        go_wp2_with fail
                        go_roundg (E2.size - (j + 1))
                        case measure => have := hA2.out; omega
                        case rel =>
                          have h1 := HC.out.1
                          exact ⟨n * 10 + cc, j + 1, congrArg (Value.int .i64) (by omega), by go_num, ⟨rfl, by omega, h1.symm, by have := HC.out; omega⟩, rfl⟩
                      · have hlI : (j : Int) < E2.size := by omega
                        have hnI : ¬ (n : Int) < 100000000000 := by omega
                        have HT := Lib.hid (HEND.out (Or.inr (by omega)))
                        cases mn
                        all_goals
                          go_wp2_with fail
                          go_meet
                          first
                            | exact ⟨⟨n, by go_num, HT.out⟩, rfl⟩
                            | exact ⟨⟨-n, by go_num, HT.out⟩, rfl⟩
                    · have hlI : ¬ (j : Int) < E2.size := by omega
                      have HT := Lib.hid (HEND.out (Or.inl hl))
                      cases mn
                      all_goals
                        go_wp2_with fail
                        go_meet
                        first
                          | exact ⟨⟨n, by go_num, HT.out⟩, rfl⟩
                          | exact ⟨⟨-n, by go_num, HT.out⟩, rfl⟩
        case rest =>
          obtain ⟨⟨tx, rfl, hT⟩, rfl⟩ := hcut
          have ht1 := hT.out.1.1
          have ht2 := hT.out.1.2
          have hDs : D.size ≤ 134217728 := by
            rw [size_list, hE.out.1, List.length_append]
            have := HR.out.2.2; have := HM.out; omega
          have HDD : Hid (allD D.data.toList ∧ D.size ≤ 134217728) := by
            refine Lib.hid ⟨?_, hDs⟩
            rw [hE.out.1]; intro x hx
            rcases List.mem_append.1 hx with h | h
            · exact HN.out.dsd x h
            · exact HN.out.fsd x h
          clear hDs
          go_upto_block 2 with (fail)
          go_cut [5] (fun dv wd => (∃ D2 : ByteArray, dv = .string D2 ∧ Aside (D2.data.toList = Lib.trimLeftB (ds ++ fs) 48 ∧ D2.size ≤ 134217728)) ∧ wd = wc)
          case first =>
            go_wp2_with fail
            go_loopg [5] (D.size) (fun mm dv wr => ∃ D' : ByteArray, dv = .string D' ∧ Aside (mm = D'.size ∧ Lib.trimLeftB D'.data.toList 48 = Lib.trimLeftB (ds ++ fs) 48 ∧ D'.size ≤ 134217728) ∧ wr = wc)
            case atStart => exact ⟨D, rfl, ⟨rfl, by rw [hE.out.1], HDD.out.2⟩, rfl⟩
            case round =>
              obtain ⟨D', rfl, hA2, rfl⟩ := hrel
              by_cases h0 : D'.size = 0
              · have hd : ¬ (0 : Int) < (D'.size : Int) := by omega
                have HZ : Hid (D'.data.toList = Lib.trimLeftB (ds ++ fs) 48 ∧ D'.size ≤ 134217728) := by
                  have hnil : D'.data.toList = [] := List.eq_nil_of_length_eq_zero (by rw [← size_list]; exact h0)
                  refine ⟨?_, hA2.out.2.2⟩
                  rw [← hA2.out.2.1, hnil]; rfl
                clear h0
                go_wp2_with fail
                go_meet
                exact ⟨⟨_, rfl, HZ.out⟩, rfl⟩
              · have hp : 0 < D'.size := by omega
                have hd : (0 : Int) < (D'.size : Int) := by omega
                obtain ⟨x, hx1, hx2⟩ := list_head hp
                by_cases h48 : x = 48
                · have hb : (((D'[0]'hp).toNat : Int) == 48) = true := by rw [bt_int hp, ← hx2, h48]; rfl
                  have hext : (D'.extract 1 D'.size).data.toList = D'.data.toList.drop 1 := by
                    rw [ext_list]; exact List.take_of_length_le (by rw [List.length_drop, ← size_list]; omega)
                  have HZ : Hid (Lib.trimLeftB (D'.extract 1 D'.size).data.toList 48 = Lib.trimLeftB (ds ++ fs) 48) := by
                    refine Lib.hid ?_
                    rw [hext, ← hA2.out.2.1]
                    conv => rhs; rw [hx1, h48]
                    rw [tl_cons]
                  have hd1 : (1 : Int) ≤ D'.size := by omega
                  clear hx1 hx2 h48 hext h0
                  go_wp2_with fail
                  go_roundg (D'.size - 1)
                  case measure => have := hA2.out.1; omega
                  case rel =>
                    have := hA2.out.2.2
                    exact ⟨_, rfl, ⟨by rw [extract_size], HZ.out, by rw [extract_size]; omega⟩, rfl⟩
                · have hb : (((D'[0]'hp).toNat : Int) == 48) = false := by
                    rw [bt_int hp, ← hx2, beq_eq_false_iff_ne]
                    intro h; exact h48 (UInt8.toNat_inj.1 (by show x.toNat = 48; omega))
                  have HZ : Hid (D'.data.toList = Lib.trimLeftB (ds ++ fs) 48 ∧ D'.size ≤ 134217728) := by
                    refine ⟨?_, hA2.out.2.2⟩
                    rw [← hA2.out.2.1]
                    conv => rhs; rw [hx1]
                    rw [tl_other h48, ← hx1]
                  clear hx1 hx2 h48 h0
                  go_wp2_with fail
                  go_meet
                  exact ⟨⟨_, rfl, HZ.out⟩, rfl⟩
          case rest =>
            obtain ⟨⟨D2, rfl, hD2⟩, rfl⟩ := hcut
            have HD2s := Lib.hid hD2.out.2
            go_upto_block 4 with (fail)
            go_cut [5, 6] (fun dv xv wd => (∃ (D3 : ByteArray) (X : Int), dv = .string D3 ∧ xv = .int .i64 X ∧ Aside (D3.data.toList = Lib.trimRightB (Lib.trimLeftB (ds ++ fs) 48) 48 ∧ X = -(m : Int) + tx + ((D2.size : Int) - D3.size) ∧ D3.size ≤ D2.size)) ∧ wd = wc)
            case first =>
              go_wp2_with fail
              go_loopg [5, 6] (D2.size) (fun mm dv xv wr => ∃ (D' : ByteArray) (X : Int), dv = .string D' ∧ xv = .int .i64 X ∧ Aside (mm = D'.size ∧ Lib.trimRightB D'.data.toList 48 = Lib.trimRightB (Lib.trimLeftB (ds ++ fs) 48) 48 ∧ X = -(m : Int) + tx + ((D2.size : Int) - D'.size) ∧ D'.size ≤ D2.size) ∧ wr = wc)
              case atStart => exact ⟨D2, _, rfl, rfl, ⟨rfl, by rw [hD2.out.1], by omega, Nat.le_refl _⟩, rfl⟩
              case round =>
                obtain ⟨D', X, rfl, rfl, hA2, rfl⟩ := hrel
                have hX1 : X ≤ 3000000000000 := by have := hA2.out.2.2; have := HD2s.out; omega
                have hX2 : -3000000000000 ≤ X := by have := hA2.out.2.2; omega
                have hDb : (D'.size : Int) ≤ 134217728 := by have := hA2.out.2.2; have := HD2s.out; omega
                by_cases h0 : D'.size = 0
                · have hd : ¬ (0 : Int) < (D'.size : Int) := by omega
                  have HZ : Hid (D'.data.toList = Lib.trimRightB (Lib.trimLeftB (ds ++ fs) 48) 48) := by
                    have hnil : D'.data.toList = [] := List.eq_nil_of_length_eq_zero (by rw [← size_list]; exact h0)
                    refine Lib.hid ?_
                    rw [← hA2.out.2.1, hnil]; rfl
                  clear h0
                  go_wp2_with fail
                  go_meet
                  exact ⟨⟨_, _, rfl, rfl, ⟨HZ.out, hA2.out.2.2⟩⟩, rfl⟩
                · obtain ⟨k, hk⟩ : ∃ k, D'.size = k + 1 := ⟨D'.size - 1, by omega⟩
                  have hd : (0 : Int) < (D'.size : Int) := by omega
                  have hkI : (D'.size : Int) - 1 = (k : Int) := by omega
                  have hp : k < D'.size := by omega
                  have hpI : (k : Int) < D'.size := by omega
                  obtain ⟨x, hx1, hx2⟩ := list_last hk
                  by_cases h48 : x = 48
                  · have hb : (((D'[k]'hp).toNat : Int) == 48) = true := by rw [bt_int hp, ← hx2, h48]; rfl
                    have hext : (D'.extract 0 k).data.toList = D'.data.toList.take k := by rw [ext_list]; rfl
                    have hexs : (D'.extract 0 k).size = k := by rw [ByteArray.size_extract]; omega
                    have HZ : Hid (Lib.trimRightB (D'.extract 0 k).data.toList 48 = Lib.trimRightB (Lib.trimLeftB (ds ++ fs) 48) 48 ∧ (D'.extract 0 k).size = k ∧ D'.size = k + 1) := by
                      refine Lib.hid ⟨?_, hexs, hk⟩
                      rw [hext, ← hA2.out.2.1]
                      conv => rhs; rw [hx1, h48]
                      rw [tr_snoc]
                    clear hx1 hx2 h48 hext h0 hexs hk
                    go_wp2_with fail
                    go_roundg k
                    case measure => have := hA2.out.1; have := HZ.out.2.2; omega
                    case rel =>
                      have h1 := hA2.out.2.2
                      have h2 := HZ.out.2
                      exact ⟨_, _, rfl, rfl, ⟨h2.1.symm, HZ.out.1, by rw [h2.1]; omega, by omega⟩, rfl⟩
                  · have hb : (((D'[k]'hp).toNat : Int) == 48) = false := by
                      rw [bt_int hp, ← hx2, beq_eq_false_iff_ne]
                      intro h; exact h48 (UInt8.toNat_inj.1 (by show x.toNat = 48; omega))
                    have HZ : Hid (D'.data.toList = Lib.trimRightB (Lib.trimLeftB (ds ++ fs) 48) 48) := by
                      refine Lib.hid ?_
                      rw [← hA2.out.2.1]
                      conv => rhs; rw [hx1]
                      rw [tr_other h48, ← hx1]
                    clear hx1 hx2 h48 h0 hk
                    go_wp2_with fail
                    go_meet
                    exact ⟨⟨_, _, rfl, rfl, ⟨HZ.out, hA2.out.2.2⟩⟩, rfl⟩
            case rest =>
              obtain ⟨⟨D3, X, rfl, rfl, hD3⟩, rfl⟩ := hcut
              have hX1 : X ≤ 3000000000000 := by have := hD3.out.2; have := HD2s.out; omega
              have hX2 : -3000000000000 ≤ X := by have := hD3.out.2; omega
              have c0 := hA.out.2.1.c0
              have c1 := hA.out.2.1.c1
              have c2 := hA.out.2.1.c2
              have f1 := hA.out.2.1.fr 1
              have f2 := hA.out.2.1.fr 2
              have r0 := hA.out.1.c0
              have r1 := hA.out.1.c1
              have r2 := hA.out.1.c2
              have e0 := hA.out.1.fr 0
              have e1 := hA.out.1.fr 1
              have e2 := hA.out.1.fr 2
              by_cases hz : D3.size = 0
              · have hzb : ((D3.size : Int) == 0) = true := by rw [hz]; rfl
                have HZ := Lib.hid hz
                clear hz
                have HF : Hid (ToldAt (((((wc.setCell ⟨BR + 1, 1, none⟩ (.string D3)).setCell ⟨BR + 1, 2, none⟩ (.int .i64 (0))).setCell ⟨BR, 0, none⟩ (.bool neg)).setCell ⟨BR, 1, none⟩ (.string D3)).setCell ⟨BR, 2, none⟩ (.int .i64 (0))) BR neg D3 (0)) :=
                  (((((hA.out.1.far (b' := BR + 1) (i := 1) (by omega) (.string D3)).far (b' := BR + 1) (i := 2) (by omega) (.int .i64 (0))).set0 neg).set1 D3).set2 (0))
                have HBE : Hid (Below BR w (((((wc.setCell ⟨BR + 1, 1, none⟩ (.string D3)).setCell ⟨BR + 1, 2, none⟩ (.int .i64 (0))).setCell ⟨BR, 0, none⟩ (.bool neg)).setCell ⟨BR, 1, none⟩ (.string D3)).setCell ⟨BR, 2, none⟩ (.int .i64 (0)))) :=
                  (((((hA.out.2.2.setCell (Nat.le_succ _) _).setCell (Nat.le_succ _) _).setCell (Nat.le_refl _) _).setCell (Nat.le_refl _) _).setCell (Nat.le_refl _) _)
                go_wp2_with fail
                refine bodyPost_ret (v := .agg #[.bool neg, .string D3, .int .i64 (0)]) ?_ rfl ⟨D3, (0), rfl, ?_, by rw [HBR.out]; exact HBE.out⟩
                · simp [results, Tryz.f34, asAddr, loadVar]
                  rw [told_load HF.out]
                  rfl
                · have hnil : D3.data.toList = [] := List.eq_nil_of_length_eq_zero (by rw [← size_list]; exact HZ.out)
                  exact ⟨hD3.out.1, by omega, by omega, fun _ => rfl, fun h => absurd hnil h⟩
              · have hzb := beq_nat0 hz
                have HZ := Lib.hid hz
                clear hz
                have HF : Hid (ToldAt (((((wc.setCell ⟨BR + 1, 1, none⟩ (.string D3)).setCell ⟨BR + 1, 2, none⟩ (.int .i64 X)).setCell ⟨BR, 0, none⟩ (.bool neg)).setCell ⟨BR, 1, none⟩ (.string D3)).setCell ⟨BR, 2, none⟩ (.int .i64 X)) BR neg D3 X) :=
                  (((((hA.out.1.far (b' := BR + 1) (i := 1) (by omega) (.string D3)).far (b' := BR + 1) (i := 2) (by omega) (.int .i64 X)).set0 neg).set1 D3).set2 X)
                have HBE : Hid (Below BR w (((((wc.setCell ⟨BR + 1, 1, none⟩ (.string D3)).setCell ⟨BR + 1, 2, none⟩ (.int .i64 X)).setCell ⟨BR, 0, none⟩ (.bool neg)).setCell ⟨BR, 1, none⟩ (.string D3)).setCell ⟨BR, 2, none⟩ (.int .i64 X))) :=
                  (((((hA.out.2.2.setCell (Nat.le_succ _) _).setCell (Nat.le_succ _) _).setCell (Nat.le_refl _) _).setCell (Nat.le_refl _) _).setCell (Nat.le_refl _) _)
                go_wp2_with fail
                refine bodyPost_ret (v := .agg #[.bool neg, .string D3, .int .i64 X]) ?_ rfl ⟨D3, X, rfl, ?_, by rw [HBR.out]; exact HBE.out⟩
                · simp [results, Tryz.f34, asAddr, loadVar]
                  rw [told_load HF.out]
                  rfl
                · have hne : D3.data.toList ≠ [] := fun h => HZ.out (by rw [size_list, h]; rfl)
                  refine ⟨hD3.out.1, by omega, by omega, fun h => absurd h hne, fun _ => ⟨tx, ?_, hT.out.2⟩⟩
                  have h1 := hD3.out.2.1
                  have h2 : D2.size = (Lib.trimLeftB (ds ++ fs) 48).length := by rw [size_list, hD2.out.1]
                  have h3 := size_list D3
                  have h4 := HM.out
                  omega
end Go.Proofs.YtnpinogjajhlhaaGreatDoor.Fl
end
