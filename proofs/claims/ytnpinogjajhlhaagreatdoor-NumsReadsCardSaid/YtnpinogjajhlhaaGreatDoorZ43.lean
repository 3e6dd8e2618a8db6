/- A part of the proof that lexiconlaw03.NumsReads answers true at every kind and every text: RfReadA, RfBool, RfNought, RfForm, NatN64. No condition. -/
import Derived.Test.YtnpinogjajhlhaaGreatDoorZ42
import Derived.Test.YtnpinogjajhlhaaGreatDoorZ39
import Derived.Test.YtnpinogjajhlhaaGreatDoorZ40
import Derived.Lib.QuietBelow
section
/- The reference's Read of integers, at every text; none; bool. -/
namespace Go.Proofs.YtnpinogjajhlhaaGreatDoor.Fl
open Go.RowKit

theorem rread_int (k : Int) (S : ByteArray) (hsz : S.size ≤ 67108864) (w : World) (hs : sortK k = 2 ∨ sortK k = 3 ∨ sortK k = 4 ∨ sortK k = 5) : Calls Tryz.prog 8 #[.int .u8 k, .string S] w (IntPost (sortK k) S w.heap.size w) := by
  by_cases hm : bt S 0 = 45
  · rcases hs with h | h | h | h <;> rw [h]
    · exact rread_2m k S _ hsz w h hm rfl
    · exact rread_3m k S _ hsz w h hm rfl
    · exact rread_4m k S _ hsz w h hm rfl
    · exact rread_5m k S _ hsz w h hm rfl
  · rcases hs with h | h | h | h <;> rw [h]
    · exact rread_2p k S _ hsz w h hm rfl
    · exact rread_3p k S _ hsz w h hm rfl
    · exact rread_4p k S _ hsz w h hm rfl
    · exact rread_5p k S _ hsz w h hm rfl

set_option maxRecDepth 100000 in
theorem rread_none (k : Int) (S : ByteArray) (w : World) (h : sortK k = 0) : Calls Tryz.prog 8 #[.int .u8 k, .string S] w (fun e w' => e = .returned (.tuple #[.int .u64 (0 : Nat), .int .i64 30]) ∧ w' = w) := by
  have HS := Lib.hid (signed_walk k)
  have HU := Lib.hid (unsigned_walk k)
  rw [h, show sgnS 0 = 0 from rfl] at HS
  rw [h, show unsS 0 = 0 from rfl] at HU
  obtain ⟨k1, k2, k3⟩ := @sortK_one k
  have c1 : (k == 8) = false := by rw [beq_eq_false_iff_ne]; intro hc; have := k1.2 hc; omega
  have c2 : (k == 2) = false := by rw [beq_eq_false_iff_ne]; intro hc; have := k2.2 hc; omega
  have c3 : (k == 1) = false := by rw [beq_eq_false_iff_ne]; intro hc; have := k3.2 hc; omega
  clear h k1 k2 k3
  go_enter Tryz.func8, Tryz.ntmps8
  go_wp2_with fail
  refine (HS.out _).mono ?_
  rintro e w' ⟨rfl, rfl⟩
  go_wp2_with fail
  refine (HU.out _).mono ?_
  rintro e w' ⟨rfl, rfl⟩
  go_wp2_with fail
  go_ret2
  exact ⟨rfl, rfl⟩
end Go.Proofs.YtnpinogjajhlhaaGreatDoor.Fl
end
section
/- The reference's Read of truths, walked. -/
namespace Go.Proofs.YtnpinogjajhlhaaGreatDoor.Fl
open Go.RowKit

set_option maxRecDepth 100000 in
theorem rread_bool (k : Int) (S : ByteArray) (w : World) (h : sortK k = 1) : Calls Tryz.prog 8 #[.int .u8 k, .string S] w (BoolPost S w.heap.size w) := by
  have HS := Lib.hid (signed_walk k)
  have HU := Lib.hid (unsigned_walk k)
  rw [h, show sgnS 1 = 0 from rfl] at HS
  rw [h, show unsS 1 = 0 from rfl] at HU
  obtain ⟨k1, k2, k3⟩ := @sortK_one k
  obtain rfl : k = 8 := k1.1 h
  clear h k1 k2 k3
  obtain ⟨b1, hb1⟩ : ∃ b1 : Bool, (S.toList == [116, 114, 117, 101]) = b1 := ⟨_, rfl⟩
  obtain ⟨b2, hb2⟩ : ∃ b2 : Bool, (S.toList == [102, 97, 108, 115, 101]) = b2 := ⟨_, rfl⟩
  cases b1 with
  | true =>
    have h1 : S.toList = TrueL := by rw [beq_iff_eq] at hb1; exact hb1
    have hq : (S.toList == [102, 97, 108, 115, 101]) = false := by rw [h1]; decide
    have HB := Lib.hid h1
    clear h1 hb2
    go_enter Tryz.func8, Tryz.ntmps8
    go_wp2_with fail
    go_ret2
    exact ⟨1, 0, Or.inl ⟨HB.out, rfl, rfl⟩, rfl, Below.refl _ _⟩
  | false =>
    have h1 : S.toList ≠ TrueL := by rw [beq_eq_false_iff_ne] at hb1; exact hb1
    have HB := Lib.hid h1
    clear h1
    cases b2 with
    | true =>
      have h2 : S.toList = FalseL := by rw [beq_iff_eq] at hb2; exact hb2
      have HB2 := Lib.hid h2
      clear h2
      go_enter Tryz.func8, Tryz.ntmps8
      go_wp2_with fail
      go_ret2
      exact ⟨0, 0, Or.inr (Or.inl ⟨HB.out, HB2.out, rfl, rfl⟩), rfl, Below.refl _ _⟩
    | false =>
      have h2 : S.toList ≠ FalseL := by rw [beq_eq_false_iff_ne] at hb2; exact hb2
      have HB2 := Lib.hid h2
      clear h2
      go_enter Tryz.func8, Tryz.ntmps8
      go_wp2_with fail
      refine (HS.out _).mono ?_
      rintro e w' ⟨rfl, rfl⟩
      go_wp2_with fail
      refine (HU.out _).mono ?_
      rintro e w' ⟨rfl, rfl⟩
      go_wp2_with fail
      go_ret2
      exact ⟨0, 30, Or.inr (Or.inr ⟨HB.out, HB2.out, rfl, rfl⟩), rfl, Below.refl _ _⟩
end Go.Proofs.YtnpinogjajhlhaaGreatDoor.Fl
end
section
/- The reference's noughts, walked; Read of floats by way of float. -/
namespace Go.Proofs.YtnpinogjajhlhaaGreatDoor.Fl
open Go.RowKit

set_option maxRecDepth 100000 in
theorem rread_fl (k : Int) (S : ByteArray) (w : World) (h : k = 1 ∨ k = 2) (R : Ending → World → Prop)
    (HR : Hid (Calls Tryz.prog 33 #[.int .u8 k, .string S] w (fun e w' => ∃ (b : Nat) (err : Int), e = .returned (.tuple #[.int .u64 b, .int .i64 err]) ∧ R e w'))) :
    Calls Tryz.prog 8 #[.int .u8 k, .string S] w R := by
  have HS := Lib.hid (signed_walk k)
  have HU := Lib.hid (unsigned_walk k)
  rcases h with rfl | rfl
  · rw [show sgnS (sortK 1) = 0 from rfl] at HS
    rw [show unsS (sortK 1) = 0 from rfl] at HU
    go_enter Tryz.func8, Tryz.ntmps8
    go_wp2_with fail
    refine (HS.out _).mono ?_
    rintro e w' ⟨rfl, rfl⟩
    go_wp2_with fail
    refine (HU.out _).mono ?_
    rintro e w' ⟨rfl, rfl⟩
    go_wp2_with fail
    refine HR.out.mono ?_
    rintro e w' ⟨b, err, rfl, hr⟩
    have HRR := Lib.hid hr
    clear hr
    go_wp2_with fail
    exact HRR.out
  · rw [show sgnS (sortK 2) = 0 from rfl] at HS
    rw [show unsS (sortK 2) = 0 from rfl] at HU
    go_enter Tryz.func8, Tryz.ntmps8
    go_wp2_with fail
    refine (HS.out _).mono ?_
    rintro e w' ⟨rfl, rfl⟩
    go_wp2_with fail
    refine (HU.out _).mono ?_
    rintro e w' ⟨rfl, rfl⟩
    go_wp2_with fail
    refine HR.out.mono ?_
    rintro e w' ⟨b, err, rfl, hr⟩
    have HRR := Lib.hid hr
    clear hr
    go_wp2_with fail
    exact HRR.out

set_option maxRecDepth 100000 in
theorem noughts_walk (n : Nat) (hn : n ≤ 1000) (w : World) : Calls Tryz.prog 35 #[.int .i64 n] w (fun e w' => (∃ Z : ByteArray, Z.data.toList = List.replicate n 48 ∧ e = .returned (.string Z)) ∧ w' = w) := by
  go_enter Tryz.func35, Tryz.ntmps35
  go_wp2_with fail
  go_loopg [3, 4] n (fun mm sv iv wr => (∃ (Z : ByteArray) (j : Nat), sv = .string Z ∧ iv = .int .i64 j ∧ Aside (mm = n - j ∧ j ≤ n ∧ Z.data.toList = List.replicate j 48)) ∧ wr = w)
  case atStart => exact ⟨⟨_, 0, rfl, rfl, ⟨rfl, by omega, rfl⟩⟩, rfl⟩
  case round =>
    obtain ⟨⟨Z, j, rfl, rfl, hA⟩, rfl⟩ := hrel
    have hZs : Z.size = j := by rw [size_list, hA.out.2.2, List.length_replicate]
    have hjn := hA.out.2.1
    have hcat : ¬ 9223372036854775807 < Z.size + 1 := by omega
    by_cases hl : (j : Int) < (n : Int)
    · go_wp2_with fail
      go_roundg (n - (j + 1))
      case measure => have := hA.out; omega
      case rel =>
        refine ⟨⟨_, j + 1, rfl, by go_num, ⟨rfl, by omega, ?_⟩⟩, rfl⟩
        rw [ByteArray.data_append, Array.toList_append, hA.out.2.2, List.replicate_succ']
    · go_wp2_with fail
      go_ret
      exact ⟨⟨Z, by rw [hA.out.2.2, show j = n by omega], rfl⟩, rfl⟩
end Go.Proofs.YtnpinogjajhlhaaGreatDoor.Fl
end
section
/- The reference's Slim and Wide, walked. -/
namespace Go.Proofs.YtnpinogjajhlhaaGreatDoor.Fl
open Go.RowKit

def slimV : Value := .agg #[.int .i64 24, .int .i64 (-149), .int .i64 104]

set_option maxRecDepth 100000 in
theorem slim_walk (w : World) : Calls Tryz.prog 102 #[] w (fun e w' => e = .returned slimV ∧ Below w.heap.size w w') := by
  go_enter Tryz.func102, Tryz.ntmps102
  go_wp2_with fail
  refine bodyPost_ret (v := slimV) ?_ rfl ⟨rfl, (Below.refl _ _).alloc (Nat.le_refl _) _⟩
  simp [results, Tryz.f102, slimV, asAddr, loadVar]
  have h := run_loadCells_list (P := Tryz.prog) (w.alloc (Obj.cells #[.int .i64 24, .int .i64 (-149), .int .i64 104] 102)) ⟨w.heap.size, 0, none⟩ [.int .i64 24, .int .i64 (-149), .int .i64 104] (fun k v hk => by
    rw [Addr.add_lit, World.cell?_alloc_at _ _ _ _ rfl, Nat.zero_add]
    rw [← hk]; exact List.getElem?_toArray)
  rw [show loadCells ⟨w.heap.size, 0, none⟩ 3 = loadCells ⟨w.heap.size, 0, none⟩ ([.int .i64 24, .int .i64 (-149), .int .i64 104] : List Value).length from rfl, h]
  rfl

def wideV : Value := .agg #[.int .i64 53, .int .i64 (-1074), .int .i64 971]

set_option maxRecDepth 100000 in
theorem wide_walk (w : World) : Calls Tryz.prog 103 #[] w (fun e w' => e = .returned wideV ∧ Below w.heap.size w w') := by
  go_enter Tryz.func103, Tryz.ntmps103
  go_wp2_with fail
  refine bodyPost_ret (v := wideV) ?_ rfl ⟨rfl, (Below.refl _ _).alloc (Nat.le_refl _) _⟩
  simp [results, Tryz.f103, wideV, asAddr, loadVar]
  have h := run_loadCells_list (P := Tryz.prog) (w.alloc (Obj.cells #[.int .i64 53, .int .i64 (-1074), .int .i64 971] 102)) ⟨w.heap.size, 0, none⟩ [.int .i64 53, .int .i64 (-1074), .int .i64 971] (fun k v hk => by
    rw [Addr.add_lit, World.cell?_alloc_at _ _ _ _ rfl, Nat.zero_add]
    rw [← hk]; exact List.getElem?_toArray)
  rw [show loadCells ⟨w.heap.size, 0, none⟩ 3 = loadCells ⟨w.heap.size, 0, none⟩ ([.int .i64 53, .int .i64 (-1074), .int .i64 971] : List Value).length from rfl, h]
  rfl
end Go.Proofs.YtnpinogjajhlhaaGreatDoor.Fl
end
section
/- near, walked at one format: the nearest rung to a ratio. -/
namespace Go.Proofs.YtnpinogjajhlhaaGreatDoor.Fl
open Go.RowKit Ieee

theorem rleftI64_walk (v : Value) (N : Nat) (k : Int) (w : World) (hv : NatAt w v N) (h0 : 0 ≤ k) (hn : k ≤ 10000000) (hl : wlen N ≤ 1000000) :
    Calls Tryz.prog 133 #[v, .int .i64 k] w (NatPost (N * 2 ^ k.toNat) w.heap.size w) := by
  obtain ⟨n, rfl⟩ : ∃ n : Nat, k = n := ⟨k.toNat, by omega⟩
  exact rleft_walk v N n w hv (by omega) hl

/-- The form's cells in block b. -/
structure Box64 (w : World) (b : Nat) : Prop where
  c0 : w.cell? ⟨b, 0, none⟩ = some (.int .i64 53)
  c1 : w.cell? ⟨b, 1, none⟩ = some (.int .i64 (-1074))
  c2 : w.cell? ⟨b, 2, none⟩ = some (.int .i64 971)

theorem Box64.below {w w' : World} {b : Nat} (h : Box64 w b) (hb : Below w.heap.size w w') : Box64 w' b := by
  have hl : b < w.heap.size := World.block_lt_of_cell? w ⟨b, 0, none⟩ h.c0
  exact ⟨(hb.cell (p := ⟨b, 0, none⟩) hl).trans h.c0, (hb.cell (p := ⟨b, 1, none⟩) hl).trans h.c1, (hb.cell (p := ⟨b, 2, none⟩) hl).trans h.c2⟩

theorem box64_new (w : World) : Box64 (w.alloc (Obj.cells #[.int .i64 53, .int .i64 (-1074), .int .i64 971] 102)) w.heap.size :=
  ⟨World.cell?_alloc_at _ _ _ _ rfl, World.cell?_alloc_at _ _ _ _ rfl, World.cell?_alloc_at _ _ _ _ rfl⟩

set_option maxRecDepth 100000 in
theorem most64_walk (w : World) : Calls Tryz.prog 75 #[.agg #[.int .i64 53, .int .i64 (-1074), .int .i64 971]] w (fun e w' => e = .returned (.int .i64 2047) ∧ Below w.heap.size w w') := by
  go_enter Tryz.func75, Tryz.ntmps75
  go_wp2_with fail
  go_ret
  exact ⟨rfl, (Below.refl _ _).alloc (Nat.le_refl _) _⟩

theorem ret_ub {a b : Int} (c : Bool) (h : a = b) : Ending.returned (.tuple #[.int .u64 a, .bool c]) = Ending.returned (.tuple #[.int .u64 b, .bool c]) := by rw [h]

theorem near_rn64 {n d : Nat} {k : Int} (hd : 0 < d) (hk : -(1074 : Int) ≤ k) (hq : na n k / nc d k < 9007199254740992) (hl : k = -(1074 : Int) ∨ 4503599627370496 ≤ na n k / nc d k) :
    RN Ieee.double.binade (2 ^ (1074 + 1)) n d ((k + 1074).toNat * 4503599627370496 + rhe (na n k) (nc d k)) := by
  have h := near_rn (P := 53) (Lo := 1074) (by decide) hd hk hq hl
  rw [consts64.1]
  exact h

def NearPost64 (N D B : Nat) (w : World) (e : Ending) (w' : World) : Prop :=
  ∃ r, RN Ieee.double.binade (2 ^ (1074 + 1)) N D r ∧ ((Ieee.double.infRung ≤ r ∧ ∃ x : Nat, e = .returned (.tuple #[.int .u64 x, .bool false])) ∨ (r < Ieee.double.infRung ∧ e = .returned (.tuple #[.int .u64 r, .bool true]))) ∧ Below B w w'

set_option maxHeartbeats 4000000 in
set_option maxRecDepth 100000 in
theorem near64_walk (u v : Value) (N D : Nat) (w : World) (hu : NatAt w u N) (hv : NatAt w v D) (hD : 0 < D) (hl : wlen N ≤ 100000) (hl2 : wlen D ≤ 100000) :
    Calls Tryz.prog 105 #[u, v, wideV] w (NearPost64 N D w.heap.size w) := by
  by_cases h0 : N = 0
  · subst h0
    obtain ⟨g, n, ao, c, rfl, hg, ht, hN, hnc, hcm, hwl, hcase⟩ := hu.cells
    rw [wlen_zero] at hwl
    subst hwl
    have hbe : (((0 : Nat) : Int) == 0) = true := rfl
    clear hv hcase hN ht hu
    unfold wideV
    go_enter Tryz.func105, Tryz.ntmps105
    go_wp2_with fail
    go_ret2
    exact ⟨0, rn_zero (Nat.two_pow_pos _) (by omega), Or.inr ⟨by decide, rfl⟩, (Below.refl _ _).alloc (Nat.le_refl _) _⟩
  · obtain ⟨g, n, ao, c, rfl, hg, ht, hN, hnc, hcm, hwl, hcase⟩ := hu.cells
    have hn : n ≠ 0 := fun h => h0 (by rw [← hN, h]; rfl)
    have hbe := beq_nat0 hn
    have HU := Lib.hid hu
    have HV := Lib.hid hv
    have HL := Lib.hid (And.intro hl (And.intro hl2 (And.intro hD h0)))
    have hbx : ((blen N : Nat) : Int) ≤ 3200000 := by have := blen_wlen N; omega
    have hby : ((blen D : Nat) : Int) ≤ 3200000 := by have := blen_wlen D; omega
    have HU1 : Hid (NatAt (w.alloc (Obj.cells #[.int .i64 53, .int .i64 (-1074), .int .i64 971] 102)) (.slice ao n c) N) := HU.out.below ((Below.refl _ _).alloc (Nat.le_refl _) _)
    have HV1 : Hid (NatAt (w.alloc (Obj.cells #[.int .i64 53, .int .i64 (-1074), .int .i64 971] 102)) v D) := HV.out.below ((Below.refl _ _).alloc (Nat.le_refl _) _)
    clear hu hv hl hl2 hD h0 hg ht hN hnc hcm hwl hcase hn
    unfold wideV
    go_enter Tryz.func105, Tryz.ntmps105
    go_wp2_with fail
    go_quiet ((go_at_call 132; first | exact Calls.quiet_of_same (rbits_walk _ _ _ HU1.out (by have := HL.out; omega)) | exact Calls.quiet_of_same (rbits_walk _ _ _ HV1.out (by have := HL.out; omega))))
    go_wp2_with fail
    obtain ⟨k0, hk0⟩ : ∃ k0 : Int, max (((blen N : Nat) : Int) - ((blen D : Nat) : Int) - 53) (-1074) = k0 := ⟨_, rfl⟩
    have HS : Hid (-(1074 : Int) ≤ k0 ∧ k0 ≤ 3300000 ∧ na N k0 / nc D k0 < 2 ^ (53 + 1) ∧ (k0 = -(1074 : Int) ∨ 2 ^ (53 - 1) ≤ na N k0 / nc D k0)) := by
      refine Lib.hid ⟨by omega, by omega, near_hi (P := 53) HL.out.2.2.1 (by omega), ?_⟩
      by_cases h : k0 = -(1074 : Int)
      · exact Or.inl h
      · exact Or.inr (near_lo (P := 53) (by decide) HL.out.2.2.2 HL.out.2.2.1 (by omega))
    rw [hk0]
    clear hk0 hbx hby
    obtain ⟨BX, hBX⟩ : ∃ BX, w.heap.size = BX := ⟨_, rfl⟩
    have HW : Hid (Below BX w (World.drewN (w.alloc (Obj.cells #[.int .i64 53, .int .i64 (-1074), .int .i64 971] 102)) nq) ∧ Box64 (World.drewN (w.alloc (Obj.cells #[.int .i64 53, .int .i64 (-1074), .int .i64 971] 102)) nq) BX) := by
      rw [← hBX]
      exact ⟨belowN ((Below.refl _ _).alloc (Nat.le_refl _) _) _, (box64_new w).below (belowN (Below.refl _ _) _)⟩
    rw [hBX]
    have HBX := Lib.hid hBX
    clear hBX HU1 HV1
    go_loopg [8, 9, 10, 11, 12] 1 (fun mm kv _ _ _ _ wr => ∃ k : Int, kv = .int .i64 k ∧ Aside (mm ≤ 1 ∧ -(1074 : Int) ≤ k ∧ k + mm ≤ 3300002 ∧ na N k / nc D k < 2 ^ (53 + mm) ∧ (k = -(1074 : Int) ∨ 2 ^ (53 - 1) ≤ na N k / nc D k) ∧ Below BX w wr ∧ Box64 wr BX))
    case atStart =>
      exact ⟨_, rfl, ⟨Nat.le_refl _, HS.out.1, by have := HS.out.2.1; omega, HS.out.2.2.1, HS.out.2.2.2, HW.out.1, HW.out.2⟩⟩
    case round =>
      obtain ⟨k, rfl, hA⟩ := hrel
      have hk1 := hA.out.2.1
      have hk2 : k ≤ 3300002 := by have := hA.out.2.2.1; omega
      have hub := hA.out.2.2.2.2.2.1
      rw [← HBX.out] at hub
      have HUr := Lib.hid (HU.out.below hub)
      have HVr := Lib.hid (HV.out.below hub)
      have c0 := hA.out.2.2.2.2.2.2.c0
      have c1 := hA.out.2.2.2.2.2.2.c1
      have c2 := hA.out.2.2.2.2.2.2.c2
      clear hub
      have hln : wlen (na N k) ≤ 900000 := by have := wlen_left (N := N) (n := (-k).toNat); have := HL.out; unfold na; omega
      have hld : wlen (nc D k) ≤ 900000 := by have := wlen_left (N := D) (n := k.toNat); have := HL.out; unfold nc; omega
      have hcp := nc_pos HL.out.2.2.1 k
      have hdv : ∀ c, c = 62 → na N k < nc D k * 2 ^ c := fun c hc => by
        rw [Nat.mul_comm]
        refine (Nat.div_lt_iff_lt_mul hcp).1 (Nat.lt_of_lt_of_le hA.out.2.2.2.1 (Nat.pow_le_pow_right (by decide) ?_))
        have := hA.out.1; omega
      have HQ := Lib.hid (And.intro hln (And.intro hld (And.intro hcp hdv)))
      clear hln hld hcp hdv
      rcases (show 0 ≤ k ∨ k < 0 by omega) with hks | hks
      case' inl =>
        have HK : Hid (na N k = N * 2 ^ 0) := by unfold na; rw [show (-k).toNat = 0 by omega]; rfl
        go_wp2_with fail
        refine (rleftI64_walk _ D k _ HVr.out (by omega) (by omega) (by have := HL.out; omega)).mono ?_
        rintro e w1 ⟨t, rfl, ht1, hb1⟩
        have H1 : Hid (NatAt w1 (.slice ao n c) (na N k) ∧ NatAt w1 t (nc D k) ∧ Below BX w w1 ∧ Box64 w1 BX) := ⟨by rw [HK.out, Nat.pow_zero, Nat.mul_one]; exact HUr.out.below hb1, ht1, hA.out.2.2.2.2.2.1.trans (hb1.mono (by have := hA.out.2.2.2.2.2.1.size; have := HBX.out; omega)), hA.out.2.2.2.2.2.2.below hb1⟩
      case' inr =>
        have HK : Hid (nc D k = D * 2 ^ 0) := by unfold nc; rw [show k.toNat = 0 by omega]; rfl
        go_wp2_with fail
        refine (rleftI64_walk _ N (-k) _ HUr.out (by omega) (by omega) (by have := HL.out; omega)).mono ?_
        rintro e w1 ⟨t, rfl, ht1, hb1⟩
        have H1 : Hid (NatAt w1 t (na N k) ∧ NatAt w1 v (nc D k) ∧ Below BX w w1 ∧ Box64 w1 BX) := ⟨ht1, by rw [HK.out, Nat.pow_zero, Nat.mul_one]; exact HVr.out.below hb1, hA.out.2.2.2.2.2.1.trans (hb1.mono (by have := hA.out.2.2.2.2.2.1.size; have := HBX.out; omega)), hA.out.2.2.2.2.2.2.below hb1⟩
      all_goals
        have d0 := H1.out.2.2.2.c0
        have d1 := H1.out.2.2.2.c1
        have d2 := H1.out.2.2.2.c2
        clear ht1 hb1 HUr HVr c0 c1 c2 HK
        go_wp2_with fail
        refine (rdivide_walk _ _ (na N k) (nc D k) _ H1.out.1 H1.out.2.1 HQ.out.2.2.1 HQ.out.2.2.2 HQ.out.1 HQ.out.2.1).mono ?_
        rintro e w2 ⟨rest, rfl, hr1, hb2⟩
        have H2 : Hid (NatAt w2 rest (na N k % nc D k) ∧ NatAt w2 _ (nc D k) ∧ Below BX w w2 ∧ Box64 w2 BX) := ⟨hr1, H1.out.2.1.below hb2, H1.out.2.2.1.trans (hb2.mono (by have := H1.out.2.2.1.size; have := HBX.out; omega)), H1.out.2.2.2.below hb2⟩
        have e0 := H2.out.2.2.2.c0
        have e1 := H2.out.2.2.2.c1
        have e2 := H2.out.2.2.2.c2
        obtain ⟨Q, hQ⟩ : ∃ Q, na N k / nc D k = Q := ⟨_, rfl⟩
        rw [hQ]
        have hQ1 := hA.out.2.2.2.1
        have hQ2 := hA.out.2.2.2.2.1
        rw [hQ] at hQ1 hQ2
        have hmm : gk = 0 → Q < 9007199254740992 := fun h => by rw [h] at hQ1; exact Nat.lt_of_lt_of_le hQ1 (by decide)
        have hQ3 : Q < 2 * 9007199254740992 := Nat.lt_of_lt_of_le hQ1 (Nat.le_trans (Nat.pow_le_pow_right (by decide) (show 53 + gk ≤ 53 + 1 by have := hA.out.1; omega)) (by decide))
        have hQ4 : k = -(1074 : Int) ∨ 4503599627370496 ≤ Q := by rcases hQ2 with h | h; exact Or.inl h; exact Or.inr (Nat.le_trans (by decide) h)
        have HQQ := Lib.hid (And.intro hQ (And.intro hmm hQ4))
        clear hr1 hb2 d0 d1 d2 hQ hQ1 hQ2 hmm hQ4
        by_cases hbig : 9007199254740992 ≤ Q
        · have hbig2 : (9007199254740992 : Int) ≤ (Q : Int) := by omega
          have HB3 := Lib.hid (And.intro hQ3 hbig)
          clear hQ3 hbig
          go_wp2_with fail
          go_roundg 0
          case measure =>
            refine Nat.pos_of_ne_zero fun h => ?_
            have h1 := HQQ.out.2.1 h; have h2 := HB3.out.2; omega
          case rel =>
            have hn := near_next N HL.out.2.2.1 k
            rw [HQQ.out.1] at hn
            have hg1 : gk ≠ 0 := fun h => by have h1 := HQQ.out.2.1 h; have h2 := HB3.out.2; omega
            refine ⟨k + 1, by go_num, ⟨by omega, by omega, by have := hA.out.2.2.1; omega, ?_, Or.inr ?_, H2.out.2.2.1, H2.out.2.2.2⟩⟩
            · have := HB3.out.1; rw [hn]; exact Nat.lt_of_lt_of_le (show Q / 2 < 9007199254740992 by omega) (by decide)
            · have := HB3.out.2; rw [hn]; exact Nat.le_trans (by decide) (show 4503599627370496 ≤ Q / 2 by omega)
        · have hbig2 : (Q : Int) < 9007199254740992 := by omega
          have hq0 : (Q : Int) / 9007199254740992 = 0 := by omega
          have hbig3 : (Q : Int) ≤ 4611686018427387904 := by omega
          have HB3 := Lib.hid hbig2
          clear hQ3 hbig hbig2
          go_wp2_with fail
          refine (rleft_walk _ (na N k % nc D k) 1 _ H2.out.1 (by decide) (by have := wlen_mono (Nat.mod_le (na N k) (nc D k)); have := HQ.out.1; omega)).mono ?_
          rintro e w3 ⟨t2, rfl, ht2, hb3⟩
          have H3 : Hid (NatAt w3 t2 (na N k % nc D k * 2 ^ 1) ∧ NatAt w3 _ (nc D k) ∧ Below BX w w3 ∧ Box64 w3 BX) := ⟨ht2, H2.out.2.1.below hb3, H2.out.2.2.1.trans (hb3.mono (by have := H2.out.2.2.1.size; have := HBX.out; omega)), H2.out.2.2.2.below hb3⟩
          clear ht2 hb3 e0 e1 e2
          go_wp2_with fail
          refine (rcompare_walk _ _ (na N k % nc D k * 2 ^ 1) (nc D k) _ H3.out.1 H3.out.2.1 (by have := wlen_left (N := na N k % nc D k) (n := 1); have := wlen_mono (Nat.mod_le (na N k) (nc D k)); have := HQ.out.1; omega) (by have := HQ.out.2.1; omega)).mono ?_
          rintro e w4 ⟨rfl, hb4⟩
          have H4 : Hid (Below BX w w4 ∧ Box64 w4 BX) := ⟨H3.out.2.2.1.trans (hb4.mono (by have := H3.out.2.2.1.size; have := HBX.out; omega)), H3.out.2.2.2.below hb4⟩
          have f0 := H4.out.2.c0
          have f1 := H4.out.2.c1
          have f2 := H4.out.2.c2
          have hrn := near_rn64 (n := N) HL.out.2.2.1 hA.out.2.1 (by rw [HQQ.out.1]; have := HB3.out; omega) (by rw [HQQ.out.1]; exact HQQ.out.2.2)
          have hrh : rhe (na N k) (nc D k) = Q + if nc D k < na N k % nc D k * 2 ^ 1 ∨ na N k % nc D k * 2 ^ 1 = nc D k ∧ Q % 2 = 1 then 1 else 0 := by
            unfold rhe; rw [HQQ.out.1, Nat.pow_one, Nat.mul_comm _ 2]
          obtain ⟨t, ht⟩ : ∃ t : Nat, (k + 1074).toNat = t := ⟨_, rfl⟩
          rw [ht] at hrn
          have hkt : k = (t : Int) - 1074 := by have := hA.out.2.1; omega
          have hQ4 := HQQ.out.2.2
          have HRN := Lib.hid (And.intro hrn (And.intro hrh (And.intro hkt hQ4)))
          clear hb4 hrn hrh hkt ht hQ4
          rcases (show nc D k < na N k % nc D k * 2 ^ 1 ∨ (na N k % nc D k * 2 ^ 1 = nc D k ∧ Q % 2 = 1) ∨ (na N k % nc D k * 2 ^ 1 = nc D k ∧ Q % 2 = 0) ∨ na N k % nc D k * 2 ^ 1 < nc D k by omega) with hcase | ⟨hcase, hodd⟩ | ⟨hcase, hodd⟩ | hcase
          case' inl =>
            have hcv := cmpV_gt hcase
            have HR : Hid (rhe (na N k) (nc D k) = Q + 1) := by rw [HRN.out.2.1, if_pos (Or.inl hcase)]; rfl
            clear hcase
          case' inr.inl =>
            have hcv : cmpV (na N k % nc D k * 2 ^ 1) (nc D k) = 0 := by rw [hcase]; exact cmpV_eq _
            have HR : Hid (rhe (na N k) (nc D k) = Q + 1) := by rw [HRN.out.2.1, if_pos (Or.inr ⟨hcase, hodd⟩)]; rfl
            have hodd2 : (Q : Int) % 2 = 1 := by omega
            clear hcase hodd
          case' inr.inr.inl =>
            have hcv : cmpV (na N k % nc D k * 2 ^ 1) (nc D k) = 0 := by rw [hcase]; exact cmpV_eq _
            have HR : Hid (rhe (na N k) (nc D k) = Q) := by rw [HRN.out.2.1, if_neg (by omega)]; rfl
            have hodd2 : (Q : Int) % 2 = 0 := by omega
            clear hcase hodd
          case' inr.inr.inr =>
            have hcv := cmpV_lt hcase
            have HR : Hid (rhe (na N k) (nc D k) = Q) := by rw [HRN.out.2.1, if_neg (by omega)]; rfl
            clear hcase
          all_goals
            generalize cmpV (na N k % nc D k * 2 ^ 1) (nc D k) = z at *
            subst hcv
          case' inl | inr.inl =>
            obtain ⟨q2, hq2⟩ : ∃ q2 : Nat, (Q : Int) + 1 = (q2 : Int) := ⟨Q + 1, by omega⟩
            have HQ2 : Hid (q2 ≤ 9007199254740992 ∧ rhe (na N k) (nc D k) = q2 ∧ q2 = Q + 1) := ⟨by have := HB3.out; omega, by rw [HR.out]; omega, by omega⟩
          case' inr.inr.inl | inr.inr.inr =>
            obtain ⟨q2, hq2⟩ : ∃ q2 : Nat, (Q : Int) = (q2 : Int) := ⟨Q, rfl⟩
            have HQ2 : Hid (q2 ≤ 9007199254740992 ∧ rhe (na N k) (nc D k) = q2 ∧ q2 = Q) := ⟨by have := HB3.out; omega, by rw [HR.out]; omega, by omega⟩
            obtain rfl : q2 = Q := by omega
            clear hq2
          all_goals
            rcases (show q2 = 9007199254740992 ∨ q2 < 9007199254740992 by have := HQ2.out.1; omega) with hf | hf
            · first
                | (exfalso; have := HB3.out; omega)
                | (have hd1 : (q2 : Int) / 9007199254740992 = 1 := by omega
                   have hd2 : (q2 : Int) / 2 = 4503599627370496 := by omega
                   have HF := Lib.hid hf
                   clear hf
                   by_cases hhi : k + 1 ≤ 971
                   · have hdd : decide ((971 : Int) < k + 1) = false := by simp; omega
                     have hdd2 : decide ((971 : Int) ≤ k) = false := by simp; omega
                     go_wp2_with fail
                     have hk := HRN.out.2.2.1
                     have h1 := HF.out
                     have h3 := HRN.out.2.2.2
                     go_ret2
                     exact ⟨t * 4503599627370496 + q2, by rw [← HQ2.out.2.1]; exact HRN.out.1, Or.inr ⟨by rw [consts64.2.1]; omega, ret_ub _ (by omega)⟩, by rw [HBX.out]; exact H4.out.1⟩
                   · first
                       | (exfalso; omega)
                       | (have hhi2 : (971 : Int) < k + 1 := by omega
                          have q0 : ∀ d os, (Sort.grow (redrawn w4 d) os).cell? ⟨BX, 0, none⟩ = some (.int .i64 53) := fun d os => cell_regrown f0 d os
                          have q1 : ∀ d os, (Sort.grow (redrawn w4 d) os).cell? ⟨BX, 1, none⟩ = some (.int .i64 (-1074)) := fun d os => cell_regrown f1 d os
                          have q2c : ∀ d os, (Sort.grow (redrawn w4 d) os).cell? ⟨BX, 2, none⟩ = some (.int .i64 971) := fun d os => cell_regrown f2 d os
                          go_wp2_with fail
                          refine wp_region_quiet_below (by kernel_rfl) (by kernel_rfl) ?_
                          repeat (quiet_step (first | (go_at_call 75; exact Calls.regrown_of (most64_walk _))))
                          refine wpQuiet_nil ?_
                          intro _ hw'
                          obtain ⟨⟨dq, osq⟩, hw''⟩ := hw'
                          subst hw''
                          have hb7 := H4.out.1.trans ((below_regrown w4 dq osq).mono (by have := H4.out.1.size; have := HBX.out; omega))
                          go_wp2_with fail
                          have hk := HRN.out.2.2.1
                          have h1 := HF.out
                          go_ret2
                          exact ⟨t * 4503599627370496 + q2, by rw [← HQ2.out.2.1]; exact HRN.out.1, Or.inl ⟨by rw [consts64.2.1]; omega, _, rfl⟩, by rw [HBX.out]; exact hb7⟩))
            · have hd1 : (q2 : Int) / 9007199254740992 = 0 := by omega
              have HF := Lib.hid hf
              have hq3 : (q2 : Int) ≤ 4611686018427387904 := by omega
              by_cases hhi : k ≤ 971
              · have hdd : decide ((971 : Int) < k) = false := by simp; omega
                by_cases hs : q2 < 4503599627370496
                · have hd3 : (q2 : Int) / 4503599627370496 = 0 := by omega
                  have HSS := Lib.hid hs
                  clear hf hs
                  go_wp2_with fail
                  have hk := HRN.out.2.2.1
                  have h1 := HF.out
                  have h2 := HSS.out
                  have h3 := HRN.out.2.2.2
                  go_ret2
                  exact ⟨t * 4503599627370496 + q2, by rw [← HQ2.out.2.1]; exact HRN.out.1, Or.inr ⟨by rw [consts64.2.1]; omega, ret_ub _ (by omega)⟩, by rw [HBX.out]; exact H4.out.1⟩
                · have hd3 : (q2 : Int) / 4503599627370496 = 1 := by omega
                  have HSS := Lib.hid hs
                  clear hf hs
                  go_wp2_with fail
                  have hk := HRN.out.2.2.1
                  have h1 := HF.out
                  go_ret2
                  exact ⟨t * 4503599627370496 + q2, by rw [← HQ2.out.2.1]; exact HRN.out.1, Or.inr ⟨by rw [consts64.2.1]; omega, ret_ub _ (by omega)⟩, by rw [HBX.out]; exact H4.out.1⟩
              · clear hf
                first
                  | (exfalso; omega)
                  | (have q0 : ∀ d os, (Sort.grow (redrawn w4 d) os).cell? ⟨BX, 0, none⟩ = some (.int .i64 53) := fun d os => cell_regrown f0 d os
                     have q1 : ∀ d os, (Sort.grow (redrawn w4 d) os).cell? ⟨BX, 1, none⟩ = some (.int .i64 (-1074)) := fun d os => cell_regrown f1 d os
                     have q2c : ∀ d os, (Sort.grow (redrawn w4 d) os).cell? ⟨BX, 2, none⟩ = some (.int .i64 971) := fun d os => cell_regrown f2 d os
                     go_wp2_with fail
                     refine wp_region_quiet_below (by kernel_rfl) (by kernel_rfl) ?_
                     repeat (quiet_step (first | (go_at_call 75; exact Calls.regrown_of (most64_walk _))))
                     refine wpQuiet_nil ?_
                     intro _ hw'
                     obtain ⟨⟨dq, osq⟩, hw''⟩ := hw'
                     subst hw''
                     have hb7 := H4.out.1.trans ((below_regrown w4 dq osq).mono (by have := H4.out.1.size; have := HBX.out; omega))
                     go_wp2_with fail
                     have hk := HRN.out.2.2.1
                     have h1 := HF.out
                     have h3 := HRN.out.2.2.2
                     go_ret2
                     exact ⟨t * 4503599627370496 + q2, by rw [← HQ2.out.2.1]; exact HRN.out.1, Or.inl ⟨by rw [consts64.2.1]; omega, _, rfl⟩, by rw [HBX.out]; exact hb7⟩)
end Go.Proofs.YtnpinogjajhlhaaGreatDoor.Fl
end
