/- A part of the proof that lexiconlaw03.NumsReads answers true at every kind and every text: NatN32. No condition. -/
import Derived.Test.YtnpinogjajhlhaaGreatDoorZ39
import Derived.Test.YtnpinogjajhlhaaGreatDoorZ40
import Derived.Test.YtnpinogjajhlhaaGreatDoorZ43
import Derived.Lib.QuietBelow
section
/- near, walked at one format: the nearest rung to a ratio. -/
namespace Go.Proofs.YtnpinogjajhlhaaGreatDoor.Fl
open Go.RowKit Ieee

theorem rleftI32_walk (v : Value) (N : Nat) (k : Int) (w : World) (hv : NatAt w v N) (h0 : 0 ≤ k) (hn : k ≤ 10000000) (hl : wlen N ≤ 1000000) :
    Calls Tryz.prog 133 #[v, .int .i64 k] w (NatPost (N * 2 ^ k.toNat) w.heap.size w) := by
  obtain ⟨n, rfl⟩ : ∃ n : Nat, k = n := ⟨k.toNat, by omega⟩
  exact rleft_walk v N n w hv (by omega) hl

/-- The form's cells in block b. -/
structure Box32 (w : World) (b : Nat) : Prop where
  c0 : w.cell? ⟨b, 0, none⟩ = some (.int .i64 24)
  c1 : w.cell? ⟨b, 1, none⟩ = some (.int .i64 (-149))
  c2 : w.cell? ⟨b, 2, none⟩ = some (.int .i64 104)

theorem Box32.below {w w' : World} {b : Nat} (h : Box32 w b) (hb : Below w.heap.size w w') : Box32 w' b := by
  have hl : b < w.heap.size := World.block_lt_of_cell? w ⟨b, 0, none⟩ h.c0
  exact ⟨(hb.cell (p := ⟨b, 0, none⟩) hl).trans h.c0, (hb.cell (p := ⟨b, 1, none⟩) hl).trans h.c1, (hb.cell (p := ⟨b, 2, none⟩) hl).trans h.c2⟩

theorem box32_new (w : World) : Box32 (w.alloc (Obj.cells #[.int .i64 24, .int .i64 (-149), .int .i64 104] 102)) w.heap.size :=
  ⟨World.cell?_alloc_at _ _ _ _ rfl, World.cell?_alloc_at _ _ _ _ rfl, World.cell?_alloc_at _ _ _ _ rfl⟩

set_option maxRecDepth 100000 in
theorem most32_walk (w : World) : Calls Tryz.prog 75 #[.agg #[.int .i64 24, .int .i64 (-149), .int .i64 104]] w (fun e w' => e = .returned (.int .i64 255) ∧ Below w.heap.size w w') := by
  go_enter Tryz.func75, Tryz.ntmps75
  go_wp2_with fail
  go_ret
  exact ⟨rfl, (Below.refl _ _).alloc (Nat.le_refl _) _⟩

theorem ret_ub' {a b : Int} (c : Bool) (h : a = b) : Ending.returned (.tuple #[.int .u64 a, .bool c]) = Ending.returned (.tuple #[.int .u64 b, .bool c]) := by rw [h]

theorem near_rn32 {n d : Nat} {k : Int} (hd : 0 < d) (hk : -(149 : Int) ≤ k) (hq : na n k / nc d k < 16777216) (hl : k = -(149 : Int) ∨ 8388608 ≤ na n k / nc d k) :
    RN Ieee.single.binade (2 ^ (149 + 1)) n d ((k + 149).toNat * 8388608 + rhe (na n k) (nc d k)) := by
  have h := near_rn (P := 24) (Lo := 149) (by decide) hd hk hq hl
  rw [consts32.1]
  exact h

def NearPost32 (N D B : Nat) (w : World) (e : Ending) (w' : World) : Prop :=
  ∃ r, RN Ieee.single.binade (2 ^ (149 + 1)) N D r ∧ ((Ieee.single.infRung ≤ r ∧ ∃ x : Nat, e = .returned (.tuple #[.int .u64 x, .bool false])) ∨ (r < Ieee.single.infRung ∧ e = .returned (.tuple #[.int .u64 r, .bool true]))) ∧ Below B w w'

set_option maxHeartbeats 4000000 in
set_option maxRecDepth 100000 in
theorem near32_walk (u v : Value) (N D : Nat) (w : World) (hu : NatAt w u N) (hv : NatAt w v D) (hD : 0 < D) (hl : wlen N ≤ 100000) (hl2 : wlen D ≤ 100000) :
    Calls Tryz.prog 105 #[u, v, slimV] w (NearPost32 N D w.heap.size w) := by
  by_cases h0 : N = 0
  · subst h0
    obtain ⟨g, n, ao, c, rfl, hg, ht, hN, hnc, hcm, hwl, hcase⟩ := hu.cells
    rw [wlen_zero] at hwl
    subst hwl
    have hbe : (((0 : Nat) : Int) == 0) = true := rfl
    clear hv hcase hN ht hu
    unfold slimV
    go_enter Tryz.func105, Tryz.ntmps105
    go_wp2_with fail
    go_ret2
    exact ⟨0, rn_zero (Nat.two_pow_pos _) (by rw [Nat.zero_mul]; exact Nat.zero_le _), Or.inr ⟨by rw [consts32.2.1]; decide, rfl⟩, (Below.refl _ _).alloc (Nat.le_refl _) _⟩
  · obtain ⟨g, n, ao, c, rfl, hg, ht, hN, hnc, hcm, hwl, hcase⟩ := hu.cells
    have hn : n ≠ 0 := fun h => h0 (by rw [← hN, h]; rfl)
    have hbe := beq_nat0 hn
    have HU := Lib.hid hu
    have HV := Lib.hid hv
    have HL := Lib.hid (And.intro hl (And.intro hl2 (And.intro hD h0)))
    have hbx : ((blen N : Nat) : Int) ≤ 3200000 := by have := blen_wlen N; omega
    have hby : ((blen D : Nat) : Int) ≤ 3200000 := by have := blen_wlen D; omega
    have HU1 : Hid (NatAt (w.alloc (Obj.cells #[.int .i64 24, .int .i64 (-149), .int .i64 104] 102)) (.slice ao n c) N) := HU.out.below ((Below.refl _ _).alloc (Nat.le_refl _) _)
    have HV1 : Hid (NatAt (w.alloc (Obj.cells #[.int .i64 24, .int .i64 (-149), .int .i64 104] 102)) v D) := HV.out.below ((Below.refl _ _).alloc (Nat.le_refl _) _)
    clear hu hv hl hl2 hD h0 hg ht hN hnc hcm hwl hcase hn
    unfold slimV
    go_enter Tryz.func105, Tryz.ntmps105
    go_wp2_with fail
    go_quiet ((go_at_call 132; first | exact Calls.quiet_of_same (rbits_walk _ _ _ HU1.out (by have := HL.out; omega)) | exact Calls.quiet_of_same (rbits_walk _ _ _ HV1.out (by have := HL.out; omega))))
    go_wp2_with fail
    obtain ⟨k0, hk0⟩ : ∃ k0 : Int, max (((blen N : Nat) : Int) - ((blen D : Nat) : Int) - 24) (-149) = k0 := ⟨_, rfl⟩
    have HS : Hid (-(149 : Int) ≤ k0 ∧ k0 ≤ 3300000 ∧ na N k0 / nc D k0 < 2 ^ (24 + 1) ∧ (k0 = -(149 : Int) ∨ 2 ^ (24 - 1) ≤ na N k0 / nc D k0)) := by
      refine Lib.hid ⟨by omega, by omega, near_hi (P := 24) HL.out.2.2.1 (by omega), ?_⟩
      by_cases h : k0 = -(149 : Int)
      · exact Or.inl h
      · exact Or.inr (near_lo (P := 24) (by decide) HL.out.2.2.2 HL.out.2.2.1 (by omega))
    rw [hk0]
    clear hk0 hbx hby
    obtain ⟨BX, hBX⟩ : ∃ BX, w.heap.size = BX := ⟨_, rfl⟩
    have HW : Hid (Below BX w (World.drewN (w.alloc (Obj.cells #[.int .i64 24, .int .i64 (-149), .int .i64 104] 102)) nq) ∧ Box32 (World.drewN (w.alloc (Obj.cells #[.int .i64 24, .int .i64 (-149), .int .i64 104] 102)) nq) BX) := by
      rw [← hBX]
      exact ⟨belowN ((Below.refl _ _).alloc (Nat.le_refl _) _) _, (box32_new w).below (belowN (Below.refl _ _) _)⟩
    rw [hBX]
    have HBX := Lib.hid hBX
    clear hBX HU1 HV1
    go_loopg [8, 9, 10, 11, 12] 1 (fun mm kv _ _ _ _ wr => ∃ k : Int, kv = .int .i64 k ∧ Aside (mm ≤ 1 ∧ -(149 : Int) ≤ k ∧ k + mm ≤ 3300002 ∧ na N k / nc D k < 2 ^ (24 + mm) ∧ (k = -(149 : Int) ∨ 2 ^ (24 - 1) ≤ na N k / nc D k) ∧ Below BX w wr ∧ Box32 wr BX))
    case atStart =>
      exact ⟨_, rfl, ⟨Nat.le_refl _, HS.out.1, by have := HS.out.2.1; omega, HS.out.2.2.1, HS.out.2.2.2, HW.out.1, HW.out.2⟩⟩
    case round =>
      obtain ⟨k, rfl, hA⟩ := hrel
      have hk1 := hA.out.2.1
      have hk2 : k ≤ 3300002 := by have := hA.out.2.2.1; omega
      have hub := hA.out.2.2.2.2.2.1
      rw [← HBX.out] at hub
      have HUr := Lib.hid (HU.out.below hub)
      have HVr := Lib.hid (HV.out.below hub)
      have c0 := hA.out.2.2.2.2.2.2.c0
      have c1 := hA.out.2.2.2.2.2.2.c1
      have c2 := hA.out.2.2.2.2.2.2.c2
      clear hub
      have hln : wlen (na N k) ≤ 900000 := by have := wlen_left (N := N) (n := (-k).toNat); have := HL.out; unfold na; omega
      have hld : wlen (nc D k) ≤ 900000 := by have := wlen_left (N := D) (n := k.toNat); have := HL.out; unfold nc; omega
      have hcp := nc_pos HL.out.2.2.1 k
      have hdv : ∀ c, c = 62 → na N k < nc D k * 2 ^ c := fun c hc => by
        rw [Nat.mul_comm]
        refine (Nat.div_lt_iff_lt_mul hcp).1 (Nat.lt_of_lt_of_le hA.out.2.2.2.1 (Nat.pow_le_pow_right (by decide) ?_))
        have := hA.out.1; omega
      have HQ := Lib.hid (And.intro hln (And.intro hld (And.intro hcp hdv)))
      clear hln hld hcp hdv
      rcases (show 0 ≤ k ∨ k < 0 by omega) with hks | hks
      case' inl =>
        have HK : Hid (na N k = N * 2 ^ 0) := by unfold na; rw [show (-k).toNat = 0 by omega]; rfl
        go_wp2_with fail
        refine (rleftI32_walk _ D k _ HVr.out (by omega) (by omega) (by have := HL.out; omega)).mono ?_
        rintro e w1 ⟨t, rfl, ht1, hb1⟩
        have H1 : Hid (NatAt w1 (.slice ao n c) (na N k) ∧ NatAt w1 t (nc D k) ∧ Below BX w w1 ∧ Box32 w1 BX) := ⟨by rw [HK.out, Nat.pow_zero, Nat.mul_one]; exact HUr.out.below hb1, ht1, hA.out.2.2.2.2.2.1.trans (hb1.mono (by have := hA.out.2.2.2.2.2.1.size; have := HBX.out; omega)), hA.out.2.2.2.2.2.2.below hb1⟩
      case' inr =>
        have HK : Hid (nc D k = D * 2 ^ 0) := by unfold nc; rw [show k.toNat = 0 by omega]; rfl
        go_wp2_with fail
        refine (rleftI32_walk _ N (-k) _ HUr.out (by omega) (by omega) (by have := HL.out; omega)).mono ?_
        rintro e w1 ⟨t, rfl, ht1, hb1⟩
        have H1 : Hid (NatAt w1 t (na N k) ∧ NatAt w1 v (nc D k) ∧ Below BX w w1 ∧ Box32 w1 BX) := ⟨ht1, by rw [HK.out, Nat.pow_zero, Nat.mul_one]; exact HVr.out.below hb1, hA.out.2.2.2.2.2.1.trans (hb1.mono (by have := hA.out.2.2.2.2.2.1.size; have := HBX.out; omega)), hA.out.2.2.2.2.2.2.below hb1⟩
      all_goals
        have d0 := H1.out.2.2.2.c0
        have d1 := H1.out.2.2.2.c1
        have d2 := H1.out.2.2.2.c2
        clear ht1 hb1 HUr HVr c0 c1 c2 HK
        go_wp2_with fail
        refine (rdivide_walk _ _ (na N k) (nc D k) _ H1.out.1 H1.out.2.1 HQ.out.2.2.1 HQ.out.2.2.2 HQ.out.1 HQ.out.2.1).mono ?_
        rintro e w2 ⟨rest, rfl, hr1, hb2⟩
        have H2 : Hid (NatAt w2 rest (na N k % nc D k) ∧ NatAt w2 _ (nc D k) ∧ Below BX w w2 ∧ Box32 w2 BX) := ⟨hr1, H1.out.2.1.below hb2, H1.out.2.2.1.trans (hb2.mono (by have := H1.out.2.2.1.size; have := HBX.out; omega)), H1.out.2.2.2.below hb2⟩
        have e0 := H2.out.2.2.2.c0
        have e1 := H2.out.2.2.2.c1
        have e2 := H2.out.2.2.2.c2
        obtain ⟨Q, hQ⟩ : ∃ Q, na N k / nc D k = Q := ⟨_, rfl⟩
        rw [hQ]
        have hQ1 := hA.out.2.2.2.1
        have hQ2 := hA.out.2.2.2.2.1
        rw [hQ] at hQ1 hQ2
        have hmm : gk = 0 → Q < 16777216 := fun h => by rw [h] at hQ1; exact Nat.lt_of_lt_of_le hQ1 (by decide)
        have hQ3 : Q < 2 * 16777216 := Nat.lt_of_lt_of_le hQ1 (Nat.le_trans (Nat.pow_le_pow_right (by decide) (show 24 + gk ≤ 24 + 1 by have := hA.out.1; omega)) (by decide))
        have hQ4 : k = -(149 : Int) ∨ 8388608 ≤ Q := by rcases hQ2 with h | h; exact Or.inl h; exact Or.inr (Nat.le_trans (by decide) h)
        have HQQ := Lib.hid (And.intro hQ (And.intro hmm hQ4))
        clear hr1 hb2 d0 d1 d2 hQ hQ1 hQ2 hmm hQ4
        by_cases hbig : 16777216 ≤ Q
        · have hbig2 : (16777216 : Int) ≤ (Q : Int) := by omega
          have HB3 := Lib.hid (And.intro hQ3 hbig)
          clear hQ3 hbig
          go_wp2_with fail
          go_roundg 0
          case measure =>
            refine Nat.pos_of_ne_zero fun h => ?_
            have h1 := HQQ.out.2.1 h; have h2 := HB3.out.2; omega
          case rel =>
            have hn := near_next N HL.out.2.2.1 k
            rw [HQQ.out.1] at hn
            have hg1 : gk ≠ 0 := fun h => by have h1 := HQQ.out.2.1 h; have h2 := HB3.out.2; omega
            refine ⟨k + 1, by go_num, ⟨by omega, by omega, by have := hA.out.2.2.1; omega, ?_, Or.inr ?_, H2.out.2.2.1, H2.out.2.2.2⟩⟩
            · have := HB3.out.1; rw [hn]; exact Nat.lt_of_lt_of_le (show Q / 2 < 16777216 by omega) (by decide)
            · have := HB3.out.2; rw [hn]; exact Nat.le_trans (by decide) (show 8388608 ≤ Q / 2 by omega)
        · have hbig2 : (Q : Int) < 16777216 := by omega
          have hq0 : (Q : Int) / 16777216 = 0 := by omega
          have hbig3 : (Q : Int) ≤ 4611686018427387904 := by omega
          have HB3 := Lib.hid hbig2
          clear hQ3 hbig hbig2
          go_wp2_with fail
          refine (rleft_walk _ (na N k % nc D k) 1 _ H2.out.1 (by decide) (by have := wlen_mono (Nat.mod_le (na N k) (nc D k)); have := HQ.out.1; omega)).mono ?_
          rintro e w3 ⟨t2, rfl, ht2, hb3⟩
          have H3 : Hid (NatAt w3 t2 (na N k % nc D k * 2 ^ 1) ∧ NatAt w3 _ (nc D k) ∧ Below BX w w3 ∧ Box32 w3 BX) := ⟨ht2, H2.out.2.1.below hb3, H2.out.2.2.1.trans (hb3.mono (by have := H2.out.2.2.1.size; have := HBX.out; omega)), H2.out.2.2.2.below hb3⟩
          clear ht2 hb3 e0 e1 e2
          go_wp2_with fail
          refine (rcompare_walk _ _ (na N k % nc D k * 2 ^ 1) (nc D k) _ H3.out.1 H3.out.2.1 (by have := wlen_left (N := na N k % nc D k) (n := 1); have := wlen_mono (Nat.mod_le (na N k) (nc D k)); have := HQ.out.1; omega) (by have := HQ.out.2.1; omega)).mono ?_
          rintro e w4 ⟨rfl, hb4⟩
          have H4 : Hid (Below BX w w4 ∧ Box32 w4 BX) := ⟨H3.out.2.2.1.trans (hb4.mono (by have := H3.out.2.2.1.size; have := HBX.out; omega)), H3.out.2.2.2.below hb4⟩
          have f0 := H4.out.2.c0
          have f1 := H4.out.2.c1
          have f2 := H4.out.2.c2
          have hrn := near_rn32 (n := N) HL.out.2.2.1 hA.out.2.1 (by rw [HQQ.out.1]; have := HB3.out; omega) (by rw [HQQ.out.1]; exact HQQ.out.2.2)
          have hrh : rhe (na N k) (nc D k) = Q + if nc D k < na N k % nc D k * 2 ^ 1 ∨ na N k % nc D k * 2 ^ 1 = nc D k ∧ Q % 2 = 1 then 1 else 0 := by
            unfold rhe; rw [HQQ.out.1, Nat.pow_one, Nat.mul_comm _ 2]
          obtain ⟨t, ht⟩ : ∃ t : Nat, (k + 149).toNat = t := ⟨_, rfl⟩
          rw [ht] at hrn
          have hkt : k = (t : Int) - 149 := by have := hA.out.2.1; omega
          have hQ4 := HQQ.out.2.2
          have HRN := Lib.hid (And.intro hrn (And.intro hrh (And.intro hkt hQ4)))
          clear hb4 hrn hrh hkt ht hQ4
          rcases (show nc D k < na N k % nc D k * 2 ^ 1 ∨ (na N k % nc D k * 2 ^ 1 = nc D k ∧ Q % 2 = 1) ∨ (na N k % nc D k * 2 ^ 1 = nc D k ∧ Q % 2 = 0) ∨ na N k % nc D k * 2 ^ 1 < nc D k by omega) with hcase | ⟨hcase, hodd⟩ | ⟨hcase, hodd⟩ | hcase
          case' inl =>
            have hcv := cmpV_gt hcase
            have HR : Hid (rhe (na N k) (nc D k) = Q + 1) := by rw [HRN.out.2.1, if_pos (Or.inl hcase)]; rfl
            clear hcase
          case' inr.inl =>
            have hcv : cmpV (na N k % nc D k * 2 ^ 1) (nc D k) = 0 := by rw [hcase]; exact cmpV_eq _
            have HR : Hid (rhe (na N k) (nc D k) = Q + 1) := by rw [HRN.out.2.1, if_pos (Or.inr ⟨hcase, hodd⟩)]; rfl
            have hodd2 : (Q : Int) % 2 = 1 := by omega
            clear hcase hodd
          case' inr.inr.inl =>
            have hcv : cmpV (na N k % nc D k * 2 ^ 1) (nc D k) = 0 := by rw [hcase]; exact cmpV_eq _
            have HR : Hid (rhe (na N k) (nc D k) = Q) := by rw [HRN.out.2.1, if_neg (by omega)]; rfl
            have hodd2 : (Q : Int) % 2 = 0 := by omega
            clear hcase hodd
          case' inr.inr.inr =>
            have hcv := cmpV_lt hcase
            have HR : Hid (rhe (na N k) (nc D k) = Q) := by rw [HRN.out.2.1, if_neg (by omega)]; rfl
            clear hcase
          all_goals
            generalize cmpV (na N k % nc D k * 2 ^ 1) (nc D k) = z at *
            subst hcv
          case' inl | inr.inl =>
            obtain ⟨q2, hq2⟩ : ∃ q2 : Nat, (Q : Int) + 1 = (q2 : Int) := ⟨Q + 1, by omega⟩
            have HQ2 : Hid (q2 ≤ 16777216 ∧ rhe (na N k) (nc D k) = q2 ∧ q2 = Q + 1) := ⟨by have := HB3.out; omega, by rw [HR.out]; omega, by omega⟩
          case' inr.inr.inl | inr.inr.inr =>
            obtain ⟨q2, hq2⟩ : ∃ q2 : Nat, (Q : Int) = (q2 : Int) := ⟨Q, rfl⟩
            have HQ2 : Hid (q2 ≤ 16777216 ∧ rhe (na N k) (nc D k) = q2 ∧ q2 = Q) := ⟨by have := HB3.out; omega, by rw [HR.out]; omega, by omega⟩
            obtain rfl : q2 = Q := by omega
            clear hq2
          all_goals
            rcases (show q2 = 16777216 ∨ q2 < 16777216 by have := HQ2.out.1; omega) with hf | hf
            · first
                | (exfalso; have := HB3.out; omega)
                | (have hd1 : (q2 : Int) / 16777216 = 1 := by omega
                   have hd2 : (q2 : Int) / 2 = 8388608 := by omega
                   have HF := Lib.hid hf
                   clear hf
                   by_cases hhi : k + 1 ≤ 104
                   · have hdd : decide ((104 : Int) < k + 1) = false := by simp; omega
                     have hdd2 : decide ((104 : Int) ≤ k) = false := by simp; omega
                     go_wp2_with fail
                     have hk := HRN.out.2.2.1
                     have h1 := HF.out
                     have h3 := HRN.out.2.2.2
                     go_ret2
                     exact ⟨t * 8388608 + q2, by rw [← HQ2.out.2.1]; exact HRN.out.1, Or.inr ⟨by rw [consts32.2.1]; omega, ret_ub' _ (by omega)⟩, by rw [HBX.out]; exact H4.out.1⟩
                   · first
                       | (exfalso; omega)
                       | (have hhi2 : (104 : Int) < k + 1 := by omega
                          have q0 : ∀ d os, (Sort.grow (redrawn w4 d) os).cell? ⟨BX, 0, none⟩ = some (.int .i64 24) := fun d os => cell_regrown f0 d os
                          have q1 : ∀ d os, (Sort.grow (redrawn w4 d) os).cell? ⟨BX, 1, none⟩ = some (.int .i64 (-149)) := fun d os => cell_regrown f1 d os
                          have q2c : ∀ d os, (Sort.grow (redrawn w4 d) os).cell? ⟨BX, 2, none⟩ = some (.int .i64 104) := fun d os => cell_regrown f2 d os
                          go_wp2_with fail
                          refine wp_region_quiet_below (by kernel_rfl) (by kernel_rfl) ?_
                          repeat (quiet_step (first | (go_at_call 75; exact Calls.regrown_of (most32_walk _))))
                          refine wpQuiet_nil ?_
                          intro _ hw'
                          obtain ⟨⟨dq, osq⟩, hw''⟩ := hw'
                          subst hw''
                          have hb7 := H4.out.1.trans ((below_regrown w4 dq osq).mono (by have := H4.out.1.size; have := HBX.out; omega))
                          go_wp2_with fail
                          have hk := HRN.out.2.2.1
                          have h1 := HF.out
                          go_ret2
                          exact ⟨t * 8388608 + q2, by rw [← HQ2.out.2.1]; exact HRN.out.1, Or.inl ⟨by rw [consts32.2.1]; omega, _, rfl⟩, by rw [HBX.out]; exact hb7⟩))
            · have hd1 : (q2 : Int) / 16777216 = 0 := by omega
              have HF := Lib.hid hf
              have hq3 : (q2 : Int) ≤ 4611686018427387904 := by omega
              by_cases hhi : k ≤ 104
              · have hdd : decide ((104 : Int) < k) = false := by simp; omega
                by_cases hs : q2 < 8388608
                · have hd3 : (q2 : Int) / 8388608 = 0 := by omega
                  have HSS := Lib.hid hs
                  clear hf hs
                  go_wp2_with fail
                  have hk := HRN.out.2.2.1
                  have h1 := HF.out
                  have h2 := HSS.out
                  have h3 := HRN.out.2.2.2
                  go_ret2
                  exact ⟨t * 8388608 + q2, by rw [← HQ2.out.2.1]; exact HRN.out.1, Or.inr ⟨by rw [consts32.2.1]; omega, ret_ub' _ (by omega)⟩, by rw [HBX.out]; exact H4.out.1⟩
                · have hd3 : (q2 : Int) / 8388608 = 1 := by omega
                  have HSS := Lib.hid hs
                  clear hf hs
                  go_wp2_with fail
                  have hk := HRN.out.2.2.1
                  have h1 := HF.out
                  go_ret2
                  exact ⟨t * 8388608 + q2, by rw [← HQ2.out.2.1]; exact HRN.out.1, Or.inr ⟨by rw [consts32.2.1]; omega, ret_ub' _ (by omega)⟩, by rw [HBX.out]; exact H4.out.1⟩
              · clear hf
                first
                  | (exfalso; omega)
                  | (have q0 : ∀ d os, (Sort.grow (redrawn w4 d) os).cell? ⟨BX, 0, none⟩ = some (.int .i64 24) := fun d os => cell_regrown f0 d os
                     have q1 : ∀ d os, (Sort.grow (redrawn w4 d) os).cell? ⟨BX, 1, none⟩ = some (.int .i64 (-149)) := fun d os => cell_regrown f1 d os
                     have q2c : ∀ d os, (Sort.grow (redrawn w4 d) os).cell? ⟨BX, 2, none⟩ = some (.int .i64 104) := fun d os => cell_regrown f2 d os
                     go_wp2_with fail
                     refine wp_region_quiet_below (by kernel_rfl) (by kernel_rfl) ?_
                     repeat (quiet_step (first | (go_at_call 75; exact Calls.regrown_of (most32_walk _))))
                     refine wpQuiet_nil ?_
                     intro _ hw'
                     obtain ⟨⟨dq, osq⟩, hw''⟩ := hw'
                     subst hw''
                     have hb7 := H4.out.1.trans ((below_regrown w4 dq osq).mono (by have := H4.out.1.size; have := HBX.out; omega))
                     go_wp2_with fail
                     have hk := HRN.out.2.2.1
                     have h1 := HF.out
                     have h3 := HRN.out.2.2.2
                     go_ret2
                     exact ⟨t * 8388608 + q2, by rw [← HQ2.out.2.1]; exact HRN.out.1, Or.inl ⟨by rw [consts32.2.1]; omega, _, rfl⟩, by rw [HBX.out]; exact hb7⟩)
end Go.Proofs.YtnpinogjajhlhaaGreatDoor.Fl
end
