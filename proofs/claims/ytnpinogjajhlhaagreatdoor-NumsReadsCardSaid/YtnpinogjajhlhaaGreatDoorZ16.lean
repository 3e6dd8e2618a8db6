/- A part of the proof that lexiconlaw03.NumsReads answers true at every kind and every text: Ex2, DwEx64, Fbit, DwPk64. No condition. -/
import Derived.Test.YtnpinogjajhlhaaGreatDoorZ06
import Derived.Test.YtnpinogjajhlhaaGreatDoorZ15
import Derived.Test.YtnpinogjajhlhaaGreatDoorProg
import Derived.Laws.FloatArith
import Derived.Deep.DeepCutAuto
import Derived.Deep.CutBlock
import Derived.Laws.Externs
import Derived.Laws.BitsAllLaws
section
/- The exact path's arithmetic: a whole number that is not above a bound, read off its rung. -/
namespace Go.Proofs.YtnpinogjajhlhaaGreatDoor.Fl
open Ieee
variable {f : Format} {Lo : Nat}

theorem Vis.num_unique {r n1 n2 : Nat} (h1 : Vis f r n1 1) (h2 : Vis f r n2 1) : n1 = n2 := by
  unfold Vis at h1 h2
  exact Nat.eq_of_mul_eq_mul_right (Nat.two_pow_pos _) (h1.symm.trans h2)

/-- Where the rung is no more than a whole number's, the number is no more than that. -/
theorem ex_bound (hf : Fit f Lo) {n E r rE : Nat} (hE : E + 1 < 2 * f.binade) (hv : Vis f rE E 1) (h : RN f.binade (2 ^ (Lo + 1)) n 1 r) (hr : r ≤ rE) : n ≤ E := by
  refine Nat.le_of_not_lt fun hlt => ?_
  obtain ⟨s, hs, hvs⟩ := vis_int hf (show 0 < E + 1 by omega) hE
  have h1 : s ≤ r := (hvs.rn hf (by omega)).mono (binade_pos f) (by omega) (by omega) h (by omega)
  have h2 : rE ≤ s := (hv.rn hf (by omega)).mono (binade_pos f) (by omega) (by omega) (hvs.rn hf (by omega)) (by omega)
  have : rE = s := by omega
  subst this
  have := hv.num_unique hvs
  omega

theorem ex_exact (hf : Fit f Lo) {n r : Nat} (h0 : 0 < n) (hn : n < 2 * f.binade) (h : RN f.binade (2 ^ (Lo + 1)) n 1 r) : r < f.infRung ∧ Vis f r n 1 := by
  obtain ⟨s, hs, hv⟩ := vis_int hf h0 hn
  have : r = s := h.unique (binade_pos f) (by omega) (by omega) (hv.rn hf (by omega)) (by omega)
  subst this
  exact ⟨hs, hv⟩

def ExOk (f : Format) (Lo M : Nat) (p : Int) (neg : Bool) (x : Nat) : Prop :=
  ∃ r, r < f.infRung ∧ x = f.word neg r ∧ RN f.binade (2 ^ (Lo + 1)) (M * 10 ^ p.toNat) (10 ^ (-p).toNat) r

/-- A whole number times a power of ten whose rung is exact. -/
theorem ex_mul (hf : Fit f Lo) {n r k rk N : Nat} (neg : Bool) (h0 : 0 < n) (hr : r < f.infRung) (hv : Vis f r n 1) (hrk : rk < f.infRung) (hvk : Vis f rk (10 ^ k) 1) (hN : n * 10 ^ k ≤ 2 ^ N) (hN2 : N + Lo + 2 < 2 ^ f.exponentBits + f.fractionBits) :
    ∃ s, s < f.infRung ∧ f.mul (f.word neg r) (f.word false rk) = some (f.word neg s) ∧ RN f.binade (2 ^ (Lo + 1)) (n * 10 ^ k) 1 s := by
  obtain ⟨s, h1, h2⟩ := mul_rn hf neg false hr hrk hv hvk h0 (Nat.pow_pos (by omega)) (by omega) (by omega)
  have h3 := rn_below hf (by omega) h2 (k := N) (by omega) hN2
  refine ⟨s, h3, ?_, by simpa using h2⟩
  rw [h1, Nat.min_eq_left (Nat.le_of_lt h3), Bool.xor_false]

theorem ex_div (hf : Fit f Lo) {n r k rk N : Nat} (neg : Bool) (h0 : 0 < n) (hr : r < f.infRung) (hv : Vis f r n 1) (hrk : rk < f.infRung) (hvk : Vis f rk (10 ^ k) 1) (hN : n ≤ 2 ^ N) (hN2 : N + Lo + 2 < 2 ^ f.exponentBits + f.fractionBits) :
    ∃ s, s < f.infRung ∧ f.div (f.word neg r) (f.word false rk) = some (f.word neg s) ∧ RN f.binade (2 ^ (Lo + 1)) n (10 ^ k) s := by
  obtain ⟨s, h1, h2⟩ := div_rn hf neg false hr hrk hv hvk h0 (Nat.pow_pos (by omega)) (by omega)
  have h4 : 0 < 10 ^ k := Nat.pow_pos (by omega)
  have h3 := rn_below hf (by omega) h2 (k := N) (by rw [Nat.mul_one, Nat.one_mul]; exact Nat.le_trans hN (Nat.le_mul_of_pos_right _ h4)) hN2
  refine ⟨s, h3, ?_, by simpa using h2⟩
  rw [h1, Nat.min_eq_left (Nat.le_of_lt h3), Bool.xor_false]

end Go.Proofs.YtnpinogjajhlhaaGreatDoor.Fl
end
section
/- atof64exact, walked: what it gives as exact is the nearest rung. -/
namespace Go.Proofs.YtnpinogjajhlhaaGreatDoor.Fl
open Go.RowKit

@[go_sem] theorem unary_neg_f64 (b : Nat) : Op.unary .neg (.float .f64 b) = pure (.float .f64 (Op.negFloat .f64 b)) := rfl

def f64tab : List Nat := [4607182418800017408, 4621819117588971520, 4636737291354636288, 4652007308841189376, 4666723172467343360, 4681608360884174848, 4696837146684686336, 4711630319722168320, 4726483295884279808, 4741671816366391296, 4756540486875873280, 4771362005757984768, 4786511204640096256, 4801453603149578240, 4816244402031689728, 4831355200913801216, 4846369599423283200, 4861130398305394688, 4876203697187506176, 4891288408196988160, 4906019910204099648, 4921056587992461136, 4936209963552724370]

def F64At (w : World) (B : Nat) : Prop :=
  14 < B ∧ ∃ pb po, pb < B ∧ w.cell? ⟨14, 0, none⟩ = some (.slice (some ⟨pb, po, none⟩) 23 23) ∧ ∀ k, k < 23 → w.cell? ⟨pb, po + k, none⟩ = some (.float .f64 (f64tab.getD k 0))

theorem F64At.below {w w' : World} {B : Nat} (h : F64At w B) (hb : Below B w w') : F64At w' B := by
  obtain ⟨h0, pb, po, h1, h2, h3⟩ := h
  exact ⟨h0, pb, po, h1, (hb.cell (p := ⟨_, 0, none⟩) h0).trans h2, fun k hk => (hb.cell (p := ⟨pb, _, none⟩) h1).trans (h3 k hk)⟩

theorem f64vis : ∀ k, k < 23 → f64tab.getD k 0 < Ieee.double.infRung ∧ Vis Ieee.double (f64tab.getD k 0) (10 ^ k) 1 := by decide +kernel

def Ex64Post (M : Nat) (p : Int) (neg : Bool) (w : World) (e : Ending) (w' : World) : Prop :=
  ∃ x ok, e = .returned (.tuple #[.float .f64 x, .bool ok]) ∧ w' = w ∧ (ok = true → ExOk Ieee.double 1074 M p neg x)

set_option maxRecDepth 100000 in
theorem exact64_walk (M : Nat) (p : Int) (neg : Bool) (w : World) (B : Nat) (hi : InfoAt w 9 B 52 11 (-1023)) (hp : F64At w B) (hM0 : 0 < M) :
    Calls Tryz.prog 177 #[.int .u64 M, .int .i64 p, .bool neg] w (Ex64Post M p neg w) := by
  obtain ⟨h0, i0, i1, i2⟩ := hi
  obtain ⟨t0, pb, po, t1, t2, t3⟩ := hp
  have H3 := Lib.hid t3
  clear t3 i1 i2
  by_cases hM : M < 4503599627370496
  · have hd : ((M : Int) / 4503599627370496 != 0) = false := by
      have : (M : Int) / 4503599627370496 = 0 := Int.ediv_eq_zero_of_lt (by omega) (by omega)
      rw [this]; rfl
    obtain ⟨r0, hr0, hv0, hn0⟩ := nearest_vis fit64 (n := M) false hM0 (show M < 2 * 4503599627370496 by omega)
    have hfo : floatOfInt .f64 (M : Int) = Ieee.double.word false r0 := by
      rw [← hn0]; unfold floatOfInt FloatKind.nearest FloatKind.encode; rw [decide_eq_false (by omega)]; rfl
    obtain ⟨z, hz⟩ : ∃ z, Ieee.double.word neg r0 = z := ⟨_, rfl⟩
    have AS : Hid (0 < M ∧ M < 4503599627370496 ∧ r0 < Ieee.double.infRung ∧ Vis Ieee.double r0 M 1 ∧ floatOfInt .f64 (M : Int) = Ieee.double.word false r0 ∧ Ieee.double.word neg r0 = z) := ⟨hM0, hM, hr0, hv0, hfo, hz⟩
    clear hr0 hv0 hn0 hz hfo hM hM0
    go_enter Tryz.func177, Tryz.ntmps177
    go_upto_if 15 with (fail)
    go_cut [6] (fun f wd => f = .float .f64 z ∧ wd = w)
    case first =>
      go_wp2_with fail
      · rename_i hneg
        go_meet
        refine ⟨congrArg (Value.float .f64) ?_, rfl⟩
        have h := AS.out; rw [hneg] at h
        rw [← h.2.2.2.2.2, h.2.2.2.2.1]
        exact neg_word h.2.2.1
      · rename_i hneg
        go_meet
        exact ⟨congrArg (Value.float .f64) (by have h := AS.out; rw [hneg] at h; exact h.2.2.2.2.1.trans h.2.2.2.2.2), rfl⟩
    case rest =>
      obtain ⟨rfl, rfl⟩ := hcut
      by_cases hp0 : p = 0
      · subst hp0
        go_wp2_with fail
        go_ret2
        obtain ⟨a1, a2, a3, a4, a5, a6⟩ := AS.out
        exact ⟨_, _, rfl, rfl, fun _ => ⟨r0, a3, a6.symm, by show RN _ _ (M * 10 ^ 0) (10 ^ 0) r0; rw [Nat.pow_zero, Nat.mul_one]; exact a4.rn fit64 (by omega)⟩⟩
      · have hpb : (p == 0) = false := by rw [beq_eq_false_iff_ne]; exact hp0
        clear hp0
        by_cases hp1 : 0 < p
        · by_cases hp2 : p ≤ 37
          · by_cases hp3 : 22 < p
            · have hc := H3.out (p - 22).toNat (by omega)
              have hc2 := H3.out (22 : Int).toNat (by decide)
              obtain ⟨a1, a2, a3, a4, a5, a6⟩ := AS.out
              obtain ⟨b1, b2⟩ := f64vis (p - 22).toNat (by omega)
              obtain ⟨c1, c2⟩ := f64vis 22 (by decide)
              obtain ⟨d1, d2⟩ := f64vis 15 (by decide)
              have hN1 : M * 10 ^ (p - 22).toNat ≤ 2 ^ 104 := by
                have e1 : 10 ^ (p - 22).toNat ≤ 10 ^ 15 := Nat.pow_le_pow_right (by omega) (by omega)
                have e2 : 4503599627370496 * 10 ^ 15 ≤ 2 ^ 104 := by decide
                exact Nat.le_trans (Nat.mul_le_mul (Nat.le_of_lt a2) e1) e2
              obtain ⟨r1, e1, e2, e3⟩ := ex_mul fit64 neg a1 a3 a4 b1 b2 hN1 (by decide)
              obtain ⟨c, hcc⟩ : ∃ c, f64tab.getD (p - 22).toNat 0 = c := ⟨_, rfl⟩
              obtain ⟨y, hy⟩ : ∃ y, Ieee.double.word neg r1 = y := ⟨_, rfl⟩
              have hm1 : ∀ t w, (binOp .mul t (.float .f64 z) (.float .f64 c)).run Tryz.prog w = .ok (.float .f64 y) w := fun t w => run_float_arith w .mul t .f64 z c y (by rw [← hcc, ← hy, ← a6]; exact e2)
              rw [hcc] at hc
              have hg : r1 ≤ f64tab.getD 15 0 → ∃ s, s < Ieee.double.infRung ∧ Ieee.double.mul y (f64tab.getD 22 0) = some (Ieee.double.word neg s) ∧ RN Ieee.double.binade (2 ^ (1074 + 1)) (M * 10 ^ p.toNat) 1 s := by
                intro hle
                have hb := ex_bound fit64 (by decide +kernel) d2 e3 hle
                have hpos : 0 < M * 10 ^ (p - 22).toNat := Nat.mul_pos a1 (Nat.pow_pos (by omega))
                obtain ⟨g1, g2⟩ := ex_exact fit64 hpos (Nat.lt_of_le_of_lt hb (by decide +kernel)) e3
                have hN2 : M * 10 ^ (p - 22).toNat * 10 ^ 22 ≤ 2 ^ 126 := Nat.le_trans (Nat.mul_le_mul_right _ hb) (by decide +kernel)
                obtain ⟨s, s1, s2, s3⟩ := ex_mul fit64 neg hpos g1 g2 c1 c2 hN2 (by decide)
                refine ⟨s, s1, by rw [← hy]; exact s2, ?_⟩
                rw [Nat.mul_assoc, ← Nat.pow_add, show (p - 22).toNat + 22 = p.toNat by omega] at s3
                exact s3
              have hgt : ¬ r1 ≤ f64tab.getD 15 0 → (neg = false → Ieee.double.order y 4831355200913801216 = some .gt) ∧ (neg = true → Ieee.double.order y 14054727237768577024 = some .lt) := by
                intro hle
                have ho := order_gt fit64 e1 d1 (by omega)
                refine ⟨fun h => ?_, fun h => ?_⟩
                · rw [← hy, h]; exact ho.1
                · rw [← hy, h]; exact ho.2
              have HG := Lib.hid hg
              have HT := Lib.hid hgt
              obtain ⟨c22, hcc2⟩ : ∃ c, f64tab.getD 22 0 = c := ⟨_, rfl⟩
              have hc3 : wc.cell? ⟨pb, po + 22, none⟩ = some (.float .f64 c22) := by rw [← hcc2]; exact hc2
              have hcc2 := Lib.hid hcc2
              clear a1 a2 a3 a4 a5 a6 b1 b2 c1 c2 d1 d2 hN1 e1 e2 e3 hcc hy hg hgt hc2
              go_wp2_with fail
              · go_ret2
                exact ⟨_, _, rfl, rfl, fun h => by cases h⟩
              · go_ret2
                exact ⟨_, _, rfl, rfl, fun h => by cases h⟩
              · have hn1 : ¬ FloatKind.f64.format.order y 4831355200913801216 = some Ordering.gt := by assumption
                have hn2 : ¬ FloatKind.f64.format.order y 14054727237768577024 = some Ordering.lt := by
                  have h := (by assumption : (FloatKind.f64.format.order y 4831355200913801216 == some Ordering.gt) = false ∧ (FloatKind.f64.format.order y 14054727237768577024 == some Ordering.lt) = false)
                  intro e
                  rw [e] at h
                  exact absurd h.2 (by decide)
                have hle : r1 ≤ f64tab.getD 15 0 := by
                  refine Decidable.of_not_not fun hc => ?_
                  have h := HT.out hc
                  cases neg with
                  | false => exact hn1 (h.1 rfl)
                  | true => exact hn2 (h.2 rfl)
                obtain ⟨s, s1, s2, s3⟩ := HG.out hle
                obtain ⟨x, hx⟩ : ∃ x, Ieee.double.word neg s = x := ⟨_, rfl⟩
                have hm2 : ∀ t w, (binOp .mul t (.float .f64 y) (.float .f64 c22)).run Tryz.prog w = .ok (.float .f64 x) w := fun t w => run_float_arith w .mul t .f64 y _ x (by rw [← hx, ← hcc2.out]; exact s2)
                have HR : Hid (ExOk Ieee.double 1074 M p neg x) := ⟨s, s1, hx.symm, by rw [show (-p).toNat = 0 by omega, Nat.pow_zero]; exact s3⟩
                clear s1 s2 s3 hx hle
                rw [hm2]
                go_wp2_with fail
                go_ret2
                exact ⟨_, _, rfl, rfl, fun _ => HR.out⟩
            · have hc := H3.out p.toNat (by omega)
              obtain ⟨a1, a2, a3, a4, a5, a6⟩ := AS.out
              obtain ⟨b1, b2⟩ := f64vis p.toNat (by omega)
              have hN1 : M * 10 ^ p.toNat ≤ 2 ^ 126 := by
                have e1 : 10 ^ p.toNat ≤ 10 ^ 22 := Nat.pow_le_pow_right (by omega) (by omega)
                have e2 : 4503599627370496 * 10 ^ 22 ≤ 2 ^ 126 := by decide
                exact Nat.le_trans (Nat.mul_le_mul (Nat.le_of_lt a2) e1) e2
              obtain ⟨r1, e1, e2, e3⟩ := ex_mul fit64 neg a1 a3 a4 b1 b2 hN1 (by decide)
              obtain ⟨c, hcc⟩ : ∃ c, f64tab.getD p.toNat 0 = c := ⟨_, rfl⟩
              obtain ⟨y, hy⟩ : ∃ y, Ieee.double.word neg r1 = y := ⟨_, rfl⟩
              have hm1 : ∀ t w, (binOp .mul t (.float .f64 z) (.float .f64 c)).run Tryz.prog w = .ok (.float .f64 y) w := fun t w => run_float_arith w .mul t .f64 z c y (by rw [← hcc, ← hy, ← a6]; exact e2)
              rw [hcc] at hc
              have HR : Hid (ExOk Ieee.double 1074 M p neg y) := ⟨r1, e1, hy.symm, by rw [show (-p).toNat = 0 by omega, Nat.pow_zero]; exact e3⟩
              clear a1 a2 a3 a4 a5 a6 b1 b2 hN1 e1 e2 e3 hcc hy
              go_wp2_with fail
              · go_ret2
                exact ⟨_, _, rfl, rfl, fun h => by cases h⟩
              · go_ret2
                exact ⟨_, _, rfl, rfl, fun h => by cases h⟩
              · go_ret2
                exact ⟨_, _, rfl, rfl, fun _ => HR.out⟩
          · go_wp2_with fail
            go_ret2
            exact ⟨_, _, rfl, rfl, fun h => by cases h⟩
        · have hp1' : p < 0 := by have := hpb; rw [beq_eq_false_iff_ne] at this; omega
          by_cases hp2 : -22 ≤ p
          · have hc := H3.out (-p).toNat (by omega)
            obtain ⟨a1, a2, a3, a4, a5, a6⟩ := AS.out
            obtain ⟨b1, b2⟩ := f64vis (-p).toNat (by omega)
            obtain ⟨r1, e1, e2, e3⟩ := ex_div (N := 53) fit64 neg a1 a3 a4 b1 b2 (Nat.le_trans (Nat.le_of_lt a2) (by decide)) (by decide)
            obtain ⟨c, hcc⟩ : ∃ c, f64tab.getD (-p).toNat 0 = c := ⟨_, rfl⟩
            obtain ⟨y, hy⟩ : ∃ y, Ieee.double.word neg r1 = y := ⟨_, rfl⟩
            have hm1 : ∀ t w, (binOp .quo t (.float .f64 z) (.float .f64 c)).run Tryz.prog w = .ok (.float .f64 y) w := fun t w => run_float_arith w .quo t .f64 z c y (by rw [← hcc, ← hy, ← a6]; exact e2)
            rw [hcc] at hc
            have HR : Hid (ExOk Ieee.double 1074 M p neg y) := ⟨r1, e1, hy.symm, by rw [show p.toNat = 0 by omega, Nat.pow_zero, Nat.mul_one]; exact e3⟩
            clear a1 a2 a3 a4 a5 a6 b1 b2 e1 e2 e3 hcc hy
            go_wp2_with fail
            go_ret2
            exact ⟨_, _, rfl, rfl, fun _ => HR.out⟩
          · go_wp2_with fail
            go_ret2
            exact ⟨_, _, rfl, rfl, fun h => by cases h⟩
  · have hd : ((M : Int) / 4503599627370496 != 0) = true := by
      have : ¬ (M : Int) / 4503599627370496 = 0 := by omega
      simp [this]
    clear hM
    go_enter Tryz.func177, Tryz.ntmps177
    go_wp2_with fail
    go_ret2
    exact ⟨_, _, rfl, rfl, fun h => by cases h⟩
end Go.Proofs.YtnpinogjajhlhaaGreatDoor.Fl
end
section
/- Floats as bits and back: the model's own entries. -/
namespace Go.Proofs.YtnpinogjajhlhaaGreatDoor.Fl

/-- The error of a number beyond the range. -/
def errRange : Value := .iface 137 (.int .i64 1)

theorem sfrom64 (n : Int) (w : World) : (callFunc 176 #[.int .u64 n]).run Tryz.prog w = .ok (.value (.float .f64 n.toNat)) w :=
  (run_callFunc_extern (e := Extern.MathFloatBits.float64frombits) Tryz.func176 (by kernel_rfl) (by kernel_rfl) (by kernel_rfl) (by kernel_rfl) _ w).trans rfl
theorem sfrom32 (n : Int) (w : World) : (callFunc 170 #[.int .u32 n]).run Tryz.prog w = .ok (.value (.float .f32 n.toNat)) w :=
  (run_callFunc_extern (e := Extern.MathFloatBits.float32frombits) Tryz.func170 (by kernel_rfl) (by kernel_rfl) (by kernel_rfl) (by kernel_rfl) _ w).trans rfl
theorem sbits64 (n : Nat) (w : World) : (callFunc 155 #[.float .f64 n]).run Tryz.prog w = .ok (.value (.int .u64 n)) w :=
  (run_callFunc_extern (e := Extern.MathFloatBits.float64bits) Tryz.func155 (by kernel_rfl) (by kernel_rfl) (by kernel_rfl) (by kernel_rfl) _ w).trans rfl
theorem sbits32 (n : Nat) (w : World) : (callFunc 154 #[.float .f32 n]).run Tryz.prog w = .ok (.value (.int .u32 n)) w :=
  (run_callFunc_extern (e := Extern.MathFloatBits.float32bits) Tryz.func154 (by kernel_rfl) (by kernel_rfl) (by kernel_rfl) (by kernel_rfl) _ w).trans rfl
theorem mfrom64 (n : Int) (w : World) : (callFunc 40 #[.int .u64 n]).run Tryz.prog w = .ok (.value (.float .f64 n.toNat)) w :=
  (run_callFunc_extern (e := Extern.MathFloatBits.float64frombits) Tryz.func40 (by kernel_rfl) (by kernel_rfl) (by kernel_rfl) (by kernel_rfl) _ w).trans rfl
theorem mfrom32 (n : Int) (w : World) : (callFunc 39 #[.int .u32 n]).run Tryz.prog w = .ok (.value (.float .f32 n.toNat)) w :=
  (run_callFunc_extern (e := Extern.MathFloatBits.float32frombits) Tryz.func39 (by kernel_rfl) (by kernel_rfl) (by kernel_rfl) (by kernel_rfl) _ w).trans rfl
theorem mbits64 (n : Nat) (w : World) : (callFunc 43 #[.float .f64 n]).run Tryz.prog w = .ok (.value (.int .u64 n)) w :=
  (run_callFunc_extern (e := Extern.MathFloatBits.float64bits) Tryz.func43 (by kernel_rfl) (by kernel_rfl) (by kernel_rfl) (by kernel_rfl) _ w).trans rfl
theorem mbits32 (n : Nat) (w : World) : (callFunc 44 #[.float .f32 n]).run Tryz.prog w = .ok (.value (.int .u32 n)) w :=
  (run_callFunc_extern (e := Extern.MathFloatBits.float32bits) Tryz.func44 (by kernel_rfl) (by kernel_rfl) (by kernel_rfl) (by kernel_rfl) _ w).trans rfl
end Go.Proofs.YtnpinogjajhlhaaGreatDoor.Fl
end
section
/- pack64, walked: a sign, a whole number of at most 53 bits and its power of two, as a float. -/
namespace Go.Proofs.YtnpinogjajhlhaaGreatDoor.Fl
open Go.RowKit

theorem lo_and64 {lo m : Nat} (h : lo < 4503599627370496) : lo &&& m = lo &&& (m % 4503599627370496) := by
  have e : lo = lo &&& 4503599627370495 := by have := Nat.and_two_pow_sub_one_eq_mod lo 52; rw [Nat.mod_eq_of_lt h] at this; exact this.symm
  have e2 : 4503599627370495 &&& m = m % 4503599627370496 := by rw [Nat.and_comm]; exact Nat.and_two_pow_sub_one_eq_mod m 52
  rw [e, Nat.and_assoc, Nat.and_assoc, e2]
  congr 1
  rw [Nat.and_comm]
  exact (Nat.and_two_pow_sub_one_eq_mod (m % 4503599627370496) 52).trans (Nat.mod_mod _ _) |>.symm

theorem split64 {lo : Nat} (h : lo < 4503599627370496) (s t : Bool) : s.toNat * 9223372036854775808 + (t.toNat * 4503599627370496 + lo) = (s.toNat * 9223372036854775808) ||| ((t.toNat * 4503599627370496) ||| lo) := by
  have h1 := Nat.two_pow_add_eq_or_of_lt (i := 52) h t.toNat
  have h2 := Nat.two_pow_add_eq_or_of_lt (i := 63) (b := t.toNat * 4503599627370496 + lo) (by cases t <;> simp <;> omega) s.toNat
  rw [show 2 ^ 52 * t.toNat = t.toNat * 4503599627370496 by rw [Nat.mul_comm]] at h1
  rw [show 2 ^ 63 * s.toNat = s.toNat * 9223372036854775808 by rw [Nat.mul_comm]] at h2
  rw [h2, h1]

theorem and_bit64 {lo : Nat} (h : lo < 4503599627370496) (s t : Bool) : bits .and .u64 ((s.toNat * 9223372036854775808 + (t.toNat * 4503599627370496 + lo) : Nat) : Int) 4503599627370496 = ((t.toNat * 4503599627370496 : Nat) : Int) := by
  have hl : s.toNat * 9223372036854775808 + (t.toNat * 4503599627370496 + lo) < 2 ^ 64 := by cases s <;> cases t <;> simp [Bool.toNat] <;> omega
  have e := (bits_nat .u64 64 (by decide) (fun n h0 h1 => IntWalk.u64_in n ⟨h0, by omega⟩) _ 4503599627370496 hl (by decide)).1
  refine e.trans ?_
  rw [split64 h, Nat.and_or_distrib_right, Nat.and_or_distrib_right, lo_and64 h]
  cases s <;> cases t <;> simp

theorem and_top64 {lo : Nat} (h : lo < 4503599627370496) (s t : Bool) : bits .and .u64 ((s.toNat * 9223372036854775808 + (t.toNat * 4503599627370496 + lo) : Nat) : Int) 9223372036854775808 = ((s.toNat * 9223372036854775808 : Nat) : Int) := by
  have hl : s.toNat * 9223372036854775808 + (t.toNat * 4503599627370496 + lo) < 2 ^ 64 := by cases s <;> cases t <;> simp [Bool.toNat] <;> omega
  have e := (bits_nat .u64 64 (by decide) (fun n h0 h1 => IntWalk.u64_in n ⟨h0, by omega⟩) _ 9223372036854775808 hl (by decide)).1
  refine e.trans ?_
  rw [split64 h, Nat.and_or_distrib_right, Nat.and_or_distrib_right, lo_and64 h]
  cases s <;> cases t <;> simp

theorem andNot_bit64 {lo : Nat} (h : lo < 4503599627370496) (s t : Bool) : bits .andNot .u64 ((s.toNat * 9223372036854775808 + (t.toNat * 4503599627370496 + lo) : Nat) : Int) 4503599627370496 = ((s.toNat * 9223372036854775808 + lo : Nat) : Int) := by
  have hl : s.toNat * 9223372036854775808 + (t.toNat * 4503599627370496 + lo) < 2 ^ 64 := by cases s <;> cases t <;> simp [Bool.toNat] <;> omega
  have e := u64_andNot_nat (s.toNat * 9223372036854775808 + (t.toNat * 4503599627370496 + lo)) 4503599627370496 hl (by decide)
  refine e.trans ?_
  have h0 := split64 h s false
  simp only [Bool.toNat_false, Nat.zero_mul, Nat.zero_add, Nat.zero_or] at h0
  rw [h0, split64 h, Nat.and_or_distrib_right, Nat.and_or_distrib_right, lo_and64 h]
  have h1 := Nat.and_two_pow_sub_one_eq_mod lo 52
  rw [Nat.mod_eq_of_lt h] at h1
  cases s <;> cases t <;> simp [h1]

def pkr64 (q : Nat) (e : Int) : Nat := if q < 4503599627370496 then q else (e + 1074).toNat * 4503599627370496 + q

def Pk64Post (neg : Bool) (r : Nat) (w : World) (e : Ending) (w' : World) : Prop :=
  e = .returned (.tuple #[.float .f64 (Ieee.double.word neg (min r Ieee.double.infRung)), if Ieee.double.infRung ≤ r then errRange else .nilIface]) ∧ ∃ k, w' = w.drewN k

theorem pk_lt64 {e : Int} {lo : Nat} (h : lo < 4503599627370496) (he : e < 972) (he1 : -1074 ≤ e) : (e + 1074).toNat * 4503599627370496 + (4503599627370496 + lo) < 9218868437227405312 := by
  obtain ⟨k, hk⟩ : ∃ k : Nat, e + 1074 = k := ⟨(e + 1074).toNat, by omega⟩
  rw [hk, Int.toNat_natCast]
  have : k + 1 ≤ 2047 - 1 := by omega
  have := Nat.mul_le_mul_right 4503599627370496 this
  omega

theorem pk_ge64 {e : Int} {lo : Nat} (he : 972 ≤ e) : 9218868437227405312 ≤ (e + 1074).toNat * 4503599627370496 + (4503599627370496 + lo) := by
  obtain ⟨k, hk⟩ : ∃ k : Nat, e + 1074 = k := ⟨(e + 1074).toNat, by omega⟩
  rw [hk, Int.toNat_natCast]
  have : 2047 - 1 ≤ k := by omega
  have := Nat.mul_le_mul_right 4503599627370496 this
  omega

/-- The exponent's field. -/
theorem pk_field64 {e : Int} (he : e < 972) (he1 : -1074 ≤ e) : ∃ E : Nat, 1075 + e = E ∧ E * 4503599627370496 < 9218868437227405312 ∧ ∀ lo, (e + 1074).toNat * 4503599627370496 + (4503599627370496 + lo) = 4503599627370496 * E + lo := by
  obtain ⟨k, hk⟩ : ∃ k : Nat, e + 1074 = k := ⟨(e + 1074).toNat, by omega⟩
  refine ⟨k + 1, by omega, ?_, fun lo => ?_⟩
  · have : k + 1 ≤ 2047 - 1 := by omega
    have := Nat.mul_le_mul_right 4503599627370496 this
    omega
  · rw [hk, Int.toNat_natCast]; omega

set_option maxRecDepth 100000 in
theorem pk_ef64 {e : Int} {E : Nat} (hE : 1075 + e = E) : (1075 + e) * 4503599627370496 = ((E * 4503599627370496 : Nat) : Int) := by
  rw [hE]; exact (Int.natCast_mul E 4503599627370496).symm

set_option maxRecDepth 100000 in
theorem pk_or64 {E lo : Nat} (hl : lo < 4503599627370496) (hE2 : E * 4503599627370496 + lo < 9218868437227405312) (neg : Bool) : bits .or .u64 ((neg.toNat * 9223372036854775808 + lo : Nat) : Int) ((E * 4503599627370496 : Nat) : Int) = ((neg.toNat * 9223372036854775808 + (4503599627370496 * E + lo) : Nat) : Int) := by
  have h5 : neg.toNat * 9223372036854775808 + lo < 18446744073709551616 := by
    have : neg.toNat ≤ 1 := by cases neg <;> decide
    clear hE2
    omega
  have h6 : E * 4503599627370496 < 18446744073709551616 := Nat.lt_of_le_of_lt (Nat.le_add_right _ lo) (Nat.lt_trans hE2 (by decide))
  have h7 : 4503599627370496 * E + lo < 2 ^ 63 := by rw [Nat.mul_comm]; exact Nat.lt_trans hE2 (by decide)
  have h1 := Nat.two_pow_add_eq_or_of_lt (i := 52) hl E
  have h2 := Nat.two_pow_add_eq_or_of_lt (i := 63) (b := 4503599627370496 * E + lo) h7 neg.toNat
  have h4 := Nat.two_pow_add_eq_or_of_lt (i := 63) (b := lo) (Nat.lt_trans hl (by decide)) neg.toNat
  rw [show 2 ^ 63 * neg.toNat = neg.toNat * 9223372036854775808 by rw [Nat.mul_comm]] at h2 h4
  rw [show 2 ^ 52 * E = 4503599627370496 * E from rfl] at h1
  have h3 := (bits_nat .u64 64 (by decide) (fun n h0 h1 => IntWalk.u64_in n ⟨h0, by omega⟩) (neg.toNat * 9223372036854775808 + lo) (E * 4503599627370496) h5 h6).2
  rw [h3, h2, h1, h4, Nat.mul_comm E, Nat.or_assoc, Nat.or_comm lo]

theorem pk_inf64 (neg : Bool) : bits .or .u64 ((neg.toNat * 9223372036854775808 : Nat) : Int) 9218868437227405312 = ((neg.toNat * 9223372036854775808 + 9218868437227405312 : Nat) : Int) := by cases neg <;> decide +kernel

set_option maxHeartbeats 1000000 in
set_option maxRecDepth 100000 in
theorem pack64_walk (neg : Bool) (q : Nat) (hq : q < 9007199254740992) (e : Int) (he1 : -1074 ≤ e) (he2 : e ≤ 5000) (w : World) :
    Calls Tryz.prog 202 #[.int .u64 (neg.toNat * 9223372036854775808 + q : Nat), .int .i64 e] w (Pk64Post neg (pkr64 q e) w) := by
  have hI : Ieee.double.infRung = 9218868437227405312 := consts64.2.1
  have hS : Ieee.double.signWeight = 9223372036854775808 := consts64.2.2
  have hword : ∀ x : Nat, Ieee.double.word neg x = neg.toNat * 9223372036854775808 + x := fun x => by
    unfold Ieee.Format.word; rw [hS]; cases neg <;> simp
  unfold Pk64Post
  rw [hI]
  by_cases h : q < 4503599627370496
  · have b1 := and_bit64 h neg false
    simp only [Bool.toNat_false, Nat.zero_mul, Nat.zero_add] at b1
    have hr : pkr64 q e = q := by unfold pkr64; rw [if_pos h]
    rw [hr, Nat.min_eq_left (by omega), if_neg (by omega), hword]
    obtain ⟨m, hm⟩ : ∃ m, neg.toNat * 9223372036854775808 + q = m := ⟨_, rfl⟩
    rw [hm] at b1 ⊢
    have b2 : (bits .and .u64 (m : Int) 4503599627370496 == 0) = true := by rw [b1]; rfl
    have hf := fun w => sfrom64 (m : Int) w
    clear b1 hm hword hS hI hr h
    go_enter Tryz.func202, Tryz.ntmps202
    go_wp2_with fail
    go_ret2
    exact ⟨rfl, 0, rfl⟩
  · obtain ⟨lo, hlo⟩ : ∃ lo, q = 4503599627370496 + lo := ⟨q - 4503599627370496, by omega⟩
    have hl : lo < 4503599627370496 := by omega
    subst hlo
    have hr : pkr64 (4503599627370496 + lo) e = (e + 1074).toNat * 4503599627370496 + (4503599627370496 + lo) := by unfold pkr64; rw [if_neg (by omega)]
    have b1 := and_bit64 hl neg true
    have b3 := and_top64 hl neg true
    have b4 := andNot_bit64 hl neg true
    simp only [Bool.toNat_true, Nat.one_mul] at b1 b3 b4
    rw [hr, hword]
    have hw64 : neg.toNat * 9223372036854775808 + (4503599627370496 + lo) < 18446744073709551616 := by cases neg <;> simp <;> omega
    obtain ⟨m, hm⟩ : ∃ m, neg.toNat * 9223372036854775808 + (4503599627370496 + lo) = m := ⟨_, rfl⟩
    rw [hm] at b1 b3 b4 ⊢
    have b2 : (bits .and .u64 (m : Int) 4503599627370496 == 0) = false := by rw [b1]; rfl
    by_cases hlim : 972 ≤ e
    · have hge := pk_ge64 (lo := lo) hlim
      rw [Nat.min_eq_right hge, if_pos hge]
      have b5 : bits .or .u64 (bits .and .u64 (m : Int) 9223372036854775808) 9218868437227405312 = ((neg.toNat * 9223372036854775808 + 9218868437227405312 : Nat) : Int) := by rw [b3]; exact pk_inf64 neg
      have hf : ∀ w, (callFunc 176 #[.int .u64 (bits .or .u64 (bits .and .u64 (m : Int) 9223372036854775808) 9218868437227405312)]).run Tryz.prog w = .ok (.value (.float .f64 (neg.toNat * 9223372036854775808 + 9218868437227405312))) w := fun w => by rw [b5]; exact sfrom64 _ w
      obtain ⟨x, hx⟩ : ∃ x, neg.toNat * 9223372036854775808 + 9218868437227405312 = x := ⟨_, rfl⟩
      rw [hx] at hf ⊢
      clear b1 b3 b4 b5 hm hword hS hI hr h hl hx hw64 hge
      go_enter Tryz.func202, Tryz.ntmps202
      go_wp2_with fail
      go_ret2
      exact ⟨rfl, 0, rfl⟩
    · have hlim' : e < 972 := Int.not_le.1 hlim
      have hlt := pk_lt64 hl hlim' he1
      rw [Nat.min_eq_left (Nat.le_of_lt hlt), if_neg (Nat.not_le.2 hlt)]
      obtain ⟨E, hE, hE2, hE3⟩ := pk_field64 hlim' he1
      rw [hE3 lo] at hlt ⊢
      have hef : (1075 + e) * 4503599627370496 = ((E * 4503599627370496 : Nat) : Int) := pk_ef64 hE
      have hlt2 : E * 4503599627370496 + lo < 9218868437227405312 := by rw [Nat.mul_comm]; exact hlt
      have b5 : bits .or .u64 (bits .andNot .u64 (m : Int) 4503599627370496) ((1075 + e) * 4503599627370496) = ((neg.toNat * 9223372036854775808 + (4503599627370496 * E + lo) : Nat) : Int) := by
        rw [b4, hef]; exact pk_or64 hl hlt2 neg
      have hf : ∀ w, (callFunc 176 #[.int .u64 (bits .or .u64 (bits .andNot .u64 (m : Int) 4503599627370496) ((1075 + e) * 4503599627370496))]).run Tryz.prog w = .ok (.value (.float .f64 (neg.toNat * 9223372036854775808 + (4503599627370496 * E + lo)))) w := fun w => by rw [b5]; exact sfrom64 _ w
      obtain ⟨x, hx⟩ : ∃ x, neg.toNat * 9223372036854775808 + (4503599627370496 * E + lo) = x := ⟨_, rfl⟩
      rw [hx] at hf ⊢
      have HE : Hid (1075 + e = E ∧ E * 4503599627370496 < 9218868437227405312) := ⟨hE, hE2⟩
      clear b1 b3 b4 b5 hm hword hS hI hr h hl hx hw64 hlt hE2 hlim hE hE3 hef hlt2
      go_enter Tryz.func202, Tryz.ntmps202
      go_wp2_with fail
      go_ret2
      exact ⟨rfl, 0, rfl⟩
end Go.Proofs.YtnpinogjajhlhaaGreatDoor.Fl
end
