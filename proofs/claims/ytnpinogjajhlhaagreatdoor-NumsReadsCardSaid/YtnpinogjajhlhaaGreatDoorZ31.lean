/- A part of the proof that lexiconlaw03.NumsReads answers true at every kind and every text: WkFf, Sh2, WkFlo, WkFew. No condition. -/
import Derived.Test.YtnpinogjajhlhaaGreatDoorZ30
import Derived.Test.YtnpinogjajhlhaaGreatDoorProg
import Derived.Test.YtnpinogjajhlhaaGreatDoorZ25
import Derived.Laws.IdiomStrings
import Derived.Shelf.Strings.Replace
import Derived.BigQuiet
import Derived.Lib.AtoiErrMem
import Derived.Lib.AppendIntMem
section
/- FormatFloat at the three numbers of the closed head, walked (printed by wip/wkff.py). -/
namespace Go.Proofs.YtnpinogjajhlhaaGreatDoor.Fl
open Go.RowKit Go.Lib

theorem own24_string {w : World} {g n : Nat} {l : List Nat} (hn : l.length = n) (h : Own24 w g n l) (m : List UInt8) (hm : m.map (fun x => x.toNat) = l) :
    (convert 93 9 (.slice (some ⟨g, 0, none⟩) n 24)).run Tryz.prog w = .ok (.string ⟨m.toArray⟩) w := by
  subst hm
  rw [List.length_map] at hn
  subst hn
  refine run_convert_bytes_back w 93 9 5 ⟨g, 0, none⟩ 24 m Tryz.underlying93 Tryz.underlying5 Tryz.underlying9 (fun j hj => ?_)
  refine World.ownsRow.cells h rfl j _ ?_
  rw [List.getElem?_map, List.getElem?_map, List.getElem?_eq_getElem hj]
  rfl

def StrEnd (s : ByteArray) (B : Nat) (w : World) (e : Ending) (w' : World) : Prop := e = .returned (.string s) ∧ Below B w w'

set_option maxHeartbeats 1000000 in
set_option maxRecDepth 100000 in
theorem ffa_walk (B : Nat) (w : World) (hB : B ≤ w.heap.size) (hP : PowAt w B) (hL : LibAt w B) :
    Calls Tryz.prog 113 #[.float .f64 4591870180066957722, .int .u8 101, .int .i64 (-1), .int .i64 64] w (StrEnd ⟨#[49, 101, 45, 48, 49]⟩ B w) := by
  have HP := Lib.hid hP
  have HL := Lib.hid hL
  obtain ⟨i0, hi, hz0, hz1, hz2⟩ := info_parts u8info
  clear hP hL
  go_enter Tryz.func113, Tryz.ntmps113
  go_wp2_with (first | (at_make; refine wpList_make_own _ rfl _ _ 93 rfl 0 5 i0 (.int .u8 0) 1 Tryz.underlying93 hi hz0 hz1 .i64 .i64 _ 24 rfl rfl (by decide) (by rw [hz2]; decide) (by decide) (Nat.zero_le _) ?_; intro w1 hown1 hgrow1))
  have hb1 : Below B w w1 := (Below.refl B w).grown hgrow1 hB (fun k hk => by cases hk)
  have hg1 : w.heap.size < w1.heap.size := (World.ownsRow.lt hown1 _ rfl).2
  have hown2 : Own24 w1 w.heap.size 0 [] := hown1
  clear hi hz0 hz1 hz2 hown1 hgrow1
  refine (fta_walk _ B w1 hown2 hB hg1 (HP.out.below hb1) (HL.out.below hb1)).mono ?_
  rintro e w2 ⟨rfl, ho2, hb2⟩
  have hcv := own24_string (n := 5) rfl ho2 [49, 101, 45, 48, 49] rfl
  have HB := Lib.hid (hb1.trans hb2)
  clear ho2 hb2 hb1 hg1 hown2
  go_wp2_with fail
  go_ret
  exact ⟨rfl, HB.out⟩

set_option maxHeartbeats 1000000 in
set_option maxRecDepth 100000 in
theorem ffb_walk (B : Nat) (w : World) (hB : B ≤ w.heap.size) (hP : PowAt w B) (hL : LibAt w B) :
    Calls Tryz.prog 113 #[.float .f64 4591870180174331904, .int .u8 101, .int .i64 (-1), .int .i64 32] w (StrEnd ⟨#[49, 101, 45, 48, 49]⟩ B w) := by
  have HP := Lib.hid hP
  have HL := Lib.hid hL
  obtain ⟨i0, hi, hz0, hz1, hz2⟩ := info_parts u8info
  clear hP hL
  have hcf : ∀ w, (convert 58 59 (.float .f64 4591870180174331904)).run Tryz.prog w = .ok (.float .f32 1036831949) w := fun w => run_convert_float_float w 58 59 .f64 .f32 _ _ (by kernel_rfl) (by kernel_rfl) (by decide +kernel)
  go_enter Tryz.func113, Tryz.ntmps113
  go_wp2_with (first | (at_make; refine wpList_make_own _ rfl _ _ 93 rfl 0 5 i0 (.int .u8 0) 1 Tryz.underlying93 hi hz0 hz1 .i64 .i64 _ 24 rfl rfl (by decide) (by rw [hz2]; decide) (by decide) (Nat.zero_le _) ?_; intro w1 hown1 hgrow1))
  have hb1 : Below B w w1 := (Below.refl B w).grown hgrow1 hB (fun k hk => by cases hk)
  have hg1 : w.heap.size < w1.heap.size := (World.ownsRow.lt hown1 _ rfl).2
  have hown2 : Own24 w1 w.heap.size 0 [] := hown1
  clear hi hz0 hz1 hz2 hown1 hgrow1
  refine (ftb_walk _ B w1 hown2 hB hg1 (HP.out.below hb1) (HL.out.below hb1)).mono ?_
  rintro e w2 ⟨rfl, ho2, hb2⟩
  have hcv := own24_string (n := 5) rfl ho2 [49, 101, 45, 48, 49] rfl
  have HB := Lib.hid (hb1.trans hb2)
  clear ho2 hb2 hb1 hg1 hown2
  go_wp2_with fail
  go_ret
  exact ⟨rfl, HB.out⟩

set_option maxHeartbeats 1000000 in
set_option maxRecDepth 100000 in
theorem ffc_walk (B : Nat) (w : World) (hB : B ≤ w.heap.size) (hP : PowAt w B) (hL : LibAt w B) :
    Calls Tryz.prog 113 #[.float .f64 1, .int .u8 101, .int .i64 (-1), .int .i64 64] w (StrEnd ⟨#[53, 101, 45, 51, 50, 52]⟩ B w) := by
  have HP := Lib.hid hP
  have HL := Lib.hid hL
  obtain ⟨i0, hi, hz0, hz1, hz2⟩ := info_parts u8info
  clear hP hL
  go_enter Tryz.func113, Tryz.ntmps113
  go_wp2_with (first | (at_make; refine wpList_make_own _ rfl _ _ 93 rfl 0 5 i0 (.int .u8 0) 1 Tryz.underlying93 hi hz0 hz1 .i64 .i64 _ 24 rfl rfl (by decide) (by rw [hz2]; decide) (by decide) (Nat.zero_le _) ?_; intro w1 hown1 hgrow1))
  have hb1 : Below B w w1 := (Below.refl B w).grown hgrow1 hB (fun k hk => by cases hk)
  have hg1 : w.heap.size < w1.heap.size := (World.ownsRow.lt hown1 _ rfl).2
  have hown2 : Own24 w1 w.heap.size 0 [] := hown1
  clear hi hz0 hz1 hz2 hown1 hgrow1
  refine (ftc_walk _ B w1 hown2 hB hg1 (HP.out.below hb1) (HL.out.below hb1)).mono ?_
  rintro e w2 ⟨rfl, ho2, hb2⟩
  have hcv := own24_string (n := 6) rfl ho2 [53, 101, 45, 51, 50, 52] rfl
  have HB := Lib.hid (hb1.trans hb2)
  clear ho2 hb2 hb1 hg1 hown2
  go_wp2_with fail
  go_ret
  exact ⟨rfl, HB.out⟩
end Go.Proofs.YtnpinogjajhlhaaGreatDoor.Fl
end
section
/- A contract of the library's, as the kit's program laid it. -/
namespace Go.Proofs
open Go.Shelf
def Tryz.lays154_ren : Go.Shelf.Ren := ⟨fun | 154 => 83 | 138 => 114 | 165 => 66 | 143 => 115 | 166 => 67 | 197 => 95 | 169 => 69 | 195 => 143 | 218 => 144 | 240 => 100 | 241 => 101 | 219 => 94 | 260 => 127 | 276 => 129 | 277 => 130 | 217 => 124 | 225 => 92 | 224 => 91 | 267 => 126 | 266 => 149 | 314 => 150 | n => n, fun | 9 => 9 | 3 => 3 | 4 => 4 | 72 => 95 | 0 => 0 | 76 => 85 | 105 => 114 | 21 => 21 | 5 => 5 | 70 => 92 | 20 => 20 | 37 => 93 | 75 => 72 | 127 => 121 | 164 => 145 | 46 => 63 | 119 => 166 | 139 => 169 | 138 => 168 | 146 => 117 | 51 => 33 | 80 => 98 | n => n, fun | 1 => 1 | 3 => 5 | 4 => 6 | n => n⟩
theorem Tryz.lays154 : Go.Proofs.Lays.n154 Tryz.prog Tryz.lays154_ren := {
  mixed := by kernel_rfl
  f138 := Tryz.func114.trans (congrArg some (by kernel_rfl))
  f143 := Tryz.func115.trans (congrArg some (by kernel_rfl))
  f154 := Tryz.func83.trans (congrArg some (by kernel_rfl))
  f165 := Tryz.func66.trans (congrArg some (by kernel_rfl))
  f166 := Tryz.func67.trans (congrArg some (by kernel_rfl))
  f169 := Tryz.func69.trans (congrArg some (by kernel_rfl))
  f195 := Tryz.func143.trans (congrArg some (by kernel_rfl))
  f197 := Tryz.func95.trans (congrArg some (by kernel_rfl))
  f217 := Tryz.func124.trans (congrArg some (by kernel_rfl))
  f218 := Tryz.func144.trans (congrArg some (by kernel_rfl))
  f219 := Tryz.func94.trans (congrArg some (by kernel_rfl))
  f224 := Tryz.func91.trans (congrArg some (by kernel_rfl))
  f225 := Tryz.func92.trans (congrArg some (by kernel_rfl))
  f240 := Tryz.func100.trans (congrArg some (by kernel_rfl))
  f241 := Tryz.func101.trans (congrArg some (by kernel_rfl))
  f260 := Tryz.func127.trans (congrArg some (by kernel_rfl))
  f266 := Tryz.func149.trans (congrArg some (by kernel_rfl))
  f267 := Tryz.func126.trans (congrArg some (by kernel_rfl))
  f276 := Tryz.func129.trans (congrArg some (by kernel_rfl))
  f277 := Tryz.func130.trans (congrArg some (by kernel_rfl))
  f314 := Tryz.func150.trans (congrArg some (by kernel_rfl))
  t0 := Tryz.underlying0
  a0 := Tryz.isAgg0
  z0 := Tryz.sizeOf0
  v0 := Tryz.zeroValue0
  t3 := Tryz.underlying3
  a3 := Tryz.isAgg3
  z3 := Tryz.sizeOf3
  v3 := Tryz.zeroValue3
  t4 := Tryz.underlying4
  a4 := Tryz.isAgg4
  z4 := Tryz.sizeOf4
  v4 := Tryz.zeroValue4
  t5 := Tryz.underlying5
  a5 := Tryz.isAgg5
  z5 := Tryz.sizeOf5
  v5 := Tryz.zeroValue5
  t9 := Tryz.underlying9
  a9 := Tryz.isAgg9
  z9 := Tryz.sizeOf9
  v9 := Tryz.zeroValue9
  t20 := Tryz.underlying20
  a20 := Tryz.isAgg20
  z20 := Tryz.sizeOf20
  v20 := Tryz.zeroValue20
  t21 := Tryz.underlying21
  a21 := Tryz.isAgg21
  z21 := Tryz.sizeOf21
  v21 := Tryz.zeroValue21
  t37 := Tryz.underlying93
  a37 := Tryz.isAgg93
  z37 := Tryz.sizeOf93
  v37 := Tryz.zeroValue93
  t46 := Tryz.underlying63
  a46 := Tryz.isAgg63
  z46 := Tryz.sizeOf63
  v46 := Tryz.zeroValue63
  t51 := Tryz.underlying33
  a51 := Tryz.isAgg33
  z51 := Tryz.sizeOf33
  v51 := Tryz.zeroValue33
  t70 := Tryz.underlying92
  a70 := Tryz.isAgg92
  z70 := Tryz.sizeOf92
  v70 := Tryz.zeroValue92
  t72 := Tryz.underlying95
  a72 := Tryz.isAgg95
  z72 := Tryz.sizeOf95
  v72 := Tryz.zeroValue95
  t75 := Tryz.underlying72
  a75 := Tryz.isAgg72
  z75 := Tryz.sizeOf72
  v75 := Tryz.zeroValue72
  t76 := Tryz.underlying85
  a76 := Tryz.isAgg85
  z76 := Tryz.sizeOf85
  v76 := Tryz.zeroValue85
  t105 := Tryz.underlying114
  a105 := Tryz.isAgg114
  z105 := Tryz.sizeOf114
  v105 := Tryz.zeroValue114
  t119 := Tryz.underlying166
  a119 := Tryz.isAgg166
  z119 := Tryz.sizeOf166
  t127 := Tryz.underlying121
  a127 := Tryz.isAgg121
  z127 := Tryz.sizeOf121
  v127 := Tryz.zeroValue121
  t138 := Tryz.underlying168
  a138 := Tryz.isAgg168
  z138 := Tryz.sizeOf168
  v138 := Tryz.zeroValue168
  t139 := Tryz.underlying169
  a139 := Tryz.isAgg169
  z139 := Tryz.sizeOf169
  v139 := Tryz.zeroValue169
  t146 := Tryz.underlying117
  a146 := Tryz.isAgg117
  z146 := Tryz.sizeOf117
  v146 := Tryz.zeroValue117
  t164 := Tryz.underlying145
  a164 := Tryz.isAgg145
  z164 := Tryz.sizeOf145
  v164 := Tryz.zeroValue145
  g1 := by kernel_rfl
  g3 := by kernel_rfl
  g4 := by kernel_rfl }
open Go.RowKit Go.Lib in
/-- 'if m := Count(s, old); m == 0 { return s }'. (LAID: no walk: one application.) -/
theorem Tryz.strings_Replace_absent (s old new : ByteArray) (n : Int) (m : Int) (w : World) (hs : s.size < 4294967281) (hm : w.cell? ⟨1, 0, none⟩ = some (.int .i64 m)) (h1 : 1 ≤ old.size) (hne : old ≠ new) (hn0 : n ≠ 0) (hc0 : Lib.countB s old = 0) :
    Calls Tryz.prog 83 #[.string s, .string old, .string new, .int .i64 n] w fun e w' => e = .returned (.string s) ∧ w' = w := Any.strings_Replace_absent Tryz.lays154 s old new n m w hs hm h1 hne hn0 hc0
end Go.Proofs
end
section
/- floating at the three numbers of the closed head, walked (printed by wip/wkflo.py). -/
namespace Go.Proofs.YtnpinogjajhlhaaGreatDoor.Fl
open Go.RowKit Go.Lib

theorem cutk (s sep a b : ByteArray) (t : Bool) (h : Lib.cut s.data.toList sep.data.toList = (a.data.toList, b.data.toList, t)) (B : Nat) (w : World) (hs : s.size < 4294967281) (hL : LibAt w B) :
    Calls Tryz.prog 24 #[.string s, .string sep] w fun e w' => e = .returned (.tuple #[.string a, .string b, .bool t]) ∧ ∃ n, w' = w.drewN n := by
  obtain ⟨m, hm⟩ := hL.len.2
  have := Tryz.strings_Cut s sep m w hs hm
  rw [h] at this
  exact this

theorem atoik (s : ByteArray) (v : Int) (h : Lib.atoiAll s.data.toList = .ok v) (hs : s.size ≤ 1000) (B : Nat) (w : World) (hB : B ≤ w.heap.size) :
    Calls Tryz.prog 57 #[.string s] w fun e w' => e = .returned (.tuple #[.int .i64 v, .nilIface]) ∧ Below B w w' := by
  refine (Tryz.strconv_Atoi_ok s (by omega) v h w).mono ?_
  rintro e w' ⟨rfl, h | ⟨t, h⟩⟩
  · exact ⟨rfl, h ▸ Below.refl B w⟩
  · exact ⟨rfl, by rw [h]; exact (Go.Lib.bytesWorld_below w _ _).mono hB⟩

set_option maxHeartbeats 1000000 in
set_option maxRecDepth 100000 in
theorem floa_walk (B : Nat) (w : World) (hB : B ≤ w.heap.size) (hP : PowAt w B) (hL : LibAt w B) :
    Calls Tryz.prog 38 #[.float .f64 4591870180066957722, .int .i64 64] w (StrEnd ⟨#[48, 46, 49]⟩ B w) := by
  have HP := Lib.hid hP
  have HL := Lib.hid hL
  have c1 : FloatKind.f64.format.order 4591870180066957722 4591870180066957722 = some .eq := by decide +kernel
  have c2 : FloatKind.f64.format.order 4591870180066957722 9218868437227405311 = some .lt := by decide +kernel
  have c3 : FloatKind.f64.format.order 4591870180066957722 0 = some .gt := by decide +kernel
  have c4 : FloatKind.f64.format.order (Op.negFloat FloatKind.f64 4591870180066957722) 9218868437227405311 = some .lt := by decide +kernel
  clear hP hL
  go_enter Tryz.func38, Tryz.ntmps38
  go_wp2_with (first
    | (go_at_call 79; go_in) | (go_at_call 80; go_in) | (go_at_call 81; go_in)
    | (go_at_call 113; refine (ffa_walk B _ hB HP.out HL.out).mono ?_; rintro e w1 ⟨rfl, hb1⟩; have HB1 : Hid (Below B w w1 ∧ B ≤ w1.heap.size) := ⟨hb1, Nat.le_trans hB hb1.size⟩; clear hb1)
    | (go_at_call 24; refine (cutk _ _ ⟨#[49]⟩ ⟨#[45, 48, 49]⟩ true (by decide +kernel) B _ (by decide) (HL.out.below HB1.out.1)).mono ?_; rintro e w2 ⟨rfl, n2, rfl⟩)
    | (go_at_call 57; refine (atoik _ (-1) (by decide +kernel) (by decide) B _ (Nat.le_trans HB1.out.2 (belowN (Below.refl B w1) n2).size)).mono ?_; rintro e w3 ⟨rfl, hb3⟩; have HB3 : Hid (Below B w w3 ∧ B ≤ w3.heap.size) := ⟨(belowN HB1.out.1 n2).trans hb3, Nat.le_trans (Nat.le_trans HB1.out.2 (belowN (Below.refl B w1) n2).size) hb3.size⟩; clear hb3)
    | (go_at_call 83; refine (Tryz.strings_Replace_absent _ _ _ _ (HL.out.below HB3.out.1).len.2.choose _ (by decide) (HL.out.below HB3.out.1).len.2.choose_spec (by decide) (by decide) (by decide) (by decide +kernel)).mono ?_; rintro e w4 ⟨rfl, rfl⟩)
    | (go_at_call 82; go_in)
    | (go_at_call 27; refine (Tryz.strings_Repeat _ 0 _ (by omega) (by decide)).mono ?_; rintro e w5 ⟨rfl, hb5⟩; have HB5 : Hid (Below B w w5) := HB3.out.1.trans (hb5.mono HB3.out.2); clear hb5))
  go_ret
  refine ⟨?_, by first | exact HB5.out | (rw [← hw5]; exact HB5.out)⟩
  exact congrArg (fun s => Ending.returned (Value.string s)) (by kernel_rfl)

set_option maxHeartbeats 1000000 in
set_option maxRecDepth 100000 in
theorem flob_walk (B : Nat) (w : World) (hB : B ≤ w.heap.size) (hP : PowAt w B) (hL : LibAt w B) :
    Calls Tryz.prog 38 #[.float .f64 4591870180174331904, .int .i64 32] w (StrEnd ⟨#[48, 46, 49]⟩ B w) := by
  have HP := Lib.hid hP
  have HL := Lib.hid hL
  have c1 : FloatKind.f64.format.order 4591870180174331904 4591870180174331904 = some .eq := by decide +kernel
  have c2 : FloatKind.f64.format.order 4591870180174331904 9218868437227405311 = some .lt := by decide +kernel
  have c3 : FloatKind.f64.format.order 4591870180174331904 0 = some .gt := by decide +kernel
  have c4 : FloatKind.f64.format.order (Op.negFloat FloatKind.f64 4591870180174331904) 9218868437227405311 = some .lt := by decide +kernel
  clear hP hL
  go_enter Tryz.func38, Tryz.ntmps38
  go_wp2_with (first
    | (go_at_call 79; go_in) | (go_at_call 80; go_in) | (go_at_call 81; go_in)
    | (go_at_call 113; refine (ffb_walk B _ hB HP.out HL.out).mono ?_; rintro e w1 ⟨rfl, hb1⟩; have HB1 : Hid (Below B w w1 ∧ B ≤ w1.heap.size) := ⟨hb1, Nat.le_trans hB hb1.size⟩; clear hb1)
    | (go_at_call 24; refine (cutk _ _ ⟨#[49]⟩ ⟨#[45, 48, 49]⟩ true (by decide +kernel) B _ (by decide) (HL.out.below HB1.out.1)).mono ?_; rintro e w2 ⟨rfl, n2, rfl⟩)
    | (go_at_call 57; refine (atoik _ (-1) (by decide +kernel) (by decide) B _ (Nat.le_trans HB1.out.2 (belowN (Below.refl B w1) n2).size)).mono ?_; rintro e w3 ⟨rfl, hb3⟩; have HB3 : Hid (Below B w w3 ∧ B ≤ w3.heap.size) := ⟨(belowN HB1.out.1 n2).trans hb3, Nat.le_trans (Nat.le_trans HB1.out.2 (belowN (Below.refl B w1) n2).size) hb3.size⟩; clear hb3)
    | (go_at_call 83; refine (Tryz.strings_Replace_absent _ _ _ _ (HL.out.below HB3.out.1).len.2.choose _ (by decide) (HL.out.below HB3.out.1).len.2.choose_spec (by decide) (by decide) (by decide) (by decide +kernel)).mono ?_; rintro e w4 ⟨rfl, rfl⟩)
    | (go_at_call 82; go_in)
    | (go_at_call 27; refine (Tryz.strings_Repeat _ 0 _ (by omega) (by decide)).mono ?_; rintro e w5 ⟨rfl, hb5⟩; have HB5 : Hid (Below B w w5) := HB3.out.1.trans (hb5.mono HB3.out.2); clear hb5))
  go_ret
  refine ⟨?_, by first | exact HB5.out | (rw [← hw5]; exact HB5.out)⟩
  exact congrArg (fun s => Ending.returned (Value.string s)) (by kernel_rfl)

set_option maxHeartbeats 1000000 in
set_option maxRecDepth 100000 in
theorem floc_walk (B : Nat) (w : World) (hB : B ≤ w.heap.size) (hP : PowAt w B) (hL : LibAt w B) :
    Calls Tryz.prog 38 #[.float .f64 1, .int .i64 64] w (StrEnd ⟨#[53, 101, 45, 51, 50, 52]⟩ B w) := by
  have HP := Lib.hid hP
  have HL := Lib.hid hL
  have c1 : FloatKind.f64.format.order 1 1 = some .eq := by decide +kernel
  have c2 : FloatKind.f64.format.order 1 9218868437227405311 = some .lt := by decide +kernel
  have c3 : FloatKind.f64.format.order 1 0 = some .gt := by decide +kernel
  have c4 : FloatKind.f64.format.order (Op.negFloat FloatKind.f64 1) 9218868437227405311 = some .lt := by decide +kernel
  clear hP hL
  go_enter Tryz.func38, Tryz.ntmps38
  go_wp2_with (first
    | (go_at_call 79; go_in) | (go_at_call 80; go_in) | (go_at_call 81; go_in)
    | (go_at_call 113; refine (ffc_walk B _ hB HP.out HL.out).mono ?_; rintro e w1 ⟨rfl, hb1⟩; have HB1 : Hid (Below B w w1 ∧ B ≤ w1.heap.size) := ⟨hb1, Nat.le_trans hB hb1.size⟩; clear hb1)
    | (go_at_call 24; refine (cutk _ _ ⟨#[53]⟩ ⟨#[45, 51, 50, 52]⟩ true (by decide +kernel) B _ (by decide) (HL.out.below HB1.out.1)).mono ?_; rintro e w2 ⟨rfl, n2, rfl⟩)
    | (go_at_call 57; refine (atoik _ (-324) (by decide +kernel) (by decide) B _ (Nat.le_trans HB1.out.2 (belowN (Below.refl B w1) n2).size)).mono ?_; rintro e w3 ⟨rfl, hb3⟩; have HB3 : Hid (Below B w w3 ∧ B ≤ w3.heap.size) := ⟨(belowN HB1.out.1 n2).trans hb3, Nat.le_trans (Nat.le_trans HB1.out.2 (belowN (Below.refl B w1) n2).size) hb3.size⟩; clear hb3)
    | (go_at_call 83; refine (Tryz.strings_Replace_absent _ _ _ _ (HL.out.below HB3.out.1).len.2.choose _ (by decide) (HL.out.below HB3.out.1).len.2.choose_spec (by decide) (by decide) (by decide) (by decide +kernel)).mono ?_; rintro e w4 ⟨rfl, rfl⟩)
    | (go_at_call 82; go_in)
    | (go_at_call 87; refine (Tryz.strconv_Itoa 324 (by omega) (by omega) _ (HL.out.below HB3.out.1).tab).mono ?_; rw [show Lib.itoa 324 = [51, 50, 52] by decide +kernel]; rintro e w5 ⟨rfl, k5, os5, hw5⟩; have HB5 : Hid (Below B w w5) := by rw [hw5]; exact HB3.out.1.trans (below_grow B _ HB3.out.2 k5 os5)))
  go_ret
  refine ⟨?_, by first | exact HB5.out | (rw [← hw5]; exact HB5.out)⟩
  exact congrArg (fun s => Ending.returned (Value.string s)) (by kernel_rfl)
end Go.Proofs.YtnpinogjajhlhaaGreatDoor.Fl
end
section
/- Show, Narrow, Widen, Cut, Fits, Compare at the numbers of the closed head, walked (printed by wip/wkfew.py). -/
namespace Go.Proofs.YtnpinogjajhlhaaGreatDoor.Fl
open Go.RowKit Go.Lib

set_option maxHeartbeats 1000000 in
set_option maxRecDepth 100000 in
theorem showa_walk (B : Nat) (w : World) (hB : B ≤ w.heap.size) (hP : PowAt w B) (hL : LibAt w B) :
    Calls Tryz.prog 11 #[.int .u8 1, .int .u64 4591870180066957722] w (StrEnd ⟨#[48, 46, 49]⟩ B w) := by
  have HP := Lib.hid hP
  have HL := Lib.hid hL
  have hf : ∀ w, (callFunc 40 #[.int .u64 4591870180066957722]).run Tryz.prog w = .ok (.value (.float .f64 4591870180066957722)) w := fun w => mfrom64 4591870180066957722 w
  clear hP hL
  go_enter Tryz.func11, Tryz.ntmps11
  go_wp2_with (first
    | (go_at_call 15; go_in) | (go_at_call 17; go_in)
    | (go_at_call 38; refine (floa_walk B _ hB HP.out HL.out).mono ?_; rintro e w1 ⟨rfl, hb1⟩))
  go_ret
  exact ⟨rfl, hb1⟩

set_option maxHeartbeats 1000000 in
set_option maxRecDepth 100000 in
theorem showb_walk (B : Nat) (w : World) (hB : B ≤ w.heap.size) (hP : PowAt w B) (hL : LibAt w B) :
    Calls Tryz.prog 11 #[.int .u8 2, .int .u64 1036831949] w (StrEnd ⟨#[48, 46, 49]⟩ B w) := by
  have HP := Lib.hid hP
  have HL := Lib.hid hL
  have hf : ∀ w, (callFunc 39 #[.int .u32 1036831949]).run Tryz.prog w = .ok (.value (.float .f32 1036831949)) w := fun w => mfrom32 1036831949 w
  have hcv : ∀ w, (convert 59 58 (.float .f32 1036831949)).run Tryz.prog w = .ok (.float .f64 4591870180174331904) w := fun w => run_convert_float_float w 59 58 .f32 .f64 _ _ (by kernel_rfl) (by kernel_rfl) (by decide +kernel)
  clear hP hL
  go_enter Tryz.func11, Tryz.ntmps11
  go_wp2_with (first
    | (go_at_call 15; go_in) | (go_at_call 17; go_in)
    | (go_at_call 38; refine (flob_walk B _ hB HP.out HL.out).mono ?_; rintro e w1 ⟨rfl, hb1⟩))
  go_ret
  exact ⟨rfl, hb1⟩

set_option maxHeartbeats 1000000 in
set_option maxRecDepth 100000 in
theorem showc_walk (B : Nat) (w : World) (hB : B ≤ w.heap.size) (hP : PowAt w B) (hL : LibAt w B) :
    Calls Tryz.prog 11 #[.int .u8 1, .int .u64 1] w (StrEnd ⟨#[53, 101, 45, 51, 50, 52]⟩ B w) := by
  have HP := Lib.hid hP
  have HL := Lib.hid hL
  have hf : ∀ w, (callFunc 40 #[.int .u64 1]).run Tryz.prog w = .ok (.value (.float .f64 1)) w := fun w => mfrom64 1 w
  clear hP hL
  go_enter Tryz.func11, Tryz.ntmps11
  go_wp2_with (first
    | (go_at_call 15; go_in) | (go_at_call 17; go_in)
    | (go_at_call 38; refine (floc_walk B _ hB HP.out HL.out).mono ?_; rintro e w1 ⟨rfl, hb1⟩))
  go_ret
  exact ⟨rfl, hb1⟩

set_option maxHeartbeats 1000000 in
set_option maxRecDepth 100000 in
theorem narrow_k (w : World) : Calls Tryz.prog 12 #[.int .u8 17, .int .u64 4294967295] w fun e w' => e = .returned (.int .u64 18446744071562067968) ∧ w' = w := by
  have a1 : bits BinOp.and IntKind.u64 4294967295 4294967295 = 4294967295 := by decide +kernel
  have a2 : bits BinOp.and IntKind.u64 4294967295 1 = 1 := by decide +kernel
  have a3 : bits BinOp.xor IntKind.i64 2147483647 (-1) = -2147483648 := by decide +kernel
  go_enter Tryz.func12, Tryz.ntmps12
  go_wp2_with (first | (go_at_call 42; go_in))
  go_ret
  exact ⟨rfl, rfl⟩

set_option maxHeartbeats 1000000 in
set_option maxRecDepth 100000 in
theorem widen_k (w : World) : Calls Tryz.prog 13 #[.int .u32 1036831949] w fun e w' => e = .returned (.int .u64 4591870180174331904) ∧ w' = w := by
  have hf : ∀ w, (callFunc 39 #[.int .u32 1036831949]).run Tryz.prog w = .ok (.value (.float .f32 1036831949)) w := fun w => mfrom32 1036831949 w
  have hcv : ∀ w, (convert 59 58 (.float .f32 1036831949)).run Tryz.prog w = .ok (.float .f64 4591870180174331904) w := fun w => run_convert_float_float w 59 58 .f32 .f64 _ _ (by kernel_rfl) (by kernel_rfl) (by decide +kernel)
  have hg : ∀ w, (callFunc 43 #[.float .f64 4591870180174331904]).run Tryz.prog w = .ok (.value (.int .u64 4591870180174331904)) w := fun w => mbits64 4591870180174331904 w
  have c1 : FloatKind.f32.format.order 1036831949 1036831949 = some .eq := by decide +kernel
  go_enter Tryz.func13, Tryz.ntmps13
  go_wp2_with (first | fail)
  go_ret
  exact ⟨rfl, rfl⟩

set_option maxHeartbeats 1000000 in
set_option maxRecDepth 100000 in
theorem cut_k (w : World) : Calls Tryz.prog 14 #[.int .u64 4591870180174331904] w fun e w' => e = .returned (.int .u32 1036831949) ∧ w' = w := by
  have hf : ∀ w, (callFunc 40 #[.int .u64 4591870180174331904]).run Tryz.prog w = .ok (.value (.float .f64 4591870180174331904)) w := fun w => mfrom64 4591870180174331904 w
  have hcf : ∀ w, (convert 58 59 (.float .f64 4591870180174331904)).run Tryz.prog w = .ok (.float .f32 1036831949) w := fun w => run_convert_float_float w 58 59 .f64 .f32 _ _ (by kernel_rfl) (by kernel_rfl) (by decide +kernel)
  have hg : ∀ w, (callFunc 44 #[.float .f32 1036831949]).run Tryz.prog w = .ok (.value (.int .u32 1036831949)) w := fun w => mbits32 1036831949 w
  have c1 : FloatKind.f64.format.order 4591870180174331904 4591870180174331904 = some .eq := by decide +kernel
  go_enter Tryz.func14, Tryz.ntmps14
  go_wp2_with (first | fail)
  go_ret
  exact ⟨rfl, rfl⟩

set_option maxHeartbeats 1000000 in
set_option maxRecDepth 100000 in
theorem fits_k (w : World) : Calls Tryz.prog 15 #[.int .u8 8, .int .u64 1] w fun e w' => e = .returned (.bool true) ∧ w' = w := by
  go_enter Tryz.func15, Tryz.ntmps15
  go_wp2_with (first | (go_at_call 17; go_in))
  go_ret
  exact ⟨rfl, rfl⟩

set_option maxHeartbeats 1000000 in
set_option maxRecDepth 100000 in
theorem compare_k (w : World) : Calls Tryz.prog 16 #[.int .u8 5, .int .u64 18446744073709551615, .int .u64 0] w fun e w' => e = .returned (.int .i64 (-1)) ∧ w' = w := by
  have a1 : wrap64 18446744073709551615 = -1 := by decide +kernel
  go_enter Tryz.func16, Tryz.ntmps16
  go_wp2_with (first | (go_at_call 17; go_in) | (go_at_call 45; go_in))
  go_ret
  exact ⟨rfl, rfl⟩
end Go.Proofs.YtnpinogjajhlhaaGreatDoor.Fl
end
