/- A part of the proof that lexiconlaw03.NumsReads answers true at every kind and every text: WkShort, Sh3. No condition. -/
import Derived.Test.YtnpinogjajhlhaaGreatDoorZ06
import Derived.Test.YtnpinogjajhlhaaGreatDoorProg
import Derived.Shelf.Strconv.Itoa1
import Derived.Shelf.Strconv.Itoa2
import Derived.Shelf.Strconv.Itoa3
import Derived.Shelf.LaysM
section
/- shortFloat at the three numbers of the closed head, walked (printed by wip/wkshort.py). -/
namespace Go.Proofs.YtnpinogjajhlhaaGreatDoor.Fl
open Go.RowKit

/-- uscale at numbers: what it comes to is reckoned by the kernel. -/
theorem usc_walk (x i s u c : Nat) (w : World) (h : (decide (x < 18446744073709551616) && decide ((pw i).1 < 18446744073709551616) && decide ((pw i).2 < 18446744073709551616) && decide (s < 64) && decide (1 ≤ x * (pw i).1 / 18446744073709551616) && decide (us x (pw i).1 (pw i).2 s = u)) = true)
    (hc : ScI w c (pw i).1 (pw i).2 s) : Calls Tryz.prog 184 #[.int .u64 x, .pointer (some ⟨c, 0, none⟩)] w (IntEndQ .u64 u w) := by
  simp only [Bool.and_eq_true, decide_eq_true_eq] at h
  obtain ⟨⟨⟨⟨⟨h1, h2⟩, h3⟩, h4⟩, h5⟩, h6⟩ := h
  rw [← h6]
  exact uscale_walk x _ _ s c w h1 h2 h3 h4 h5 ⟨hc.1, hc.2.1, hc.2.2.1⟩

set_option maxHeartbeats 1000000 in
set_option maxRecDepth 100000 in
theorem sfa_walk (w : World) (B : Nat) (hB : B ≤ w.heap.size) (hP : PowAt w B) :
    Calls Tryz.prog 165 #[.int .u64 14757395258967642112, .int .i64 (-67)] w (fun e w' => e = .returned (.tuple #[.int .u64 1000000000000000, .int .i64 (-16)]) ∧ Below B w w') := by
  have HP := Lib.hid hP
  have hl : lp 17 = 56 := by decide
  have ha : bits BinOp.and IntKind.i64 7205759403792794 1 = 0 := by decide +kernel
  clear hP
  go_enter Tryz.func165, Tryz.ntmps165
  go_wp2_with (first | (go_at_call 183; refine (lp_walk _ (by decide) (by decide) _).mono ?_; rintro e w' ⟨rfl, rfl⟩) | (go_at_call 136; go_in))
  have hsc : ScI (w.alloc (Obj.cells #[Value.int IntKind.u64 0, Value.int IntKind.u64 0, Value.int IntKind.i64 0] 211)) w.heap.size 0 0 0 :=
    ⟨World.cell?_alloc_at _ _ _ _ rfl, World.cell?_alloc_at _ _ _ _ rfl, World.cell?_alloc_at _ _ _ _ rfl, fun j => World.frozen?_alloc_at _ _ _ _ rfl⟩
  have hbw : Below B w (w.alloc (Obj.cells #[Value.int IntKind.u64 0, Value.int IntKind.u64 0, Value.int IntKind.i64 0] 211)) := (Below.refl B w).alloc hB _
  refine (prescale_walk w.heap.size (-67) 17 _ 365 (by decide) (by decide) (by decide) (by decide) (by decide) (by decide) _ B hB (HP.out.below hbw) 0 0 0 hsc).mono ?_
  rintro e w2 ⟨rfl, hs2, hb2⟩
  have hs3 : ScI w2 w.heap.size (pw 365).1 (pw 365).2 ((8 : Nat) : Int) := hs2
  have HS := Lib.hid (And.intro hs3 (hbw.trans hb2))
  clear hs2 hb2 hsc hbw hs3
  generalize w.heap.size = c at *
  go_wp2_with fail
  refine (usc_walk 14757395258967641088 365 8 39999999999999999 c _ (by decide +kernel) HS.out.1).mono ?_
  rintro e w3 ⟨rfl, q1, rfl⟩
  go_wp2_with (first | (go_at_call 185; go_in) | (go_at_call 186; go_in) | (go_at_call 187; go_in) | (go_at_call 188; go_in))
  refine (usc_walk 14757395258967643136 365 8 40000000000000005 c _ (by decide +kernel) (HS.out.1.drewN q1)).mono ?_
  rintro e w4 ⟨rfl, q2, rfl⟩
  have HB := Lib.hid (belowN HS.out.2 (q1 + q2))
  go_wp2_with (first | (go_at_call 185; go_in) | (go_at_call 186; go_in) | (go_at_call 187; go_in) | (go_at_call 188; go_in))
  go_ret2
  exact ⟨rfl, HB.out⟩

set_option maxHeartbeats 1000000 in
set_option maxRecDepth 100000 in
theorem sfb_walk (w : World) (B : Nat) (hB : B ≤ w.heap.size) (hP : PowAt w B) :
    Calls Tryz.prog 159 #[.int .u64 14757395478869966848, .int .i64 (-67)] w (fun e w' => e = .returned (.tuple #[.int .u64 10000000, .int .i64 (-8)]) ∧ Below B w w') := by
  have HP := Lib.hid hP
  have hl : lp 9 = 29 := by decide
  have ha : bits BinOp.and IntKind.i64 13421773 1 = 1 := by decide +kernel
  clear hP
  go_enter Tryz.func159, Tryz.ntmps159
  go_wp2_with (first | (go_at_call 183; refine (lp_walk _ (by decide) (by decide) _).mono ?_; rintro e w' ⟨rfl, rfl⟩) | (go_at_call 136; go_in))
  have hsc : ScI (w.alloc (Obj.cells #[Value.int IntKind.u64 0, Value.int IntKind.u64 0, Value.int IntKind.i64 0] 211)) w.heap.size 0 0 0 :=
    ⟨World.cell?_alloc_at _ _ _ _ rfl, World.cell?_alloc_at _ _ _ _ rfl, World.cell?_alloc_at _ _ _ _ rfl, fun j => World.frozen?_alloc_at _ _ _ _ rfl⟩
  have hbw : Below B w (w.alloc (Obj.cells #[Value.int IntKind.u64 0, Value.int IntKind.u64 0, Value.int IntKind.i64 0] 211)) := (Below.refl B w).alloc hB _
  refine (prescale_walk w.heap.size (-67) 9 _ 357 (by decide) (by decide) (by decide) (by decide) (by decide) (by decide) _ B hB (HP.out.below hbw) 0 0 0 hsc).mono ?_
  rintro e w2 ⟨rfl, hs2, hb2⟩
  have hs3 : ScI w2 w.heap.size (pw 357).1 (pw 357).2 ((35 : Nat) : Int) := hs2
  have HS := Lib.hid (And.intro hs3 (hbw.trans hb2))
  clear hs2 hb2 hsc hbw hs3
  generalize w.heap.size = c at *
  go_wp2_with fail
  refine (usc_walk 14757394929114152960 357 35 399999991 c _ (by decide +kernel) HS.out.1).mono ?_
  rintro e w3 ⟨rfl, q1, rfl⟩
  go_wp2_with (first | (go_at_call 185; go_in) | (go_at_call 186; go_in) | (go_at_call 187; go_in) | (go_at_call 188; go_in))
  refine (usc_walk 14757396028625780736 357 35 400000021 c _ (by decide +kernel) (HS.out.1.drewN q1)).mono ?_
  rintro e w4 ⟨rfl, q2, rfl⟩
  have HB := Lib.hid (belowN HS.out.2 (q1 + q2))
  go_wp2_with (first | (go_at_call 185; go_in) | (go_at_call 186; go_in) | (go_at_call 187; go_in) | (go_at_call 188; go_in))
  go_ret2
  exact ⟨rfl, HB.out⟩

set_option maxHeartbeats 1000000 in
set_option maxRecDepth 100000 in
theorem sfc_walk (w : World) (B : Nat) (hB : B ≤ w.heap.size) (hP : PowAt w B) :
    Calls Tryz.prog 165 #[.int .u64 9223372036854775808, .int .i64 (-1137)] w (fun e w' => e = .returned (.tuple #[.int .u64 5, .int .i64 (-324)]) ∧ Below B w w') := by
  have HP := Lib.hid hP
  have hl : lp 324 = 1076 := by decide
  have ha : bits BinOp.and IntKind.i64 1 1 = 1 := by decide +kernel
  clear hP
  go_enter Tryz.func165, Tryz.ntmps165
  go_wp2_with (first | (go_at_call 183; refine (lp_walk _ (by decide) (by decide) _).mono ?_; rintro e w' ⟨rfl, rfl⟩) | (go_at_call 136; go_in))
  have hsc : ScI (w.alloc (Obj.cells #[Value.int IntKind.u64 0, Value.int IntKind.u64 0, Value.int IntKind.i64 0] 211)) w.heap.size 0 0 0 :=
    ⟨World.cell?_alloc_at _ _ _ _ rfl, World.cell?_alloc_at _ _ _ _ rfl, World.cell?_alloc_at _ _ _ _ rfl, fun j => World.frozen?_alloc_at _ _ _ _ rfl⟩
  have hbw : Below B w (w.alloc (Obj.cells #[Value.int IntKind.u64 0, Value.int IntKind.u64 0, Value.int IntKind.i64 0] 211)) := (Below.refl B w).alloc hB _
  refine (prescale_walk w.heap.size (-1137) 324 _ 672 (by decide) (by decide) (by decide) (by decide) (by decide) (by decide) _ B hB (HP.out.below hbw) 0 0 0 hsc).mono ?_
  rintro e w2 ⟨rfl, hs2, hb2⟩
  have hs3 : ScI w2 w.heap.size (pw 672).1 (pw 672).2 ((58 : Nat) : Int) := hs2
  have HS := Lib.hid (And.intro hs3 (hbw.trans hb2))
  clear hs2 hb2 hsc hbw hs3
  generalize w.heap.size = c at *
  go_wp2_with fail
  refine (usc_walk 4611686018427387904 672 58 9 c _ (by decide +kernel) HS.out.1).mono ?_
  rintro e w3 ⟨rfl, q1, rfl⟩
  go_wp2_with (first | (go_at_call 185; go_in) | (go_at_call 186; go_in) | (go_at_call 187; go_in) | (go_at_call 188; go_in))
  refine (usc_walk 13835058055282163712 672 58 29 c _ (by decide +kernel) (HS.out.1.drewN q1)).mono ?_
  rintro e w4 ⟨rfl, q2, rfl⟩
  have HB := Lib.hid (belowN HS.out.2 (q1 + q2))
  go_wp2_with (first | (go_at_call 185; go_in) | (go_at_call 186; go_in) | (go_at_call 187; go_in) | (go_at_call 188; go_in))
  refine (usc_walk 9223372036854775808 672 58 19 c _ (by decide +kernel) (HS.out.1.drewN (q1 + q2))).mono ?_
  rintro e w5 ⟨rfl, q3, rfl⟩
  have HB3 := Lib.hid (belowN HS.out.2 (q1 + q2 + q3))
  go_wp2_with (first | (go_at_call 185; go_in) | (go_at_call 186; go_in) | (go_at_call 187; go_in) | (go_at_call 188; go_in))
  go_ret2
  exact ⟨rfl, HB3.out⟩
end Go.Proofs.YtnpinogjajhlhaaGreatDoor.Fl
end
section
/- Contracts of the library's, as the kit's program laid them: how many digits; the digits. -/
namespace Go.Proofs
open Go.Shelf
def Tryz.laysM284_ren : Go.Shelf.Ren := ⟨fun | 284 => 109 | 129 => 137 | 317 => 136 | 318 => 138 | n => n, fun | 53 => 24 | 3 => 3 | 212 => 154 | 0 => 0 | 4 => 4 | 46 => 63 | 5 => 5 | 9 => 9 | n => n, fun | 17 => 2 | n => n⟩
theorem Tryz.laysM284 : Go.Proofs.LaysM.n284 Tryz.prog Tryz.laysM284_ren := {
  mixed := by kernel_rfl
  f129 := Tryz.func137.trans (congrArg some (by kernel_rfl))
  f284 := Tryz.func109.trans (congrArg some (by kernel_rfl))
  f317 := Tryz.func136.trans (congrArg some (by kernel_rfl))
  f318 := Tryz.func138.trans (congrArg some (by kernel_rfl))
  t0 := Tryz.underlying0
  a0 := Tryz.isAgg0
  z0 := Tryz.sizeOf0
  v0 := Tryz.zeroValue0
  t3 := Tryz.underlying3
  a3 := Tryz.isAgg3
  z3 := Tryz.sizeOf3
  v3 := Tryz.zeroValue3
  t4 := Tryz.underlying4
  a4 := Tryz.isAgg4
  z4 := Tryz.sizeOf4
  v4 := Tryz.zeroValue4
  t5 := Tryz.underlying5
  a5 := Tryz.isAgg5
  z5 := Tryz.sizeOf5
  v5 := Tryz.zeroValue5
  t9 := Tryz.underlying9
  a9 := Tryz.isAgg9
  z9 := Tryz.sizeOf9
  v9 := Tryz.zeroValue9
  t46 := Tryz.underlying63
  a46 := Tryz.isAgg63
  z46 := Tryz.sizeOf63
  v46 := Tryz.zeroValue63
  t53 := Tryz.underlying24
  a53 := Tryz.isAgg24
  z53 := Tryz.sizeOf24
  v53 := Tryz.zeroValue24
  t212 := Tryz.underlying154
  a212 := Tryz.isAgg154
  z212 := Tryz.sizeOf154
  v212 := Tryz.zeroValue154
  g17 := by kernel_rfl
  i0 := by kernel_rfl
  i3 := by kernel_rfl
  i4 := by kernel_rfl
  i5 := by kernel_rfl
  i9 := by kernel_rfl
  i46 := by kernel_rfl
  i53 := by kernel_rfl
  i212 := by kernel_rfl
  m17 := by kernel_rfl }
open Go.Lib in
/-- internal/strconv.numDigits, at a d that is not 0: THE NUMBER OF d's DECIMAL DIGITS. The world is as it was. (LAID: no walk: one application.) -/
theorem Tryz.internal_strconv_numDigits (u : Nat) (h1 : 1 ≤ u) (h2 : u < 18446744073709551616) (w : World) (htab : Lib.TabIs Tryz.prog w "internal/strconv.uint64pow10" .u64 Lib.pow10Tab) :
    Calls Tryz.prog 109 #[.int .u64 u] w fun e w' => e = .returned (.int .i64 (Lib.nDigits u)) ∧ w' = w := Any.internal_strconv_numDigits Tryz.laysM284 u h1 h2 w htab
def Tryz.lays285_ren : Go.Shelf.Ren := ⟨fun | 285 => 110 | n => n, fun | 37 => 93 | 53 => 24 | 3 => 3 | 4 => 4 | 51 => 33 | 9 => 9 | 5 => 5 | 0 => 0 | n => n, fun | n => n⟩
theorem Tryz.lays285 : Go.Proofs.Lays.n285 Tryz.prog Tryz.lays285_ren := {
  mixed := by kernel_rfl
  f285 := Tryz.func110.trans (congrArg some (by kernel_rfl))
  t0 := Tryz.underlying0
  a0 := Tryz.isAgg0
  z0 := Tryz.sizeOf0
  v0 := Tryz.zeroValue0
  t3 := Tryz.underlying3
  a3 := Tryz.isAgg3
  z3 := Tryz.sizeOf3
  v3 := Tryz.zeroValue3
  t4 := Tryz.underlying4
  a4 := Tryz.isAgg4
  z4 := Tryz.sizeOf4
  v4 := Tryz.zeroValue4
  t5 := Tryz.underlying5
  a5 := Tryz.isAgg5
  z5 := Tryz.sizeOf5
  v5 := Tryz.zeroValue5
  t9 := Tryz.underlying9
  a9 := Tryz.isAgg9
  z9 := Tryz.sizeOf9
  v9 := Tryz.zeroValue9
  t37 := Tryz.underlying93
  a37 := Tryz.isAgg93
  z37 := Tryz.sizeOf93
  v37 := Tryz.zeroValue93
  t51 := Tryz.underlying33
  a51 := Tryz.isAgg33
  z51 := Tryz.sizeOf33
  v51 := Tryz.zeroValue33
  t53 := Tryz.underlying24
  a53 := Tryz.isAgg24
  z53 := Tryz.sizeOf24
  v53 := Tryz.zeroValue24 }
open Go.RowKit Go.Sort Go.Lib in
/-- internal/strconv.formatBase10: "formatBase10 formats the decimal representation of u into a. The caller is responsible for ensuring that a is big enough to hold u. If a is too big, leading zeros will be filled in as needed.": THE ROW HOLDS u's DIGITS ('FmtInv .. 0 ..': every place t holds 'dg u (len - 1 - t)'); all else is as it was but for the count of draws. (LAID: no walk: one application.) -/
theorem Tryz.internal_strconv_formatBase10 (blk off cap : Nat) (u : Nat) (d : Array UInt8) (w : World) (hH : Holds (fun (b : UInt8) => Value.int .u8 (b.toNat : Int)) w blk off d) (hu : u < 10 ^ d.size) (hu64 : u < 18446744073709551616) (hsz : d.size < 4611686018427387904) :
    Calls Tryz.prog 110 #[.slice (some ⟨blk, off, none⟩) d.size cap, .int .u64 u] w fun e w' =>
      e = .returned (.tuple #[]) ∧ ∃ (n v' : Nat) (dk : Array UInt8), w' = (putRow (fun (b : UInt8) => Value.int .u8 (b.toNat : Int)) w blk off dk).drewN n ∧ FmtInv d.size u 0 v' dk := Any.internal_strconv_formatBase10 Tryz.lays285 blk off cap u d w hH hu hu64 hsz
end Go.Proofs
end
