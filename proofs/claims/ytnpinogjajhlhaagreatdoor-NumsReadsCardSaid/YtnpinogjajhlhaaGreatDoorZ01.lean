/- A part of the proof that lexiconlaw03.NumsReads answers true at every kind and every text: Dw, DwLow, ShB. No condition. -/
import Derived.Test.YtnpinogjajhlhaaGreatDoorProg
import Derived.Below
import Derived.Deep.LoopGhost
import Derived.Deep.QuietTactic
import Derived.BigQuiet
import Derived.WalkKit
import Derived.WalkLawsBesides
import Derived.Outline
import Derived.Lib.Hide
import Derived.KernelRfl
import Derived.Shelf.Strings.Builder1
import Derived.Shelf.Strings.Builder2
import Derived.Shelf.Small.Utf8
import Derived.Shelf.Small.Strs
import Derived.Shelf.Utf8.RuneCount
import Derived.Shelf.Strconv.Itoa0
import Derived.Shelf.Strconv.Itoa1
import Derived.Shelf.LaysM
import Derived.Shelf.Strconv.Itoa2
import Derived.Shelf.Strconv.Itoa3
import Derived.Shelf.Strings.Search1
import Derived.Shelf.Strings.Search2
import Derived.Shelf.Strings.Search3
import Derived.Shelf.Strings.Cut
import Derived.Shelf.Strings.Count
import Derived.Shelf.Strings.Shaped
import Derived.Shelf.Strings.Split
import Derived.Shelf.Strings.Replace
import Derived.Shelf.Strings.SplitShaped
import Derived.Shelf.Unicode.Decode
import Derived.Shelf.Strings.Runes
import Derived.Shelf.Strings.RuneCount
import Derived.Shelf.Strings.IndexAny
import Derived.Shelf.Strings.AsciiSet
import Derived.Shelf.Strings.IndexAnyAll
import Derived.Shelf.Bits.Mul64
import Derived.Shelf.Unicode.DecodeSlow
import Derived.Shelf.Unicode.DecodeAny
import Derived.Shelf.Unicode.DecodeLast
section
/- The decimal's cells in memory, and what a store into one of them leaves. -/
namespace Go.Proofs.YtnpinogjajhlhaaGreatDoor.Fl
open Go.RowKit

/-- The cells of a decimal in block b: 800 digits, how many, the point, the sign, the mark. -/
structure DecAt (w : World) (b : Nat) (a : Nat → Int) (nd dp : Int) (neg tr : Bool) : Prop where
  dig : ∀ i, i < 800 → w.cell? ⟨b, i, none⟩ = some (.int .u8 (a i))
  nd : w.cell? ⟨b, 800, none⟩ = some (.int .i64 nd)
  dp : w.cell? ⟨b, 801, none⟩ = some (.int .i64 dp)
  neg : w.cell? ⟨b, 802, none⟩ = some (.bool neg)
  tr : w.cell? ⟨b, 803, none⟩ = some (.bool tr)
  fr : ∀ i, w.frozen? ⟨b, i, none⟩ = false

theorem cell_other {w : World} {b i j : Nat} {u v : Value} (h : w.cell? ⟨b, j, none⟩ = some u) (hne : i ≠ j) : (w.setCell ⟨b, i, none⟩ v).cell? ⟨b, j, none⟩ = some u := by
  rw [World.cell?_setCell_other _ _ _ _ (by intro h; injection h with _ h; exact hne h)]; exact h

theorem DecAt.setNd {w : World} {b : Nat} {a : Nat → Int} {nd dp : Int} {neg tr : Bool} (h : DecAt w b a nd dp neg tr) (m : Int) : DecAt (w.setCell ⟨b, 800, none⟩ (.int .i64 m)) b a m dp neg tr :=
  ⟨fun i hi => cell_other (h.dig i hi) (by omega), World.cell?_setCell_same _ _ _ h.nd, cell_other h.dp (by omega), cell_other h.neg (by omega), cell_other h.tr (by omega), fun i => by rw [World.frozen?_setCell]; exact h.fr i⟩
theorem DecAt.setDp {w : World} {b : Nat} {a : Nat → Int} {nd dp : Int} {neg tr : Bool} (h : DecAt w b a nd dp neg tr) (m : Int) : DecAt (w.setCell ⟨b, 801, none⟩ (.int .i64 m)) b a nd m neg tr :=
  ⟨fun i hi => cell_other (h.dig i hi) (by omega), cell_other h.nd (by omega), World.cell?_setCell_same _ _ _ h.dp, cell_other h.neg (by omega), cell_other h.tr (by omega), fun i => by rw [World.frozen?_setCell]; exact h.fr i⟩
theorem DecAt.setNeg {w : World} {b : Nat} {a : Nat → Int} {nd dp : Int} {neg tr : Bool} (h : DecAt w b a nd dp neg tr) (m : Bool) : DecAt (w.setCell ⟨b, 802, none⟩ (.bool m)) b a nd dp m tr :=
  ⟨fun i hi => cell_other (h.dig i hi) (by omega), cell_other h.nd (by omega), cell_other h.dp (by omega), World.cell?_setCell_same _ _ _ h.neg, cell_other h.tr (by omega), fun i => by rw [World.frozen?_setCell]; exact h.fr i⟩
theorem DecAt.setTr {w : World} {b : Nat} {a : Nat → Int} {nd dp : Int} {neg tr : Bool} (h : DecAt w b a nd dp neg tr) (m : Bool) : DecAt (w.setCell ⟨b, 803, none⟩ (.bool m)) b a nd dp neg m :=
  ⟨fun i hi => cell_other (h.dig i hi) (by omega), cell_other h.nd (by omega), cell_other h.dp (by omega), cell_other h.neg (by omega), World.cell?_setCell_same _ _ _ h.tr, fun i => by rw [World.frozen?_setCell]; exact h.fr i⟩
theorem DecAt.setDig {w : World} {b : Nat} {a : Nat → Int} {nd dp : Int} {neg tr : Bool} (h : DecAt w b a nd dp neg tr) {k : Nat} (hk : k < 800) (m : Int) :
    DecAt (w.setCell ⟨b, k, none⟩ (.int .u8 m)) b (fun i => if i = k then m else a i) nd dp neg tr :=
  ⟨fun i hi => by
    by_cases e : i = k
    · subst e; rw [if_pos rfl]; exact World.cell?_setCell_same _ _ _ (h.dig i hi)
    · rw [if_neg e]; exact cell_other (h.dig i hi) (fun x => e x.symm),
   cell_other h.nd (by omega), cell_other h.dp (by omega), cell_other h.neg (by omega), cell_other h.tr (by omega), fun i => by rw [World.frozen?_setCell]; exact h.fr i⟩
theorem DecAt.drew {w : World} {b : Nat} {a : Nat → Int} {nd dp : Int} {neg tr : Bool} (h : DecAt w b a nd dp neg tr) : DecAt w.drew b a nd dp neg tr := ⟨h.dig, h.nd, h.dp, h.neg, h.tr, h.fr⟩
theorem DecAt.drewN {w : World} {b : Nat} {a : Nat → Int} {nd dp : Int} {neg tr : Bool} (h : DecAt w b a nd dp neg tr) (n : Nat) : DecAt (w.drewN n) b a nd dp neg tr := ⟨h.dig, h.nd, h.dp, h.neg, h.tr, h.fr⟩

theorem belowN {B : Nat} {a w : World} (h : Below B a w) (n : Nat) : Below B a (w.drewN n) := ⟨h.os, h.tape, h.output, h.size, h.block⟩

def TrimPost (b : Nat) (a : Nat → Int) (nd : Nat) (dp : Int) (neg tr : Bool) (B : Nat) (w : World) (e : Ending) (w' : World) : Prop :=
  e = .returned (.tuple #[]) ∧ ∃ m : Nat, m ≤ nd ∧ (∀ i, m ≤ i → i < nd → a i = 48) ∧ (0 < m → a (m - 1) ≠ 48) ∧ DecAt w' b a m (if m = 0 then 0 else dp) neg tr ∧ Below B w w'

set_option maxHeartbeats 1000000 in
theorem trim_walk (b : Nat) (a : Nat → Int) (nd : Nat) (dp : Int) (neg tr : Bool) (B : Nat) (w : World) (hnd : nd ≤ 800) (h : DecAt w b a nd dp neg tr) (hB : B ≤ b) :
    Calls Tryz.prog 191 #[.pointer (some ⟨b, 0, none⟩)] w (TrimPost b a nd dp neg tr B w) := by
  have A0 : Aside (DecAt w b a nd dp neg tr) := h
  clear h
  go_enter Tryz.func191, Tryz.ntmps191
  go_wp2_with fail
  go_loopg [] nd (fun k wr => k ≤ nd ∧ Aside ((∀ i, k ≤ i → i < nd → a i = 48) ∧ DecAt wr b a k dp neg tr) ∧ Below B w wr)
  case atStart => exact ⟨Nat.le_refl _, ⟨fun i h1 h2 => by omega, A0.out⟩, Below.refl _ _⟩
  case round =>
    obtain ⟨hk, hA, hb⟩ := hrel
    have c0 := hA.out.2.nd
    by_cases hz : gk = 0
    · subst hz
      have c1 := hA.out.2.dp
      have hf := hA.out.2.fr 801
      have hd : decide ((0 : Int) < ((0 : Nat) : Int)) = false := by simp
      go_wp2_with fail
      go_quiet (fail)
      go_wp2
      go_end0
      refine ⟨rfl, 0, by omega, fun i h1 h2 => hA.out.1 i h1 h2, fun h => absurd h (by omega), ?_, ?_⟩
      · exact (hA.out.2.drewN _).setDp 0
      · exact (belowN hb _).setCell (by simpa using hB) _
    · have c1 := hA.out.2.dig (gk - 1) (by omega)
      have hd : decide (0 < gk) = true := by simp; omega
      have hd2 : 0 < gk := by omega
      have hi : 0 ≤ (gk : Int) - 1 := by omega
      have hi2 : (gk : Int) - 1 < 800 := by omega
      have hi3 : ((gk : Int) - 1).toNat = gk - 1 := by omega
      have hf := hA.out.2.fr 800
      by_cases h48 : a (gk - 1) = 48
      · have h48b : (a (gk - 1) == 48) = true := by simp [h48]
        have H := Lib.hid h48
        clear h48
        go_wp2_with fail
        go_quiet (fail)
        go_wp2
        go_roundg (gk - 1)
        case measure => omega
        case rel =>
          refine ⟨by omega, ⟨fun i h1 h2 => ?_, ?_⟩, ?_⟩
          · by_cases e : i = gk - 1
            · subst e; exact H.out
            · exact hA.out.1 i (by omega) h2
          · rw [show ((gk - 1 : Nat) : Int) = (gk : Int) - 1 from by omega]
            exact (hA.out.2.drewN _).setNd _
          · exact (belowN hb _).setCell (by simpa using hB) _
      · have h48b : (a (gk - 1) == 48) = false := by simp [h48]
        have H := Lib.hid h48
        clear h48
        go_wp2_with fail
        go_quiet (fail)
        have c5 : ((gk : Int) == 0) = false := by simp; omega
        go_wp2
        go_end0
        refine ⟨rfl, gk, by omega, fun i h1 h2 => hA.out.1 i h1 h2, fun h => H.out, ?_, ?_⟩
        · rw [if_neg (by omega)]; exact hA.out.2.drewN _
        · exact belowN hb _
end Go.Proofs.YtnpinogjajhlhaaGreatDoor.Fl
end
section
/- lower: the byte with one bit set. -/
namespace Go.Proofs.YtnpinogjajhlhaaGreatDoor.Fl
open Go.RowKit

def IntEndU (k : IntKind) (r : Int) (w : World) (e : Ending) (w' : World) : Prop := e = .returned (.int k r) ∧ w' = w

/-- lower: one bit set. -/
theorem lower_walk (c : Int) (w : World) : Calls Tryz.prog 122 #[.int .u8 c] w (IntEndU .u8 (bits .or .u8 c 32) w) := by
  go_enter Tryz.func122, Tryz.ntmps122
  go_wp2_with fail
  go_ret
  exact ⟨rfl, rfl⟩

end Go.Proofs.YtnpinogjajhlhaaGreatDoor.Fl
end
section
/- Contracts of the library's functions, as the kit's program laid them. -/
namespace Go.Proofs
open Go.Shelf
def Tryz.lays129_ren : Go.Shelf.Ren := ⟨fun | 129 => 137 | n => n, fun | 53 => 24 | 3 => 3 | 4 => 4 | 46 => 63 | 5 => 5 | 9 => 9 | n => n, fun | n => n⟩
theorem Tryz.lays129 : Go.Proofs.Lays.n129 Tryz.prog Tryz.lays129_ren := {
  mixed := by kernel_rfl
  f129 := Tryz.func137.trans (congrArg some (by kernel_rfl))
  t3 := Tryz.underlying3
  a3 := Tryz.isAgg3
  z3 := Tryz.sizeOf3
  v3 := Tryz.zeroValue3
  t4 := Tryz.underlying4
  a4 := Tryz.isAgg4
  z4 := Tryz.sizeOf4
  v4 := Tryz.zeroValue4
  t5 := Tryz.underlying5
  a5 := Tryz.isAgg5
  z5 := Tryz.sizeOf5
  v5 := Tryz.zeroValue5
  t9 := Tryz.underlying9
  a9 := Tryz.isAgg9
  z9 := Tryz.sizeOf9
  v9 := Tryz.zeroValue9
  t46 := Tryz.underlying63
  a46 := Tryz.isAgg63
  z46 := Tryz.sizeOf63
  v46 := Tryz.zeroValue63
  t53 := Tryz.underlying24
  a53 := Tryz.isAgg24
  z53 := Tryz.sizeOf24
  v53 := Tryz.zeroValue24 }
/-- bits.Len64: "Len64 returns the minimum number of bits required to represent x; the result is 0 for x == 0.": IT RETURNS 'Lib.bitLen x'; the world is as it was. ('h0', 'h1': x is a uint64.) (LAID: no walk: one application.) -/
theorem Tryz.bits_Len64 (x : Int) (w : World) (h0 : 0 ≤ x) (h1 : x ≤ 18446744073709551615) :
    Calls Tryz.prog 137 #[.int .u64 x] w fun e w' => e = .returned (.int .i64 (Lib.bitLen x.toNat)) ∧ w' = w := Any.bits_Len64 Tryz.lays129 x w h0 h1
def Tryz.lays264_ren : Go.Shelf.Ren := ⟨fun | 264 => 99 | n => n, fun | 53 => 24 | 46 => 63 | n => n, fun | n => n⟩
theorem Tryz.lays264 : Go.Proofs.Lays.n264 Tryz.prog Tryz.lays264_ren := {
  mixed := by kernel_rfl
  f264 := Tryz.func99.trans (congrArg some (by kernel_rfl))
  t46 := Tryz.underlying63
  a46 := Tryz.isAgg63
  z46 := Tryz.sizeOf63
  v46 := Tryz.zeroValue63
  t53 := Tryz.underlying24
  a53 := Tryz.isAgg24
  z53 := Tryz.sizeOf24
  v53 := Tryz.zeroValue24 }
open Go.RowKit Go.Lib in
theorem Tryz.bits_Mul64 (x y : Nat) (hx : x < 18446744073709551616) (hy : y < 18446744073709551616) (w : World) :
    Calls Tryz.prog 99 #[.int .u64 x, .int .u64 y] w fun e w' => e = .returned (.tuple #[.int .u64 ((x * y / 18446744073709551616 : Nat) : Int), .int .u64 ((x * y % 18446744073709551616 : Nat) : Int)]) ∧ w' = w := Any.bits_Mul64 Tryz.lays264 x y hx hy w
end Go.Proofs
end
