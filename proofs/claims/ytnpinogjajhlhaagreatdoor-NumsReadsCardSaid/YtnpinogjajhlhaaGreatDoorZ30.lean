/- A part of the proof that lexiconlaw03.NumsReads answers true at every kind and every text: WkEfg, WkFtoa. No condition. -/
import Derived.Test.YtnpinogjajhlhaaGreatDoorZ01
import Derived.Test.YtnpinogjajhlhaaGreatDoorZ07
import Derived.Test.YtnpinogjajhlhaaGreatDoorZ29
import Derived.Test.YtnpinogjajhlhaaGreatDoorZ16
import Derived.Deep.DeepCutAuto
import Derived.Deep.CutBlock
import Derived.BigQuiet
import Derived.Deep.RegionHeld3
section
/- fmtEFG at one digit and the exponents -1 and -324, walked. -/
namespace Go.Proofs.YtnpinogjajhlhaaGreatDoor.Fl
open Go.RowKit

theorem u8info : (Tryz.prog.info? 5).map (fun i => (i.zero, i.size, i.bytes)) = some (some (.int .u8 0), 1, 1) := by kernel_rfl

/-- Bytes gathered in a block of 24. -/
def Own24 (w : World) (g n : Nat) (l : List Nat) : Prop := w.ownsRow 0 5 1 (.slice (some ⟨g, 0, none⟩) n 24) n (l.map fun x => Value.int .u8 (x : Nat))

theorem Own24.alloc {w : World} {g n : Nat} {l : List Nat} (h : Own24 w g n l) (o : Obj) : Own24 (w.alloc o) g n l := World.ownsRow.alloc h o

set_option maxRecDepth 100000 in
theorem own24_append {ops : Array Oper} {rest : List Oper} {o : Oper} {a : Act} {Q : Exit → Act → World → Prop} (w : World) (hg : o.guard = none) (s x : Operand)
    (hop : o.op = Op.call { callee := Callee.builtin Builtin.append, args := #[s, x], argTypes := #[93, 93] }) (g k : Nat) (l : List Nat) (hs : a.eval s = .slice (some ⟨g, 0, none⟩) k 24) (hown : Own24 w g k l)
    (ad : Addr) (m c : Nat) (news : List Nat) (hx : a.eval x = .slice (some ad) m c) (hn : news.length = m) (hc : ∀ j u, news[j]? = some u → w.cell? (ad.add j) = some (.int .u8 (u : Nat))) (b1 : k + m ≤ 24)
    (hK : ∀ w', Own24 w' g (k + m) (l ++ news) → w.grownBy w' (some g) → wpList Tryz.prog ops Q rest (a.put o.dst (.slice (some ⟨g, 0, none⟩) (k + m) 24)) w') : wpList Tryz.prog ops Q (o :: rest) a w := by
  obtain ⟨i0, hi, hz0, hz1, hz2⟩ := info_parts u8info
  refine wpList_append_fits w hg s x 93 hop 0 5 i0 1 Tryz.underlying93 hi hz1 g k 24 _ hs hown ad m c (news.map fun x => Value.int .u8 (x : Nat)) hx (by rw [List.length_map, hn, Nat.mul_one]) (fun j u hu => ?_) (fun u hu => ?_) b1 (fun w' h1 h2 => hK w' ?_ h2)
  · rw [List.getElem?_map] at hu
    cases hj : news[j]? with
    | none => rw [hj] at hu; cases hu
    | some y => rw [hj] at hu; injection hu with hu; rw [← hu]; exact hc j y hj
  · obtain ⟨y, -, rfl⟩ := List.mem_map.1 hu; rfl
  · unfold Own24
    rw [List.map_append]; exact h1

theorem below_append {B g : Nat} {a w w' : World} {o : Obj} (h : Below B a w) (hB : B ≤ w.heap.size) (hg : B ≤ g) (hgr : (w.alloc o).grownBy w' (some g)) : Below B a w' ∧ B ≤ w'.heap.size := by
  have h1 := (h.alloc hB o).grown hgr (by simp; omega) (fun k hk => by injection hk with hk; omega)
  refine ⟨h1, ?_⟩
  have := hgr.size
  rw [World.size_alloc] at this
  omega

def EfgPost (l : List Nat) (n g B : Nat) (w : World) (e : Ending) (w' : World) : Prop := e = .returned (.slice (some ⟨g, 0, none⟩) n 24) ∧ Own24 w' g n l ∧ Below B w w'

set_option maxHeartbeats 1000000 in
set_option maxRecDepth 100000 in
theorem efg1_walk (b g c B : Nat) (w : World) (hown : Own24 w g 0 []) (hc : w.cell? ⟨b, 0, none⟩ = some (.int .u8 (c : Nat))) (hB : B ≤ g) (hB2 : B ≤ w.heap.size) :
    Calls Tryz.prog 158 #[.slice (some ⟨g, 0, none⟩) 0 24, .bool false, .slice (some ⟨b, 0, none⟩) 32 32, .int .i64 0, .int .i64 1, .int .i64 0, .int .u8 101, .bool true] w (EfgPost [c, 101, 45, 48, 49] 5 g B w) := by
  have HO := Lib.hid hown
  clear hown
  go_enter Tryz.func158, Tryz.ntmps158
  go_wp2_with (first
    | (at_builtin; refine own24_append _ rfl (.tmp 87) (.tmp 89) rfl g 0 [] rfl (HO.out.alloc _) _ 1 1 [c] rfl rfl (by intro j u hj; match j, hj with | 0, hj => simp at hj; subst hj; simp [Addr.add]) (by decide) ?_; intro w1 hown1 hgrow1)
    | (at_builtin; refine own24_append _ rfl (.tmp 120) (.tmp 122) rfl g 1 _ rfl (hown1.alloc _) _ 1 1 [101] rfl rfl (by intro j u hj; match j, hj with | 0, hj => simp at hj; subst hj; simp [Addr.add]) (by decide) ?_; intro w2 hown2 hgrow2)
    | (at_builtin; refine own24_append _ rfl (.tmp 132) (.tmp 134) rfl g 2 _ rfl (hown2.alloc _) _ 1 1 [45] rfl rfl (by intro j u hj; match j, hj with | 0, hj => simp at hj; subst hj; simp [Addr.add]) (by decide) ?_; intro w3 hown3 hgrow3)
    | (at_builtin; refine own24_append _ rfl (.tmp 155) (.tmp 159) rfl g 3 _ rfl (hown3.alloc _) _ 2 2 [48, 49] rfl rfl (by intro j u hj; match j, hj with | 0, hj => simp at hj; subst hj; simp [Addr.add] | 1, hj => simp at hj; subst hj; simp [Addr.add]) (by decide) ?_; intro w4 hown4 hgrow4))
  have hb1 := below_append (Below.refl B w) hB2 hB hgrow1
  have hb2 := below_append hb1.1 hb1.2 hB hgrow2
  have hb3 := below_append hb2.1 hb2.2 hB hgrow3
  have hb4 := below_append hb3.1 hb3.2 hB hgrow4
  go_ret
  exact ⟨rfl, hown4, hb4.1⟩

set_option maxHeartbeats 1000000 in
set_option maxRecDepth 100000 in
theorem efg2_walk (b g c B : Nat) (w : World) (hown : Own24 w g 0 []) (hc : w.cell? ⟨b, 0, none⟩ = some (.int .u8 (c : Nat))) (hB : B ≤ g) (hB2 : B ≤ w.heap.size) :
    Calls Tryz.prog 158 #[.slice (some ⟨g, 0, none⟩) 0 24, .bool false, .slice (some ⟨b, 0, none⟩) 32 32, .int .i64 (-323), .int .i64 1, .int .i64 0, .int .u8 101, .bool true] w (EfgPost [c, 101, 45, 51, 50, 52] 6 g B w) := by
  have HO := Lib.hid hown
  clear hown
  go_enter Tryz.func158, Tryz.ntmps158
  go_wp2_with (first
    | (at_builtin; refine own24_append _ rfl (.tmp 87) (.tmp 89) rfl g 0 [] rfl (HO.out.alloc _) _ 1 1 [c] rfl rfl (by intro j u hj; match j, hj with | 0, hj => simp at hj; subst hj; simp [Addr.add]) (by decide) ?_; intro w1 hown1 hgrow1)
    | (at_builtin; refine own24_append _ rfl (.tmp 120) (.tmp 122) rfl g 1 _ rfl (hown1.alloc _) _ 1 1 [101] rfl rfl (by intro j u hj; match j, hj with | 0, hj => simp at hj; subst hj; simp [Addr.add]) (by decide) ?_; intro w2 hown2 hgrow2)
    | (at_builtin; refine own24_append _ rfl (.tmp 132) (.tmp 134) rfl g 2 _ rfl (hown2.alloc _) _ 1 1 [45] rfl rfl (by intro j u hj; match j, hj with | 0, hj => simp at hj; subst hj; simp [Addr.add]) (by decide) ?_; intro w3 hown3 hgrow3)
    | (at_builtin; refine own24_append _ rfl (.tmp 136) (.tmp 150) rfl g 3 _ rfl (hown3.alloc _) _ 3 3 [51, 50, 52] rfl rfl (by intro j u hj; match j, hj with | 0, hj => simp at hj; subst hj; simp [Addr.add] | 1, hj => simp at hj; subst hj; simp [Addr.add] | 2, hj => simp at hj; subst hj; simp [Addr.add]) (by decide) ?_; intro w4 hown4 hgrow4))
  have hb1 := below_append (Below.refl B w) hB2 hB hgrow1
  have hb2 := below_append hb1.1 hb1.2 hB hgrow2
  have hb3 := below_append hb2.1 hb2.2 hB hgrow3
  have hb4 := below_append hb3.1 hb3.2 hB hgrow4
  go_ret
  exact ⟨rfl, hown4, hb4.1⟩
end Go.Proofs.YtnpinogjajhlhaaGreatDoor.Fl
end
section
/- ftoa64, ftoa32 at the three numbers of the closed head, walked. -/
namespace Go.Proofs.YtnpinogjajhlhaaGreatDoor.Fl
open Go.RowKit Go.Lib

theorem Own24.below {w w' : World} {g n B : Nat} {l : List Nat} (h : Own24 w g n l) (hb : Below B w w') (hg : g < B) : Own24 w' g n l := by
  obtain ⟨h1, h2⟩ := h
  refine ⟨h1, ?_⟩
  rcases h2 with h2 | ⟨g', cap, cur, hv, h3, h4, h5⟩
  · exact .inl h2
  · have hgg : g' = g := by injection hv with hv; injection hv with hv; injection hv with hv; exact hv.symm
    subst hgg
    exact .inr ⟨g', cap, cur, hv, h3, by rw [hb.block _ hg]; exact h4, h5⟩

def buf32 : Obj := Obj.cells #[Value.int IntKind.u8 0, Value.int IntKind.u8 0, Value.int IntKind.u8 0, Value.int IntKind.u8 0,
  Value.int IntKind.u8 0, Value.int IntKind.u8 0, Value.int IntKind.u8 0, Value.int IntKind.u8 0,
  Value.int IntKind.u8 0, Value.int IntKind.u8 0, Value.int IntKind.u8 0, Value.int IntKind.u8 0,
  Value.int IntKind.u8 0, Value.int IntKind.u8 0, Value.int IntKind.u8 0, Value.int IntKind.u8 0,
  Value.int IntKind.u8 0, Value.int IntKind.u8 0, Value.int IntKind.u8 0, Value.int IntKind.u8 0,
  Value.int IntKind.u8 0, Value.int IntKind.u8 0, Value.int IntKind.u8 0, Value.int IntKind.u8 0,
  Value.int IntKind.u8 0, Value.int IntKind.u8 0, Value.int IntKind.u8 0, Value.int IntKind.u8 0,
  Value.int IntKind.u8 0, Value.int IntKind.u8 0, Value.int IntKind.u8 0, Value.int IntKind.u8 0] 175

theorem zeroAt_alloc (w : World) (o : Obj) (ho : o = buf32) : ZeroAt (w.alloc o) w.heap.size := by
  subst ho
  intro i hi
  refine ⟨?_, World.frozen?_alloc_at _ _ _ _ rfl⟩
  unfold buf32
  refine (World.cell?_alloc_at _ _ _ _ rfl).trans ?_
  have : ∀ k : Fin 32, (#[Value.int IntKind.u8 0, Value.int IntKind.u8 0, Value.int IntKind.u8 0, Value.int IntKind.u8 0,
    Value.int IntKind.u8 0, Value.int IntKind.u8 0, Value.int IntKind.u8 0, Value.int IntKind.u8 0,
    Value.int IntKind.u8 0, Value.int IntKind.u8 0, Value.int IntKind.u8 0, Value.int IntKind.u8 0,
    Value.int IntKind.u8 0, Value.int IntKind.u8 0, Value.int IntKind.u8 0, Value.int IntKind.u8 0,
    Value.int IntKind.u8 0, Value.int IntKind.u8 0, Value.int IntKind.u8 0, Value.int IntKind.u8 0,
    Value.int IntKind.u8 0, Value.int IntKind.u8 0, Value.int IntKind.u8 0, Value.int IntKind.u8 0,
    Value.int IntKind.u8 0, Value.int IntKind.u8 0, Value.int IntKind.u8 0, Value.int IntKind.u8 0,
    Value.int IntKind.u8 0, Value.int IntKind.u8 0, Value.int IntKind.u8 0, Value.int IntKind.u8 0] : Array Value)[k.val]? = some (.int .u8 0) := by
    intro k
    match k with
    | ⟨0, _⟩ | ⟨1, _⟩ | ⟨2, _⟩ | ⟨3, _⟩ | ⟨4, _⟩ | ⟨5, _⟩ | ⟨6, _⟩ | ⟨7, _⟩ | ⟨8, _⟩ | ⟨9, _⟩ | ⟨10, _⟩ | ⟨11, _⟩ | ⟨12, _⟩ | ⟨13, _⟩ | ⟨14, _⟩ | ⟨15, _⟩ | ⟨16, _⟩ | ⟨17, _⟩ | ⟨18, _⟩ | ⟨19, _⟩ | ⟨20, _⟩ | ⟨21, _⟩ | ⟨22, _⟩ | ⟨23, _⟩ | ⟨24, _⟩ | ⟨25, _⟩ | ⟨26, _⟩ | ⟨27, _⟩ | ⟨28, _⟩ | ⟨29, _⟩ | ⟨30, _⟩ | ⟨31, _⟩ => rfl
    | ⟨n + 32, h⟩ => omega
  exact this ⟨i, hi⟩

theorem ZeroAt.below {w w' : World} {b B : Nat} (h : ZeroAt w b) (hb : Below B w w') (hB : b < B) : ZeroAt w' b :=
  fun i hi => ⟨(hb.cell (p := ⟨b, i, none⟩) hB).trans (h i hi).1, (hb.frozen (p := ⟨b, i, none⟩) hB).trans (h i hi).2⟩

theorem PowAt.mono {w : World} {B B' : Nat} (h : PowAt w B) (hb : B ≤ B') : PowAt w B' := ⟨Nat.lt_of_lt_of_le h.1 hb, h.2⟩

set_option maxHeartbeats 1000000 in
set_option maxRecDepth 100000 in
theorem fta_walk (g B : Nat) (w : World) (hown : Own24 w g 0 []) (hB : B ≤ g) (hB2 : g < w.heap.size) (hP : PowAt w B) (hL : LibAt w B) :
    Calls Tryz.prog 142 #[.slice (some ⟨g, 0, none⟩) 0 24, .float .f64 4591870180066957722, .int .u8 101, .int .i64 (-1)] w (EfgPost [49, 101, 45, 48, 49] 5 g B w) := by
  have HO := Lib.hid hown
  have HP := Lib.hid hP
  have HL := Lib.hid hL
  have hf : ∀ w, (callFunc 155 #[.float .f64 4591870180066957722]).run Tryz.prog w = .ok (.value (.int .u64 4591870180066957722)) w := fun w => sbits64 4591870180066957722 w
  have hlen := fun w => Tryz.bits_Len64 (7205759403792794 : Int) w (by omega) (by omega)
  rw [show Lib.bitLen (7205759403792794 : Int).toNat = 53 by decide +kernel] at hlen
  have a1 : bits BinOp.and IntKind.i64 1019 2047 = 1019 := by decide +kernel
  have a2 : bits BinOp.and IntKind.u64 4591870180066957722 4503599627370495 = 2702159776422298 := by decide +kernel
  have a3 : bits BinOp.or IntKind.u64 2702159776422298 4503599627370496 = 7205759403792794 := by decide +kernel
  clear hown hP hL
  go_enter Tryz.func142, Tryz.ntmps142
  go_wp2_with fail
  go_quiet (fail)
  go_wp2_with (first | (go_at_call 137; refine (hlen _).mono ?_; rintro e w1 ⟨rfl, rfl⟩))
  have hz := zeroAt_alloc (w.drewN nq) buf32 rfl
  have hb1 : Below B w ((w.drewN nq).alloc buf32) := ((belowN (Below.refl B w) nq).alloc (Nat.le_trans hB (Nat.le_of_lt hB2)) buf32)
  have ho1 : Own24 ((w.drewN nq).alloc buf32) g 0 [] := HO.out.alloc buf32
  have hs1 : w.heap.size < ((w.drewN nq).alloc buf32).heap.size := by rw [World.size_alloc]; exact Nat.lt_succ_self _
  unfold buf32 at hz hb1 ho1 hs1
  generalize (w.drewN nq).alloc _ = w1 at *
  have HBZ : Hid (∃ b, b = w.heap.size) := ⟨_, rfl⟩
  have hz2 : ZeroAt w1 w.heap.size := hz
  have hgs : g < w.heap.size := hB2
  have hBs : B ≤ w.heap.size := by omega
  have HHs : Hid (w1.heap.size > w.heap.size) := hs1
  clear hz hs1
  obtain ⟨b, hbs⟩ := HBZ.out
  have HW1 : Hid (ZeroAt w1 b ∧ Below B w w1 ∧ Own24 w1 g 0 [] ∧ b < w1.heap.size ∧ g < b ∧ B ≤ b) := by rw [hbs]; exact ⟨hz2, hb1, ho1, HHs.out, hgs, hBs⟩
  rw [← hbs]
  clear hz2 hb1 ho1 hgs hBs HHs HBZ HO hbs hf
  refine (sfa_walk w1 w1.heap.size (Nat.le_refl _) ((HP.out.below HW1.out.2.1).mono (by have := HW1.out; omega))).mono ?_
  rintro e w2 ⟨rfl, hbw2⟩
  have HW2 : Hid (ZeroAt w2 b ∧ Below B w w2 ∧ Own24 w2 g 0 [] ∧ b < w2.heap.size ∧ g < b ∧ B ≤ b) := by
    obtain ⟨q1, q2, q3, q4, q5, q6⟩ := HW1.out
    have hB3 : B ≤ w1.heap.size := by omega
    exact ⟨q1.below hbw2 q4, q2.trans (hbw2.mono hB3), q3.below hbw2 (by omega), Nat.lt_of_lt_of_le q4 hbw2.size, q5, q6⟩
  clear hbw2
  go_wp2_with fail
  have hz2 : Hid (ZeroAt w2.drew b) := HW2.out.1
  have HS0 : Hid (Below b w2 w2.drew) := (Below.refl _ _).drew
  have HT : Hid (Lib.TabIs Tryz.prog w2.drew "internal/strconv.uint64pow10" .u64 Lib.pow10Tab) := (HL.out.below (HW2.out.2.1.drew)).tab
  have hnd : Lib.nDigits 1000000000000000 = 16 := by decide +kernel
  have hdz : ∀ t, 1 ≤ t → t < 16 → (dg 1000000000000000 (16 - 1 - t)).toNat = 48 := fun t h1 h2 => (by decide +kernel : ∀ t : Fin 16, 1 ≤ t.val → (dg 1000000000000000 (16 - 1 - t.val)).toNat = 48) ⟨t, h2⟩ h1
  have HDZ := Lib.hid hdz
  clear hdz
  go_cut [22, 23] (fun dv nv wd => (dv = .int .i64 0 ∧ nv = .int .i64 1) ∧ Aside (Below B w wd ∧ wd.cell? ⟨b, 0, none⟩ = some (.int .u8 49) ∧ Own24 wd g 0 [] ∧ g < wd.heap.size ∧ B ≤ wd.heap.size))
  case first =>
    go_region_held3 (fun w' => Below b w2 w') ((first | exact HS0.out | exact hS1))
      (first
        | (go_at_call 109; refine (Tryz.internal_strconv_numDigits 1000000000000000 (by omega) (by omega) _ HT.out).mono ?_; rintro e wA ⟨rfl, rfl⟩; rw [hnd])
        | (go_at_call 160; refine (setd_walk 1000000000000000 16 49 b b (-16) _ hz2.out (Nat.le_refl _) (by decide) (by decide) (by decide) (by decide) (by decide) (by decide) (by decide +kernel) (by decide) HDZ.out).mono ?_; rintro e wA ⟨rfl, hcA, hbA⟩; have hS1 := HS0.out.trans hbA; have HcA := Lib.hid hcA; clear hcA hbA))
    all_goals go_wp2_with fail
    all_goals
      have HZ : Hid (Below B w wA ∧ wA.cell? ⟨b, 0, none⟩ = some (.int .u8 49) ∧ Own24 wA g 0 [] ∧ g < wA.heap.size ∧ B ≤ wA.heap.size) := by
        obtain ⟨q1, q2, q3, q4, q5, q6⟩ := HW2.out
        have := hS1.size
        exact ⟨q2.trans (hS1.mono q6), HcA.out, q3.below hS1 q5, by omega, by omega⟩
      go_meet
      exact ⟨⟨rfl, rfl⟩, HZ.out⟩
  case rest =>
    obtain ⟨⟨rfl, rfl⟩, hA⟩ := hcut
    clear HW2 HT HDZ HS0 hz2 HL HP HW1 hlen a1 a2 a3 hnd
    go_wp2_with fail
    refine (efg1_walk b g 49 B _ hA.out.2.2.1 hA.out.2.1 hB hA.out.2.2.2.2).mono ?_
    rintro e w3 ⟨rfl, h5, h6⟩
    have H5 : Hid (Own24 w3 g 5 [49, 101, 45, 48, 49] ∧ Below B w w3) := ⟨h5, hA.out.1.trans h6⟩
    clear h5 h6 hA
    go_wp2_with fail
    go_ret
    exact ⟨rfl, H5.out⟩
/- case 2 -/
set_option maxHeartbeats 1000000 in
set_option maxRecDepth 100000 in
theorem ftc_walk (g B : Nat) (w : World) (hown : Own24 w g 0 []) (hB : B ≤ g) (hB2 : g < w.heap.size) (hP : PowAt w B) (hL : LibAt w B) :
    Calls Tryz.prog 142 #[.slice (some ⟨g, 0, none⟩) 0 24, .float .f64 1, .int .u8 101, .int .i64 (-1)] w (EfgPost [53, 101, 45, 51, 50, 52] 6 g B w) := by
  have HO := Lib.hid hown
  have HP := Lib.hid hP
  have HL := Lib.hid hL
  have hf : ∀ w, (callFunc 155 #[.float .f64 1]).run Tryz.prog w = .ok (.value (.int .u64 1)) w := fun w => sbits64 1 w
  have hlen := fun w => Tryz.bits_Len64 (1 : Int) w (by omega) (by omega)
  rw [show Lib.bitLen (1 : Int).toNat = 1 by decide +kernel] at hlen
  have a1 : bits BinOp.and IntKind.i64 0 2047 = 0 := by decide +kernel
  have a2 : bits BinOp.and IntKind.u64 1 4503599627370495 = 1 := by decide +kernel
  have a3 : bits BinOp.or IntKind.u64 1 4503599627370496 = 4503599627370497 := by decide +kernel
  clear hown hP hL
  go_enter Tryz.func142, Tryz.ntmps142
  go_wp2_with fail
  go_quiet (fail)
  go_wp2_with (first | (go_at_call 137; refine (hlen _).mono ?_; rintro e w1 ⟨rfl, rfl⟩))
  have hz := zeroAt_alloc (w.drewN nq) buf32 rfl
  have hb1 : Below B w ((w.drewN nq).alloc buf32) := ((belowN (Below.refl B w) nq).alloc (Nat.le_trans hB (Nat.le_of_lt hB2)) buf32)
  have ho1 : Own24 ((w.drewN nq).alloc buf32) g 0 [] := HO.out.alloc buf32
  have hs1 : w.heap.size < ((w.drewN nq).alloc buf32).heap.size := by rw [World.size_alloc]; exact Nat.lt_succ_self _
  unfold buf32 at hz hb1 ho1 hs1
  generalize (w.drewN nq).alloc _ = w1 at *
  have HBZ : Hid (∃ b, b = w.heap.size) := ⟨_, rfl⟩
  have hz2 : ZeroAt w1 w.heap.size := hz
  have hgs : g < w.heap.size := hB2
  have hBs : B ≤ w.heap.size := by omega
  have HHs : Hid (w1.heap.size > w.heap.size) := hs1
  clear hz hs1
  obtain ⟨b, hbs⟩ := HBZ.out
  have HW1 : Hid (ZeroAt w1 b ∧ Below B w w1 ∧ Own24 w1 g 0 [] ∧ b < w1.heap.size ∧ g < b ∧ B ≤ b) := by rw [hbs]; exact ⟨hz2, hb1, ho1, HHs.out, hgs, hBs⟩
  rw [← hbs]
  clear hz2 hb1 ho1 hgs hBs HHs HBZ HO hbs hf
  refine (sfc_walk w1 w1.heap.size (Nat.le_refl _) ((HP.out.below HW1.out.2.1).mono (by have := HW1.out; omega))).mono ?_
  rintro e w2 ⟨rfl, hbw2⟩
  have HW2 : Hid (ZeroAt w2 b ∧ Below B w w2 ∧ Own24 w2 g 0 [] ∧ b < w2.heap.size ∧ g < b ∧ B ≤ b) := by
    obtain ⟨q1, q2, q3, q4, q5, q6⟩ := HW1.out
    have hB3 : B ≤ w1.heap.size := by omega
    exact ⟨q1.below hbw2 q4, q2.trans (hbw2.mono hB3), q3.below hbw2 (by omega), Nat.lt_of_lt_of_le q4 hbw2.size, q5, q6⟩
  clear hbw2
  go_wp2_with fail
  have hz2 : Hid (ZeroAt w2.drew b) := HW2.out.1
  have HS0 : Hid (Below b w2 w2.drew) := (Below.refl _ _).drew
  have HT : Hid (Lib.TabIs Tryz.prog w2.drew "internal/strconv.uint64pow10" .u64 Lib.pow10Tab) := (HL.out.below (HW2.out.2.1.drew)).tab
  have hnd : Lib.nDigits 5 = 1 := by decide +kernel
  have hdz : ∀ t, 1 ≤ t → t < 1 → (dg 5 (1 - 1 - t)).toNat = 48 := fun t h1 h2 => (by decide +kernel : ∀ t : Fin 1, 1 ≤ t.val → (dg 5 (1 - 1 - t.val)).toNat = 48) ⟨t, h2⟩ h1
  have HDZ := Lib.hid hdz
  clear hdz
  go_cut [22, 23] (fun dv nv wd => (dv = .int .i64 (-323) ∧ nv = .int .i64 1) ∧ Aside (Below B w wd ∧ wd.cell? ⟨b, 0, none⟩ = some (.int .u8 53) ∧ Own24 wd g 0 [] ∧ g < wd.heap.size ∧ B ≤ wd.heap.size))
  case first =>
    go_region_held3 (fun w' => Below b w2 w') ((first | exact HS0.out | exact hS1))
      (first
        | (go_at_call 109; refine (Tryz.internal_strconv_numDigits 5 (by omega) (by omega) _ HT.out).mono ?_; rintro e wA ⟨rfl, rfl⟩; rw [hnd])
        | (go_at_call 160; refine (setd_walk 5 1 53 b b (-324) _ hz2.out (Nat.le_refl _) (by decide) (by decide) (by decide) (by decide) (by decide) (by decide) (by decide +kernel) (by decide) HDZ.out).mono ?_; rintro e wA ⟨rfl, hcA, hbA⟩; have hS1 := HS0.out.trans hbA; have HcA := Lib.hid hcA; clear hcA hbA))
    all_goals go_wp2_with fail
    all_goals
      have HZ : Hid (Below B w wA ∧ wA.cell? ⟨b, 0, none⟩ = some (.int .u8 53) ∧ Own24 wA g 0 [] ∧ g < wA.heap.size ∧ B ≤ wA.heap.size) := by
        obtain ⟨q1, q2, q3, q4, q5, q6⟩ := HW2.out
        have := hS1.size
        exact ⟨q2.trans (hS1.mono q6), HcA.out, q3.below hS1 q5, by omega, by omega⟩
      go_meet
      exact ⟨⟨rfl, rfl⟩, HZ.out⟩
  case rest =>
    obtain ⟨⟨rfl, rfl⟩, hA⟩ := hcut
    clear HW2 HT HDZ HS0 hz2 HL HP HW1 hlen a1 a2 a3 hnd
    go_wp2_with fail
    refine (efg2_walk b g 53 B _ hA.out.2.2.1 hA.out.2.1 hB hA.out.2.2.2.2).mono ?_
    rintro e w3 ⟨rfl, h5, h6⟩
    have H5 : Hid (Own24 w3 g 6 [53, 101, 45, 51, 50, 52] ∧ Below B w w3) := ⟨h5, hA.out.1.trans h6⟩
    clear h5 h6 hA
    go_wp2_with fail
    go_ret
    exact ⟨rfl, H5.out⟩
set_option maxHeartbeats 1000000 in
set_option maxRecDepth 100000 in
theorem ftb_walk (g B : Nat) (w : World) (hown : Own24 w g 0 []) (hB : B ≤ g) (hB2 : g < w.heap.size) (hP : PowAt w B) (hL : LibAt w B) :
    Calls Tryz.prog 141 #[.slice (some ⟨g, 0, none⟩) 0 24, .float .f32 1036831949, .int .u8 101, .int .i64 (-1)] w (EfgPost [49, 101, 45, 48, 49] 5 g B w) := by
  have HO := Lib.hid hown
  have HP := Lib.hid hP
  have HL := Lib.hid hL
  have hf : ∀ w, (callFunc 154 #[.float .f32 1036831949]).run Tryz.prog w = .ok (.value (.int .u32 1036831949)) w := fun w => sbits32 1036831949 w
  have hlen := fun w => Tryz.bits_Len64 (13421773 : Int) w (by omega) (by omega)
  rw [show Lib.bitLen (13421773 : Int).toNat = 24 by decide +kernel] at hlen
  have a1 : bits BinOp.and IntKind.i64 123 255 = 123 := by decide +kernel
  have a2 : bits BinOp.and IntKind.u64 1036831949 8388607 = 5033165 := by decide +kernel
  have a3 : bits BinOp.or IntKind.u64 5033165 8388608 = 13421773 := by decide +kernel
  clear hown hP hL
  go_enter Tryz.func141, Tryz.ntmps141
  go_wp2_with fail
  go_quiet (fail)
  go_wp2_with (first | (go_at_call 137; refine (hlen _).mono ?_; rintro e w1 ⟨rfl, rfl⟩))
  have hz := zeroAt_alloc (w.drewN nq) buf32 rfl
  have hb1 : Below B w ((w.drewN nq).alloc buf32) := ((belowN (Below.refl B w) nq).alloc (Nat.le_trans hB (Nat.le_of_lt hB2)) buf32)
  have ho1 : Own24 ((w.drewN nq).alloc buf32) g 0 [] := HO.out.alloc buf32
  have hs1 : w.heap.size < ((w.drewN nq).alloc buf32).heap.size := by rw [World.size_alloc]; exact Nat.lt_succ_self _
  unfold buf32 at hz hb1 ho1 hs1
  generalize (w.drewN nq).alloc _ = w1 at *
  have HBZ : Hid (∃ b, b = w.heap.size) := ⟨_, rfl⟩
  have hz2 : ZeroAt w1 w.heap.size := hz
  have hgs : g < w.heap.size := hB2
  have hBs : B ≤ w.heap.size := by omega
  have HHs : Hid (w1.heap.size > w.heap.size) := hs1
  clear hz hs1
  obtain ⟨b, hbs⟩ := HBZ.out
  have HW1 : Hid (ZeroAt w1 b ∧ Below B w w1 ∧ Own24 w1 g 0 [] ∧ b < w1.heap.size ∧ g < b ∧ B ≤ b) := by rw [hbs]; exact ⟨hz2, hb1, ho1, HHs.out, hgs, hBs⟩
  rw [← hbs]
  clear hz2 hb1 ho1 hgs hBs HHs HBZ HO hbs hf
  refine (sfb_walk w1 w1.heap.size (Nat.le_refl _) ((HP.out.below HW1.out.2.1).mono (by have := HW1.out; omega))).mono ?_
  rintro e w2 ⟨rfl, hbw2⟩
  have HW2 : Hid (ZeroAt w2 b ∧ Below B w w2 ∧ Own24 w2 g 0 [] ∧ b < w2.heap.size ∧ g < b ∧ B ≤ b) := by
    obtain ⟨q1, q2, q3, q4, q5, q6⟩ := HW1.out
    have hB3 : B ≤ w1.heap.size := by omega
    exact ⟨q1.below hbw2 q4, q2.trans (hbw2.mono hB3), q3.below hbw2 (by omega), Nat.lt_of_lt_of_le q4 hbw2.size, q5, q6⟩
  clear hbw2
  go_wp2_with fail
  have hz2 : Hid (ZeroAt w2.drew b) := HW2.out.1
  have HS0 : Hid (Below b w2 w2.drew) := (Below.refl _ _).drew
  have HT : Hid (Lib.TabIs Tryz.prog w2.drew "internal/strconv.uint64pow10" .u64 Lib.pow10Tab) := (HL.out.below (HW2.out.2.1.drew)).tab
  have hnd : Lib.nDigits 10000000 = 8 := by decide +kernel
  have hdz : ∀ t, 1 ≤ t → t < 8 → (dg 10000000 (8 - 1 - t)).toNat = 48 := fun t h1 h2 => (by decide +kernel : ∀ t : Fin 8, 1 ≤ t.val → (dg 10000000 (8 - 1 - t.val)).toNat = 48) ⟨t, h2⟩ h1
  have HDZ := Lib.hid hdz
  clear hdz
  go_cut [22, 23] (fun dv nv wd => (dv = .int .i64 0 ∧ nv = .int .i64 1) ∧ Aside (Below B w wd ∧ wd.cell? ⟨b, 0, none⟩ = some (.int .u8 49) ∧ Own24 wd g 0 [] ∧ g < wd.heap.size ∧ B ≤ wd.heap.size))
  case first =>
    go_region_held3 (fun w' => Below b w2 w') ((first | exact HS0.out | exact hS1))
      (first
        | (go_at_call 109; refine (Tryz.internal_strconv_numDigits 10000000 (by omega) (by omega) _ HT.out).mono ?_; rintro e wA ⟨rfl, rfl⟩; rw [hnd])
        | (go_at_call 160; refine (setd_walk 10000000 8 49 b b (-8) _ hz2.out (Nat.le_refl _) (by decide) (by decide) (by decide) (by decide) (by decide) (by decide) (by decide +kernel) (by decide) HDZ.out).mono ?_; rintro e wA ⟨rfl, hcA, hbA⟩; have hS1 := HS0.out.trans hbA; have HcA := Lib.hid hcA; clear hcA hbA))
    all_goals go_wp2_with fail
    all_goals
      have HZ : Hid (Below B w wA ∧ wA.cell? ⟨b, 0, none⟩ = some (.int .u8 49) ∧ Own24 wA g 0 [] ∧ g < wA.heap.size ∧ B ≤ wA.heap.size) := by
        obtain ⟨q1, q2, q3, q4, q5, q6⟩ := HW2.out
        have := hS1.size
        exact ⟨q2.trans (hS1.mono q6), HcA.out, q3.below hS1 q5, by omega, by omega⟩
      go_meet
      exact ⟨⟨rfl, rfl⟩, HZ.out⟩
  case rest =>
    obtain ⟨⟨rfl, rfl⟩, hA⟩ := hcut
    clear HW2 HT HDZ HS0 hz2 HL HP HW1 hlen a1 a2 a3 hnd
    go_wp2_with fail
    refine (efg1_walk b g 49 B _ hA.out.2.2.1 hA.out.2.1 hB hA.out.2.2.2.2).mono ?_
    rintro e w3 ⟨rfl, h5, h6⟩
    have H5 : Hid (Own24 w3 g 5 [49, 101, 45, 48, 49] ∧ Below B w w3) := ⟨h5, hA.out.1.trans h6⟩
    clear h5 h6 hA
    go_wp2_with fail
    go_ret
    exact ⟨rfl, H5.out⟩
end Go.Proofs.YtnpinogjajhlhaaGreatDoor.Fl
end
