/- A part of the proof that lexiconlaw03.NumsReads answers true at every kind and every text: WkLaid, WkFacts, WkCard. No condition. -/
import Derived.Test.YtnpinogjajhlhaaGreatDoorZ50
import Derived.Test.YtnpinogjajhlhaaGreatDoorRows
import Derived.Test.YtnpinogjajhlhaaGreatDoorCards
import Derived.Test.YtnpinogjajhlhaaGreatDoorTie
import Derived.Lib.LaidU8
import Derived.OpenShut
import Derived.Shelf.Vars
import Derived.Handed
import Derived.Lay
import Derived.WalkKit
import Derived.ProofKit
import Derived.SevenTiedAt
import Derived.ChangeMaps5
section
/- What the row's listed variables hold, as the walks ask it: reading a datum's cells. -/
namespace Go.Proofs.YtnpinogjajhlhaaGreatDoor.Fl
open Go.RowKit Go.Lib

noncomputable abbrev rdw (w : World) := DataW.trod (fun (_ : TypeId × Value) => ()) Tryz.prog w 0 (fun _ => true) false

section
variable {w : World} {fuel : Nat} {t : TypeId} {cs : List Value} {p : List MemPlace}

theorem leaf_int {k : IntKind} {z : Int} (hu : Tryz.prog.underlying t = some (.int k)) (h : rdw w fuel t cs = some (.lit (.int k z), p)) : cs = [.int k z] := by
  obtain ⟨n, hc, hx, -⟩ := DataW.trod_int hu h
  simp only [Prod.mk.injEq, DataW.lit.injEq, Lit.int.injEq, true_and] at hx
  rw [hc, hx.1]

theorem leaf_bool {b : Bool} (hu : Tryz.prog.underlying t = some .bool) (h : rdw w fuel t cs = some (.lit (.bool b), p)) : cs = [.bool b] := by
  obtain ⟨n, hc, hx⟩ := DataW.trod_bool hu h
  simp only [Prod.mk.injEq, DataW.lit.injEq, Lit.bool.injEq] at hx
  rw [hc, hx.1]

theorem leaf_string {l : List UInt8} (hu : Tryz.prog.underlying t = some .string) (h : rdw w fuel t cs = some (.lit (.string l), p)) : cs = [.string ⟨l.toArray⟩] := by
  obtain ⟨s, hc, hx, -⟩ := DataW.trod_string hu h
  simp only [Prod.mk.injEq, DataW.lit.injEq, Lit.string.injEq] at hx
  rw [hc, hx.1]

theorem leaf_float {k : FloatKind} {b : Nat} (hu : Tryz.prog.underlying t = some (.float k)) (h : rdw w fuel t cs = some (.lit (.float k b), p)) : cs = [.float k b] := by
  cases fuel with
  | zero => simp [DataW.trod] at h
  | succ n =>
    unfold rdw DataW.trod at h
    rw [hu] at h
    split at h <;> simp_all

theorem slice_at {e : TypeId} {c n : Nat} {ds : List (DataW Unit)} (ht : Tryz.prog.underlying t = some (.slice e)) (hc : Tryz.prog.cellsOf e = c) (hc0 : 0 < c) (hn : ds.length = n) (h0 : 0 < n) (h : rdw w fuel t cs = some (.slice ds [], p)) :
    ∃ b o, cs = [.slice (some ⟨b, o, none⟩) n n] ∧ b < w.heap.size ∧ ∀ i, i < n → ∃ fuel' cs' d p', ds[i]? = some d ∧ rdw w fuel' e cs' = some (d, p') ∧ ∀ j, j < c → w.cell? ⟨b, o + i * c + j, none⟩ = cs'[j]? := by
  rcases DataW.trod_slice ht h with ⟨_, hx⟩ | ⟨a, len, cap, el, rs, m, rfl, hc1, hx, _, hlc, _, hel, helem, hsp, _⟩
  · cases hx
  simp only [Prod.mk.injEq, DataW.slice.injEq] at hx
  obtain ⟨⟨eE, eR⟩, -⟩ := hx
  have hlen : len = n := by
    have := congrArg List.length eE
    rw [List.length_map] at this
    omega
  have hrs : rs = [] := List.map_eq_nil_iff.1 eR.symm
  have hcap : cap = n := by
    have := (hsp rfl).1
    rw [hrs, List.length_nil] at this
    omega
  subst hlen hcap
  obtain ⟨b, o, sp⟩ := a
  have hat : ∀ i, i < cap → ∃ cs' d p', ds[i]? = some d ∧ rdw w m e cs' = some (d, p') ∧ cs'.length = c ∧ ∀ j, j < c → w.cell? (((⟨b, o, sp⟩ : Addr).add (i * c)).add j) = cs'[j]? := by
    intro i hi
    have h1 := helem i hi
    rw [hc] at h1
    obtain ⟨x, hx⟩ : ∃ x, el[i]? = some x := ⟨el[i]'(by omega), List.getElem?_eq_getElem (by omega)⟩
    rw [hx] at h1
    obtain ⟨ce, hce, hte⟩ := Option.bind_eq_some_iff.1 h1
    obtain ⟨_, hl, hcell⟩ := World.cells?_some hce
    refine ⟨ce, x.1, x.2, ?_, hte, hl, hcell⟩
    rw [eE, List.getElem?_map, hx]; rfl
  have hsp0 : sp = none := by
    obtain ⟨cs', d, p', -, -, hl, hcell⟩ := hat 0 h0
    have hk := hcell 0 hc0
    rw [List.getElem?_eq_getElem (by omega), Nat.zero_mul] at hk
    have e1 : ((⟨b, o, sp⟩ : Addr).add 0).add 0 = ⟨b, o, sp⟩ := by simp [Addr.add]
    rw [e1] at hk
    exact cell_spot hk
  subst hsp0
  refine ⟨b, o, hc1, ?_, fun i hi => ?_⟩
  · obtain ⟨cs', d, p', -, -, hl, hcell⟩ := hat 0 h0
    have hk := hcell 0 hc0
    rw [List.getElem?_eq_getElem (by omega), Addr.add_lit, Addr.add_lit] at hk
    exact World.block_lt_of_cell? w _ hk
  · obtain ⟨cs', d, p', h1, h2, hl, hcell⟩ := hat i hi
    refine ⟨m, cs', d, p', h1, h2, fun j hj => ?_⟩
    have := hcell j hj
    rw [Addr.add_lit, Addr.add_lit] at this
    exact this

/-- A struct of two plain fields. -/
theorem struct2 {f0 f1 : Field} {l0 l1 : Lit} (ht : Tryz.prog.underlying t = some (.struct #[f0, f1])) (ho0 : f0.offset = 0) (ho1 : f1.offset = 1) (hc0 : Tryz.prog.cellsOf f0.type = 1) (hc1 : Tryz.prog.cellsOf f1.type = 1) (hct : Tryz.prog.cellsOf t = 2)
    (h : rdw w fuel t cs = some (.agg [.lit l0, .lit l1], p)) : ∃ n a b q0 q1, cs = [a, b] ∧ rdw w n f0.type [a] = some (.lit l0, q0) ∧ rdw w n f1.type [b] = some (.lit l1, q1) := by
  obtain ⟨xs, n, rfl, hx, hl, hxl, hall⟩ := DataW.trod_struct ht h
  obtain ⟨x0, x1, rfl⟩ : ∃ x0 x1, xs = [x0, x1] := by
    match xs, hxl with
    | [x0, x1], _ => exact ⟨x0, x1, rfl⟩
  rw [hct] at hl
  obtain ⟨a, b, rfl⟩ : ∃ a b, cs = [a, b] := by
    clear hall hx h ht
    match cs, hl with
    | [a, b], _ => exact ⟨a, b, rfl⟩
  have h0 := hall 0 f0 rfl
  have h1 := hall 1 f1 rfl
  rw [ho0, hc0] at h0
  rw [ho1, hc1] at h1
  simp only [List.map_cons, List.map_nil, Prod.mk.injEq, DataW.agg.injEq, List.cons.injEq, and_true] at hx
  obtain ⟨⟨e0, e1⟩, -⟩ := hx
  refine ⟨n, a, b, x0.2, x1.2, rfl, ?_, ?_⟩
  · rw [e0]; exact h0
  · rw [e1]; exact h1

/-- A struct of three plain fields. -/
theorem struct3 {f0 f1 f2 : Field} {l0 l1 l2 : Lit} (ht : Tryz.prog.underlying t = some (.struct #[f0, f1, f2])) (ho0 : f0.offset = 0) (ho1 : f1.offset = 1) (ho2 : f2.offset = 2) (hc0 : Tryz.prog.cellsOf f0.type = 1) (hc1 : Tryz.prog.cellsOf f1.type = 1) (hc2 : Tryz.prog.cellsOf f2.type = 1) (hct : Tryz.prog.cellsOf t = 3)
    (h : rdw w fuel t cs = some (.agg [.lit l0, .lit l1, .lit l2], p)) : ∃ n a b c q0 q1 q2, cs = [a, b, c] ∧ rdw w n f0.type [a] = some (.lit l0, q0) ∧ rdw w n f1.type [b] = some (.lit l1, q1) ∧ rdw w n f2.type [c] = some (.lit l2, q2) := by
  obtain ⟨xs, n, rfl, hx, hl, hxl, hall⟩ := DataW.trod_struct ht h
  obtain ⟨x0, x1, x2, rfl⟩ : ∃ x0 x1 x2, xs = [x0, x1, x2] := by
    match xs, hxl with
    | [x0, x1, x2], _ => exact ⟨x0, x1, x2, rfl⟩
  rw [hct] at hl
  obtain ⟨a, b, c, rfl⟩ : ∃ a b c, cs = [a, b, c] := by
    clear hall hx h ht
    match cs, hl with
    | [a, b, c], _ => exact ⟨a, b, c, rfl⟩
  have h0 := hall 0 f0 rfl
  have h1 := hall 1 f1 rfl
  have h2 := hall 2 f2 rfl
  rw [ho0, hc0] at h0
  rw [ho1, hc1] at h1
  rw [ho2, hc2] at h2
  simp only [List.map_cons, List.map_nil, Prod.mk.injEq, DataW.agg.injEq, List.cons.injEq, and_true] at hx
  obtain ⟨⟨e0, e1, e2⟩, -⟩ := hx
  refine ⟨n, a, b, c, x0.2, x1.2, x2.2, rfl, ?_, ?_, ?_⟩
  · rw [e0]; exact h0
  · rw [e1]; exact h1
  · rw [e2]; exact h2
end
end Go.Proofs.YtnpinogjajhlhaaGreatDoor.Fl
end
section
/- From the row's condition on the listed variables to what the walks ask of the memory. -/
namespace Go.Proofs.YtnpinogjajhlhaaGreatDoor.Fl
open Go.RowKit Go.Lib

theorem var_at {w : World} {n : String} {d : DataW Unit} {g : Nat} {t : TypeId} (hg : Tryz.prog.globalNamed n = some g) (ht : (Tryz.prog.globals[g]?).map (·.type) = some t) (h : VarReads Tryz.prog w n d) :
    g < w.heap.size ∧ ∃ (cs : Array Value) (fuel : Nat) (p : List MemPlace), w.var? Tryz.prog n = some cs ∧ rdw w fuel t cs.toList = some (d, p) ∧ ∀ i, w.cell? ⟨g, i, none⟩ = cs.toList[i]? := by
  obtain ⟨g', t', cs, fuel, p, h1, h2, h3, h4⟩ := h
  obtain rfl := Option.some.inj (hg.symm.trans h1)
  obtain rfl := Option.some.inj (ht.symm.trans h2)
  refine ⟨?_, cs, fuel, p, h3, h4, fun i => by rw [World.var?_cell hg h3 i, Array.getElem?_toList]⟩
  simp only [World.var?, hg, Option.bind_some] at h3
  split at h3
  · rename_i c _ _ hh
    exact (Array.getElem?_eq_some_iff.1 hh).1
  · cases h3

theorem ptab_of {w : World} (h : VarReads Tryz.prog w "internal/strconv.powtab" Rows.laid_internal_strconv_powtab) : PowtabAt w w.heap.size := by
  obtain ⟨hg, cs, fuel, p, -, h2, h3⟩ := var_at (g := 13) (t := 225) (by kernel_rfl) (by kernel_rfl) h
  obtain ⟨b, o, hc, hb, hall⟩ := slice_at (c := 1) (n := 9) Tryz.underlying225 (by kernel_rfl) (by decide) rfl (by decide) h2
  refine ⟨hg, b, o, hb, by rw [h3 0, hc]; rfl, fun k hk => ?_⟩
  obtain ⟨f, cs', d, q, hd, hr, hcell⟩ := hall k hk
  have hd2 : (ptab.map fun z => (DataW.lit (.int .i64 (z : Nat)) : DataW Unit))[k]? = some d := hd
  rw [List.getElem?_map, List.getElem?_eq_getElem (show k < ptab.length from hk)] at hd2
  obtain rfl := (Option.some.inj hd2).symm
  have := leaf_int Tryz.underlying3 hr
  have h4 := hcell 0 (by decide)
  rw [this, Nat.mul_one, Nat.add_zero] at h4
  rw [h4, List.getD, List.getElem?_eq_getElem (show k < ptab.length from hk)]; rfl

theorem f64_of {w : World} (h : VarReads Tryz.prog w "internal/strconv.float64pow10" Rows.laid_internal_strconv_float64pow10) : F64At w w.heap.size := by
  obtain ⟨hg, cs, fuel, p, -, h2, h3⟩ := var_at (g := 14) (t := 226) (by kernel_rfl) (by kernel_rfl) h
  obtain ⟨b, o, hc, hb, hall⟩ := slice_at (c := 1) (n := 23) Tryz.underlying226 (by kernel_rfl) (by decide) rfl (by decide) h2
  refine ⟨hg, b, o, hb, by rw [h3 0, hc]; rfl, fun k hk => ?_⟩
  obtain ⟨f, cs', d, q, hd, hr, hcell⟩ := hall k hk
  have hd2 : (f64tab.map fun z => (DataW.lit (.float .f64 z) : DataW Unit))[k]? = some d := hd
  rw [List.getElem?_map, List.getElem?_eq_getElem (show k < f64tab.length from hk)] at hd2
  obtain rfl := (Option.some.inj hd2).symm
  have := leaf_float Tryz.underlying58 hr
  have h4 := hcell 0 (by decide)
  rw [this, Nat.mul_one, Nat.add_zero] at h4
  rw [h4, List.getD, List.getElem?_eq_getElem (show k < f64tab.length from hk)]; rfl

theorem f32_of {w : World} (h : VarReads Tryz.prog w "internal/strconv.float32pow10" Rows.laid_internal_strconv_float32pow10) : F32At w w.heap.size := by
  obtain ⟨hg, cs, fuel, p, -, h2, h3⟩ := var_at (g := 12) (t := 223) (by kernel_rfl) (by kernel_rfl) h
  obtain ⟨b, o, hc, hb, hall⟩ := slice_at (c := 1) (n := 11) Tryz.underlying223 (by kernel_rfl) (by decide) rfl (by decide) h2
  refine ⟨hg, b, o, hb, by rw [h3 0, hc]; rfl, fun k hk => ?_⟩
  obtain ⟨f, cs', d, q, hd, hr, hcell⟩ := hall k hk
  have hd2 : (f32tab.map fun z => (DataW.lit (.float .f32 z) : DataW Unit))[k]? = some d := hd
  rw [List.getElem?_map, List.getElem?_eq_getElem (show k < f32tab.length from hk)] at hd2
  obtain rfl := (Option.some.inj hd2).symm
  have := leaf_float Tryz.underlying59 hr
  have h4 := hcell 0 (by decide)
  rw [this, Nat.mul_one, Nat.add_zero] at h4
  rw [h4, List.getD, List.getElem?_eq_getElem (show k < f32tab.length from hk)]; rfl

theorem cheats_of {w : World} (h : VarReads Tryz.prog w "internal/strconv.leftcheats" Rows.laid_internal_strconv_leftcheats) : CheatsAt w w.heap.size := by
  obtain ⟨hg, cs, fuel, p, -, h2, h3⟩ := var_at (g := 16) (t := 234) (by kernel_rfl) (by kernel_rfl) h
  obtain ⟨b, o, hc, hb, hall⟩ := slice_at (c := 2) (n := 61) Tryz.underlying234 (by kernel_rfl) (by decide) (by rw [List.length_map]; decide +kernel) (by decide) h2
  refine ⟨hg, b, o, hb, by rw [h3 0, hc]; rfl, fun k hk => ?_⟩
  obtain ⟨f, cs', d, q, hd, hr, hcell⟩ := hall k hk
  have hk2 : k < Go.Pinned.cheatRows.length := Nat.lt_of_lt_of_le hk (by decide +kernel)
  rw [List.getElem?_map, List.getElem?_eq_getElem hk2] at hd
  obtain rfl := (Option.some.inj hd).symm
  obtain ⟨n, x, y, q0, q1, rfl, r0, r1⟩ := struct2 Tryz.underlying233 rfl rfl (by kernel_rfl) (by kernel_rfl) (by kernel_rfl) hr
  have e0 := leaf_int Tryz.underlying3 r0
  have e1 := leaf_string Tryz.underlying9 r1
  have h4 := hcell 0 (by decide)
  have h5 := hcell 1 (by decide)
  injection e0 with e0
  injection e1 with e1
  subst e0 e1
  have hck : cheat k = Go.Pinned.cheatRows[k] := by unfold cheat; rw [List.getD, List.getElem?_eq_getElem hk2]; rfl
  rw [hck]
  exact ⟨h4, h5⟩

theorem pow_of {w : World} (h : VarReads Tryz.prog w "internal/strconv.pow10Tab" Rows.laid_internal_strconv_pow10Tab) : PowAt w w.heap.size := by
  obtain ⟨hg, cs, fuel, p, -, h2, h3⟩ := var_at (g := 15) (t := 230) (by kernel_rfl) (by kernel_rfl) h
  obtain ⟨xs, m, rfl, hx, hl, hxl, hall⟩ := DataW.trod_array Tryz.underlying230 h2
  refine ⟨hg, fun k hk => ?_⟩
  have hk2 : k < Go.Pinned.pow10Rows.length := Nat.lt_of_lt_of_le hk (by decide +kernel)
  have hx1 : xs.map (·.1) = Go.Pinned.pow10Rows.map fun x => (DataW.agg [.lit (.int .u64 x.1), .lit (.int .u64 x.2)] : DataW Unit) := by
    have := congrArg Prod.fst hx
    exact (DataW.agg.inj this).symm
  have hxk := hall k hk
  rw [List.getElem?_eq_getElem (show k < xs.length by omega)] at hxk
  have hk3 := congrArg (·[k]?) hx1
  simp only [List.getElem?_map] at hk3
  rw [List.getElem?_eq_getElem (show k < xs.length by omega), List.getElem?_eq_getElem hk2] at hk3
  have hk4 : xs[k].1 = (DataW.agg [.lit (.int .u64 Go.Pinned.pow10Rows[k].1), .lit (.int .u64 Go.Pinned.pow10Rows[k].2)] : DataW Unit) := Option.some.inj hk3
  rw [show Tryz.prog.cellsOf 229 = 2 by kernel_rfl] at hxk
  have hxk2 : rdw w m 229 ((cs.toList.drop (k * 2)).take 2) = some (DataW.agg [.lit (.int .u64 Go.Pinned.pow10Rows[k].1), .lit (.int .u64 Go.Pinned.pow10Rows[k].2)], xs[k].2) := by
    rw [← hk4]; exact hxk
  obtain ⟨n, x, y, q0, q1, hcs, r0, r1⟩ := struct2 Tryz.underlying229 rfl rfl (by kernel_rfl) (by kernel_rfl) (by kernel_rfl) hxk2
  have e0 := leaf_int Tryz.underlying24 r0
  have e1 := leaf_int Tryz.underlying24 r1
  injection e0 with e0
  injection e1 with e1
  subst e0 e1
  have hck : pw k = Go.Pinned.pow10Rows[k] := by unfold pw; rw [List.getD, List.getElem?_eq_getElem hk2]; rfl
  rw [hck]
  have g0 := congrArg (·[0]?) hcs
  have g1 := congrArg (·[1]?) hcs
  simp only [List.getElem?_take, List.getElem?_drop, Nat.add_zero, List.getElem?_cons_zero, List.getElem?_cons_succ] at g0 g1
  rw [h3, h3]
  exact ⟨by simpa using g0, by simpa using g1⟩

theorem info64_of {w : World} (h : VarReads Tryz.prog w "internal/strconv.float64info" Rows.laid_internal_strconv_float64info) : InfoAt w 9 w.heap.size 52 11 (-1023) := by
  obtain ⟨hg, cs, fuel, p, -, h2, h3⟩ := var_at (g := 9) (t := 193) (by kernel_rfl) (by kernel_rfl) h
  obtain ⟨n, a, b, c, q0, q1, q2, hcs, r0, r1, r2⟩ := struct3 Tryz.underlying193 rfl rfl rfl (by kernel_rfl) (by kernel_rfl) (by kernel_rfl) (by kernel_rfl) h2
  have e0 := leaf_int Tryz.underlying63 r0
  have e1 := leaf_int Tryz.underlying63 r1
  have e2 := leaf_int Tryz.underlying3 r2
  injection e0 with e0
  injection e1 with e1
  injection e2 with e2
  refine ⟨hg, ?_, ?_, ?_⟩
  · rw [h3, hcs, e0]; rfl
  · rw [h3, hcs, e1]; rfl
  · rw [h3, hcs, e2]; rfl

theorem info32_of {w : World} (h : VarReads Tryz.prog w "internal/strconv.float32info" Rows.laid_internal_strconv_float32info) : InfoAt w 8 w.heap.size 23 8 (-127) := by
  obtain ⟨hg, cs, fuel, p, -, h2, h3⟩ := var_at (g := 8) (t := 193) (by kernel_rfl) (by kernel_rfl) h
  obtain ⟨n, a, b, c, q0, q1, q2, hcs, r0, r1, r2⟩ := struct3 Tryz.underlying193 rfl rfl rfl (by kernel_rfl) (by kernel_rfl) (by kernel_rfl) (by kernel_rfl) h2
  have e0 := leaf_int Tryz.underlying63 r0
  have e1 := leaf_int Tryz.underlying63 r1
  have e2 := leaf_int Tryz.underlying3 r2
  injection e0 with e0
  injection e1 with e1
  injection e2 with e2
  refine ⟨hg, ?_, ?_, ?_⟩
  · rw [h3, hcs, e0]; rfl
  · rw [h3, hcs, e1]; rfl
  · rw [h3, hcs, e2]; rfl

theorem opt_of {w : World} (h : VarReads Tryz.prog w "internal/strconv.optimize" Rows.laid_internal_strconv_optimize) : 7 < w.heap.size ∧ w.cell? ⟨7, 0, none⟩ = some (.bool true) := by
  obtain ⟨hg, cs, fuel, p, -, h2, h3⟩ := var_at (g := 7) (t := 4) (by kernel_rfl) (by kernel_rfl) h
  exact ⟨hg, by rw [h3, leaf_bool Tryz.underlying4 h2]; rfl⟩

theorem errs_of {w : World} (h : VarReads Tryz.prog w "strconv.ErrRange" Rows.laid_strconv_ErrRange) : ErrsAt w w.heap.size := by
  obtain ⟨hg, cs, fuel, p, h1, h2, -⟩ := var_at (g := 4) (t := 72) (by kernel_rfl) (by kernel_rfl) h
  obtain ⟨f1, u, v, hcs, -, -⟩ := iface_of_trod Tryz.underlying72 h2
  exact ⟨hg, u, v, by rw [h1]; exact congrArg some (Array.toList_inj.1 hcs)⟩

theorem tab_of {w : World} (h : VarReads Tryz.prog w "internal/strconv.uint64pow10" Rows.laid_internal_strconv_uint64pow10) : 2 < w.heap.size ∧ Lib.TabIs Tryz.prog w "internal/strconv.uint64pow10" .u64 Lib.pow10Tab := by
  obtain ⟨hg, cs, fuel, p, h1, h2, -⟩ := var_at (g := 2) (t := 154) (by kernel_rfl) (by kernel_rfl) h
  have h5 : rdw w fuel 154 cs.toList = some (Lib.tabData .u64 Lib.pow10Tab, p) := by
    rw [h2]; rfl
  refine ⟨hg, ?_⟩
  unfold Lib.TabIs
  rw [h1, ← cells_of_tab Tryz.underlying154 Tryz.underlying24 (by kernel_rfl) (by kernel_rfl) h5]

theorem len_of {w : World} (h : w.ShapedOpen Tryz.prog) : 1 < w.heap.size ∧ ∃ m, w.cell? ⟨1, 0, none⟩ = some (.int .i64 m) := by
  have := cell_of_shapedOpen_int (g := 1) (t := 3) (zero := #[.int .i64 0]) (k := .i64) h (by decide +kernel) (by kernel_rfl) rfl (by kernel_rfl) (by kernel_rfl) Tryz.underlying3
  obtain ⟨m, hm⟩ := this
  exact ⟨World.block_lt_of_cell? w _ hm, m, hm⟩

theorem fl_of {w : World} (hL : laidMet Tryz.prog Rows.numsReadsRow.laid w) (hS : w.ShapedOpen Tryz.prog) : FlAt w w.heap.size := by
  have r : ∀ n d, (n, d) ∈ Rows.numsReadsRow.laid → VarReads Tryz.prog w n d := fun n d hm => Lib.laidMet.reads hL hm
  have c := cheats_of (r _ _ (by simp [Rows.numsReadsRow]))
  have p := ptab_of (r _ _ (by simp [Rows.numsReadsRow]))
  have o := opt_of (r _ _ (by simp [Rows.numsReadsRow]))
  have w10 := pow_of (r _ _ (by simp [Rows.numsReadsRow]))
  have t := tab_of (r _ _ (by simp [Rows.numsReadsRow]))
  exact ⟨⟨info64_of (r _ _ (by simp [Rows.numsReadsRow])), c, p, f64_of (r _ _ (by simp [Rows.numsReadsRow])), w10, o⟩,
    ⟨info32_of (r _ _ (by simp [Rows.numsReadsRow])), c, p, f32_of (r _ _ (by simp [Rows.numsReadsRow])), w10, o⟩,
    ⟨errs_of (r _ _ (by simp [Rows.numsReadsRow])), len_of hS, t.2, t.1⟩⟩
end Go.Proofs.YtnpinogjajhlhaaGreatDoor.Fl
end
section
/- NumsReads answers true at every kind and every text, in every memory whose listed variables hold what the program's own text lays. The card ties them to that text. No condition on the arguments. -/
namespace Go.Proofs.YtnpinogjajhlhaaGreatDoor
open Go.ChangeShapes Go.WideShapes Go.ChangeAt Go.RowKit
open Go.ChangeMaps (open_string shut_string)

theorem own : ownKnob Tryz.prog.godebug = none := by kernel_rfl

theorem laid_plain (w : World) : laidMetH Tryz.prog Rows.numsReadsRow.laid w = laidMet Tryz.prog Rows.numsReadsRow.laid w := MakeChecks.laidMetH_plain _ _ _ (by kernel_rfl)

theorem lay_fits (os : Os) : (World.holding Tryz.prog os ⟨#[], #[], []⟩).layFits Tryz.prog Rows.numsReadsRow.laid [] = true := by kernel_rfl
theorem lay_ifaces (os : Os) : (World.holding Tryz.prog os ⟨#[], #[], []⟩).layIfaces Tryz.prog Rows.numsReadsRow.laid (World.laidAll Tryz.prog os Rows.numsReadsRow.laid) = true := by kernel_rfl

theorem lay_shaped (os : Os) : ((World.laidAll Tryz.prog os Rows.numsReadsRow.laid).forCall (fun _ _ => 0) ⟨#[], #[.int .u8 0, .string ⟨#[]⟩], []⟩).Shaped Tryz.prog :=
  World.shaped_of_ZipB (by kernel_rfl) (by kernel_rfl)

theorem lay_met (os : Os) : laidMetH Tryz.prog Rows.numsReadsRow.laid ((World.laidAll Tryz.prog os Rows.numsReadsRow.laid).forCall (fun _ _ => 0) ⟨#[], #[.int .u8 0, .string ⟨#[]⟩], []⟩).memory := by
  rw [laid_plain]; exact laidMet_laidAll _ (lay_fits os) (lay_ifaces os)

set_option maxRecDepth 100000 in
theorem lifted (os : Os) (started : os.Started) (H : Type) (enc : TypeId × Value → H) :
    ReturnsInHanded {} Tryz.checked os 3 .any (fun w args => (Rows.numsReadsSpec.pre enc Tryz.prog Tryz.f3 [] false w args ∧ laidMetH Tryz.prog Rows.numsReadsRow.laid w) ∧ sizedMet enc Tryz.prog Tryz.f3 (OpenSpec.ofChange Rows.numsReadsSpec) false w args)
      (Rows.numsReadsSpec.post enc Tryz.prog Tryz.f3 false true false false) := by
  refine returnsInHanded_of_calls (C := Tryz.checked) own started (by kernel_rfl)
    (ChangeSpec.witness_shaped (enc := enc) (C := Tryz.checked) (os := os) (X := fun w _ => laidMetH Tryz.prog Rows.numsReadsRow.laid w) false (World.laidAll Tryz.prog os Rows.numsReadsRow.laid) #[.int .u8 0, .string ⟨#[]⟩] 8 (World.laidAll_os _ _ _)
      (lay_shaped os) (by kernel_rfl) (by kernel_rfl) (by kernel_rfl) (lay_met os)) ?_
  intro w tape i _ hsh _ hok hpre _
  obtain ⟨_, _, _, fn', hfn', _, _, _, _, hval0⟩ := hok
  obtain rfl : fn' = Tryz.f3 := Option.some.inj (hfn'.symm.trans Tryz.func3)
  obtain ⟨⟨⟨ds, gs, before, hw, _⟩, hL0⟩, _⟩ := hpre
  have hW0 := DataW.Whole.of_heap (w' := w.forCall tape i) (by rfl) hw
  have hL : laidMetH Tryz.prog Rows.numsReadsRow.laid (w.forCall tape i) := hL0.of_heap (by rfl)
  rw [laid_plain] at hL
  have hF := Fl.fl_of hL hsh
  generalize w.forCall tape i = W at *
  obtain ⟨args, hargs0⟩ : ∃ args, i.args = args := ⟨_, rfl⟩
  rw [hargs0] at hW0 hval0 ⊢
  have hval : ∀ (j : Nat) t v, Tryz.f3.params[j]? = some t → args[j]? = some v → Value.okWide Tryz.prog W .any w.heap.size t v := hval0
  have hW' := hW0
  obtain ⟨p, q, hA0, hV, rfl, _, _⟩ := hW0
  have hA : DataW.TrodAll enc Tryz.prog W 0 (fun _ => true) true Tryz.f3.params.toList args.toList ds p := hA0
  rw [Tryz.params3] at hA hval
  obtain ⟨v0, vs0, d0, ds0, p0, q0, hargs, rfl, rfl, h0, r0⟩ := trodAll_cons hA
  obtain ⟨v1, vs1, d1, ds1, p1, q1, rfl, rfl, rfl, h1, r1⟩ := trodAll_cons r0
  obtain ⟨rfl, rfl, rfl⟩ := trodAll_nil r1
  obtain rfl : args = #[v0, v1] := by cases args; simp_all
  obtain ⟨rfl, rfl⟩ := trodVars_none hV
  obtain ⟨k, rfl, rfl, rfl, wk⟩ := open_int Tryz.underlying22 (hval 0 22 v0 rfl rfl) h0
  obtain ⟨S, rfl, rfl, rfl, wS⟩ := open_string Tryz.underlying9 (hval 1 9 v1 rfl rfl) h1
  simp only [List.append_nil] at hW'
  refine (Fl.reads_walk k S W.heap.size W (Nat.le_refl _) hF).mono fun e W' ⟨he, hb⟩ => ?_
  subst he
  exact ChangeSpec.post_blind ⟨_, _, _, [], [], [], hW', trodAll_mk1 (shut_bool Tryz.underlying4 _), trodAll_cons_mk (shut_int Tryz.underlying22 wk) (trodAll_cons_mk (shut_string Tryz.underlying9 wS) trodAll_mk0), rfl, hb.frame _, fun h => by cases h⟩

theorem row_holds : Rows.NumsReadsSaid :=
  OpenClaim.holds_of_wide 3 Tryz.f3 rfl rfl rfl rfl rfl rfl rfl ⟨rfl, rfl, rfl, rfl, rfl⟩ rfl rfl rfl rfl rfl (by kernel_rfl) Tryz.func3 (by kernel_rfl)
    (of_decide_eq_true (by kernel_rfl)) (by unfold Func.isWrapper; first | (rw [if_pos (by decide +kernel)]; kernel_rfl) | (rw [if_neg (by decide +kernel)]; exact ⟨rfl, rfl⟩))
    (fun os started H enc _ => lifted os started H enc)

/-- The statement. -/
theorem card_holds : Rows.NumsReadsCardSaid :=
  Claim7.holds_tied_plain_at .later [] [.data, .data, .widerDeep, .widerDeep, .data, .data, .data, .data, .data, .data, .sentinel, .sentinel, .pinned, .pinned, .pinned] true (true, "9fa1ff7202c9f5a933af4c9ae96e929b8fbddb638f2da12b84a680d5050821ad") true
    row_holds (fun _ h => by cases h) (by kernel_rfl) (fun _ h => by cases h) numsReads_row_tie rfl ⟨rfl, rfl⟩ (by kernel_rfl) rfl
    (fun f fn hf hfn => by
      obtain rfl : f = 3 := Option.some.inj ((show Tryz.prog.funcNamed "lexicon/lexiconlaw03.NumsReads" = some 3 by kernel_rfl).symm.trans hf) |>.symm
      obtain rfl : fn = Tryz.f3 := (Option.some.inj (Tryz.func3.symm.trans hfn)).symm
      exact ⟨by kernel_rfl, fun j t ht => by
        rw [Tryz.params3] at ht
        have hm : t ∈ [22, 9] := by simpa using Array.mem_of_getElem? ht
        have hall : ([22, 9].all fun u => !Tryz.prog.wantsStandIn u) = true := by kernel_rfl
        exact (show Tryz.prog.wantsStandIn t = false by simpa using List.all_eq_true.1 hall t hm)⟩)
    (by kernel_rfl)
#print axioms card_holds
end Go.Proofs.YtnpinogjajhlhaaGreatDoor
end
