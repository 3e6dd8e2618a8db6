/- A part of the proof that lexiconlaw03.NumsReads answers true at every kind and every text: DwReadTail. No condition. -/
import Derived.Test.YtnpinogjajhlhaaGreatDoorZ01
import Derived.Test.YtnpinogjajhlhaaGreatDoorZ10
import Derived.Deep.DeepCutAuto
import Derived.Deep.CutBlock
import Derived.WalkMore
section
/- readFloat, walked at a number's text: the exponent. -/
namespace Go.Proofs.YtnpinogjajhlhaaGreatDoor.Fl
open Go.RowKit

/-- How many digits of the mantissa are counted: none of a lone nought. -/
def cnt (g : Nat → Nat) (c : Nat) : Nat := if g 0 = 0 then 0 else c

/-- The mantissa's digits that are read: nineteen. -/
def mant (g : Nat → Nat) (n : Nat) : Nat := num g (min n 19)

def rexp (g : Nat → Nat) (n : Nat) (x : Int) : Int := if mant g n = 0 then 0 else 1 + x - (min n 19 : Nat)

def ReadPost (S : ByteArray) (n : Nat) (g : Nat → Nat) (x : Int) (neg : Bool) (w : World) (e : Ending) (w' : World) : Prop :=
  ∃ (tr : Bool) (p : Int), e = .returned (.tuple #[.int .u64 (mant g n : Nat), .int .i64 p, .bool neg, .bool tr, .bool false, .int .i64 (S.size : Nat), .bool true]) ∧
    p = rexp g n x ∧ (tr = true ↔ ∃ i, 19 ≤ i ∧ i < n ∧ g i ≠ 0) ∧ w' = w

/-- A part of a code: 0, 1: the parts of a sequence; 2: what lies in a scope. -/
def sub : List Nat → Code → Code
  | 0 :: p, .seq a _ => sub p a
  | 1 :: p, .seq _ b => sub p b
  | 2 :: p, .scope a => sub p a
  | 3 :: p, .block _ a => sub p a
  | 4 :: p, .loop a => sub p a
  | _, c => c

theorem results_tmp7 {fn : Func} {t1 t2 t3 t4 t5 t6 t7 : Tmp} (h : fn.results = #[.tmp t1, .tmp t2, .tmp t3, .tmp t4, .tmp t5, .tmp t6, .tmp t7]) (tmps : Array Value) (P : Program) (w : World) :
    (results fn tmps).run P w = .ok (.tuple #[tmps.getD t1 undef, tmps.getD t2 undef, tmps.getD t3 undef, tmps.getD t4 undef, tmps.getD t5 undef, tmps.getD t6 undef, tmps.getD t7 undef]) w := by
  simp [results, h]

set_option maxHeartbeats 4000000 in
set_option maxRecDepth 100000 in
theorem read_tail (S : ByteArray) (neg : Bool) (n : Nat) (g : Nat → Nat) (en : Bool) (m : Nat) (h : Nat → Nat) (w : World) (hS : Txt S neg n g en m h) (hg0 : g 0 = 0 → n = 1)
    (tr : Bool) (htr : tr = true ↔ ∃ i, 19 ≤ i ∧ i < n ∧ g i ≠ 0) (c2 d : Int) (hc2' : Aside (c2 = (if g 0 = 0 then 0 else (min n 19 : Nat)))) (hd' : Aside (d = if g 0 = 0 then 0 else 1)) (o : Nat) (HO : Hid (neg.toNat = o)) (ho1 : o ≤ 1)
    (u15 u18 u21 u22 u23 u24 u25 u26 u27 u28 u29 u30 u31 u32 u33 u34 u35 u36 u37 u38 u39 u40 u41 u42 u43 u44 u45 u46 u47 u48 u49 u50 u51 u52 u53 u54 u55 u56 u57 u58 u59 u60 u61 u62 u63 u64 u65 u66 u67 u68 u69 u70 u71 u72 u73 u74 u75 u76 u77 u78 u79 u80 u81 u82 u83 u84 u85 u86 u87 u88 u89 u90 u91 u92 u93 u94 u95 u96 u97 u98 u99 u100 u101 u102 u103 u104 u105 u106 u107 u108 u109 u110 u111 u112 u113 u114 u115 u116 u117 u118 u119 u120 u121 u122 u123 u124 u125 u126 u127 u128 u129 u130 u131 u132 u133 u134 u135 u136 u137 u138 u139 u140 u141 u142 u143 u144 u145 u146 u147 u148 u149 u150 u151 u152 u153 u154 u155 u156 u157 u158 u159 u160 u161 u162 u163 u164 u165 u166 u167 u168 u169 u170 u171 u172 u173 u174 u175 u176 u177 u178 u179 u180 u181 u182 u183 u184 u185 u186 u187 u188 u189 u190 u191 u192 u193 u194 u195 u196 u197 u198 u199 u200 u201 u202 u203 u204 u205 u206 u207 u208 u209 u210 u211 u212 u213 u214 u215 u216 u217 u218 u219 u220 u221 u222 u223 u224 u225 u226 u227 u228 u229 u230 u231 u232 u233 u234 u235 u236 u237 u238 u239 u240 u241 u242 u243 u244 u245 u246 u247 u248 u249 u250 u251 u252 : Value) :
    Code.wp Tryz.prog (sub [1, 2, 1, 1, 1, 1, 1, 1, 1, 1, 1, 1, 1, 1, 1, 1, 1, 1, 1] (Tryz.f167.body.getD .skip)) (Exit.noGoto (bodyPost Tryz.prog Tryz.f167 (ReadPost S n g (ex h m en) neg w)))
      { tmps := List.toArray (Value.string S :: undef :: Value.int .u64 (mant g n : Nat) :: Value.int .i64 0 :: Value.bool neg :: Value.bool tr :: Value.bool false :: Value.int .i64 ((o + n + 1 : Nat) : Int) :: Value.bool false :: Value.bool false :: Value.int .u64 10 :: Value.int .i64 19 :: Value.int .u8 101 :: Value.bool true :: Value.bool true :: u15 :: Value.int .i64 c2 :: Value.int .i64 d :: u18 :: undef :: undef :: u21 :: u22 :: u23 :: u24 :: u25 :: u26 :: u27 :: u28 :: u29 :: u30 :: u31 :: u32 :: u33 :: u34 :: u35 :: u36 :: u37 :: u38 :: u39 :: u40 :: u41 :: u42 :: u43 :: u44 :: u45 :: u46 :: u47 :: u48 :: u49 :: u50 :: u51 :: u52 :: u53 :: u54 :: u55 :: u56 :: u57 :: u58 :: u59 :: u60 :: u61 :: u62 :: u63 :: u64 :: u65 :: u66 :: u67 :: u68 :: u69 :: u70 :: u71 :: u72 :: u73 :: u74 :: u75 :: u76 :: u77 :: u78 :: u79 :: u80 :: u81 :: u82 :: u83 :: u84 :: u85 :: u86 :: u87 :: u88 :: u89 :: u90 :: u91 :: u92 :: u93 :: u94 :: u95 :: u96 :: u97 :: u98 :: u99 :: u100 :: u101 :: u102 :: u103 :: u104 :: u105 :: u106 :: u107 :: u108 :: u109 :: u110 :: u111 :: u112 :: u113 :: u114 :: u115 :: u116 :: u117 :: u118 :: u119 :: u120 :: u121 :: u122 :: u123 :: u124 :: u125 :: u126 :: u127 :: u128 :: u129 :: u130 :: u131 :: u132 :: u133 :: u134 :: u135 :: u136 :: u137 :: u138 :: u139 :: u140 :: u141 :: u142 :: u143 :: u144 :: u145 :: u146 :: u147 :: u148 :: u149 :: u150 :: u151 :: u152 :: u153 :: u154 :: u155 :: u156 :: u157 :: u158 :: u159 :: u160 :: u161 :: u162 :: u163 :: u164 :: u165 :: u166 :: u167 :: u168 :: u169 :: u170 :: u171 :: u172 :: u173 :: u174 :: u175 :: u176 :: u177 :: u178 :: u179 :: u180 :: u181 :: u182 :: u183 :: u184 :: u185 :: u186 :: u187 :: u188 :: u189 :: u190 :: u191 :: u192 :: u193 :: u194 :: u195 :: u196 :: u197 :: u198 :: u199 :: u200 :: u201 :: u202 :: u203 :: u204 :: u205 :: u206 :: u207 :: u208 :: u209 :: u210 :: u211 :: u212 :: u213 :: u214 :: u215 :: u216 :: u217 :: u218 :: u219 :: u220 :: u221 :: u222 :: u223 :: u224 :: u225 :: u226 :: u227 :: u228 :: u229 :: u230 :: u231 :: u232 :: u233 :: u234 :: u235 :: u236 :: u237 :: u238 :: u239 :: u240 :: u241 :: u242 :: u243 :: u244 :: u245 :: u246 :: u247 :: u248 :: u249 :: u250 :: u251 :: u252 :: []), defers := [] } w := by
  have AT : Hid (Txt S neg n g en m h ∧ (g 0 = 0 → n = 1)) := ⟨hS, hg0⟩
  have htr : Hid (tr = true ↔ ∃ i, 19 ≤ i ∧ i < n ∧ g i ≠ 0) := Lib.hid htr
  have hbig := hS.big
  clear hS hg0
  conv in sub _ _ => whnf
  have hsz := AT.out.1.size
  rw [HO.out] at hsz
  have hmp := AT.out.1.mpos
  have hlt : o + n + 1 < S.size := by omega
  have hc := AT.out.1.e (o + n + 1) hlt (by rw [HO.out])
  have hlt2 : o + n + 1 + 1 < S.size := by omega
  have hlow : bits .or .u8 101 32 = 101 := by decide +kernel
  have HSZ := Lib.hid hsz
  have HL := Lib.hid (lower_walk 101)
  have hd0 : 0 ≤ d ∧ d ≤ 1 := by rw [hd'.out]; split <;> omega
  have hc20 : 0 ≤ c2 ∧ c2 ≤ 19 := by rw [hc2'.out]; split <;> omega
  obtain ⟨hd0, hd1⟩ := hd0
  obtain ⟨hc20, hc21⟩ := hc20
  clear hsz
  go_wp2_with fail
  refine (HL.out _).mono ?_
  rintro e w' ⟨rfl, rfl⟩
  rw [hlow]
  go_upto_block 4 with (fail)
  obtain ⟨q, hq⟩ : ∃ q, o + n + 2 = q := ⟨_, rfl⟩
  obtain ⟨l, hl⟩ : ∃ l, en.toNat = l := ⟨_, rfl⟩
  have hl1 : l ≤ 1 := by rw [← hl]; cases en <;> decide
  have HQ : Hid (o + n + 2 = q ∧ en.toNat = l ∧ S.size = q + l + m) := ⟨hq, hl, by rw [← hq, ← hl]; exact HSZ.out⟩
  have hq8 : (o : Int) + n + 2 = q := by omega
  clear hl
  go_cut [7, 19] (fun i es wd => i = .int .i64 ((q + l : Nat) : Int) ∧ (∃ r : Int, es = .int .i64 r ∧ Aside (r = if en = true then -1 else 1)) ∧ wd = w')
  case first =>
    cases hen : en with
    | true =>
      have hc2 := AT.out.1.es (o + n + 1 + 1) hlt2 (by rw [HO.out]) hen
      have HE := Lib.hid hen
      clear hen hq hq8
      go_wp2_with fail
      go_meet
      have h1 := HE.out
      have h2 := HQ.out
      rw [h1] at h2
      have h3 : (1 : Nat) = l := h2.2.1
      exact ⟨congrArg (Value.int .i64) (by omega), ⟨-1, rfl, by rw [h1]; rfl⟩, rfl⟩
    | false =>
      have h2 := HQ.out
      rw [hen] at h2
      have h3 : (0 : Nat) = l := h2.2.1
      have hc2 := AT.out.1.ed (o + n + 1 + 1) hlt2 0 (by omega) (by rw [HO.out, hen]; rfl)
      have h9 := AT.out.1.h9 0 (by omega)
      have h9' : (h 0 : Int) ≤ 9 := by omega
      have hx1 : ((48 : Int) + (h 0 : Int) == 43) = false := by rw [beq_eq_false_iff_ne]; omega
      have hx2 : ((48 : Int) + (h 0 : Int) == 45) = false := by rw [beq_eq_false_iff_ne]; omega
      have HE := Lib.hid hen
      have H3 := Lib.hid h3
      clear hen hq hq8 h2 h3 h9
      go_wp2_with fail
      go_meet
      exact ⟨congrArg (Value.int .i64) (by have := HQ.out; have := H3.out; omega), ⟨1, rfl, by rw [HE.out]; rfl⟩, rfl⟩
  case rest =>
    obtain ⟨rfl, ⟨r, rfl, hr⟩, rfl⟩ := hcut
    have hlt3 : q + l < S.size := by have := HQ.out; omega
    have hc2 := AT.out.1.ed (q + l) hlt3 0 (by omega) (by have h1 := HO.out; have h2 := HQ.out; omega)
    have h9 := AT.out.1.h9 0 (by omega)
    have h9' : (h 0 : Int) ≤ 9 := by omega
    have hr1 : -1 ≤ r ∧ r ≤ 1 := by rw [hr.out]; split <;> omega
    obtain ⟨hr1, hr2⟩ := hr1
    have hq8' : (q : Int) ≤ 1152921504606846976 := by have := HQ.out; omega
    clear hq hq8 h9
    go_upto_block 5 with (fail)
    go_cut [7, 9, 20] (fun i us ev wd => i = .int .i64 (S.size : Nat) ∧ us = .bool false ∧ ev = .int .i64 (cl h m : Nat) ∧ wd = wc)
    case first =>
      go_wp2_with fail
      go_loopg [7, 9, 20] m (fun mm i us ev wr => ∃ j : Nat, i = .int .i64 ((q + l + j : Nat) : Int) ∧ us = .bool false ∧ ev = .int .i64 (cl h j : Nat) ∧ Aside (mm = m - j ∧ j ≤ m) ∧ wr = wc)
      case atStart => exact ⟨0, rfl, rfl, rfl, ⟨rfl, by omega⟩, rfl⟩
      case round =>
        obtain ⟨j, rfl, rfl, rfl, hA4, rfl⟩ := hrel
        by_cases hj : j < m
        · have hlt4 : q + l + j < S.size := by have := HQ.out; omega
          have hc3 := AT.out.1.ed (q + l + j) hlt4 j hj (by have h1 := HO.out; have h2 := HQ.out; omega)
          have h9j := AT.out.1.h9 j hj
          have h9k : (h j : Int) ≤ 9 := by omega
          have hcl := cl_le (h := h) (m := j) (fun i hi => AT.out.1.h9 i (by omega))
          obtain ⟨z, hz⟩ : ∃ z, cl h j = z := ⟨_, rfl⟩
          rw [hz] at hcl ⊢
          have HZ := Lib.hid hz
          have hcl8 : (z : Int) ≤ 99999 := by omega
          clear hc2 h9' h9j hz hcl
          by_cases h1 : z < 10000
          · have h1i : (z : Int) < 10000 := by omega
            have H1 := Lib.hid h1
            clear h1
            go_wp2_with fail
            go_roundg (m - (j + 1))
            case measure => have := hA4.out; omega
            case rel => exact ⟨j + 1, by go_num, rfl, by rw [cl, HZ.out, if_pos H1.out]; exact congrArg (Value.int .i64) (by push_cast; omega), ⟨rfl, by omega⟩, rfl⟩
          · have h1i : ¬ (z : Int) < 10000 := by omega
            have H1 := Lib.hid h1
            clear h1
            go_wp2_with fail
            go_roundg (m - (j + 1))
            case measure => have := hA4.out; omega
            case rel => exact ⟨j + 1, by go_num, rfl, by rw [cl, HZ.out, if_neg H1.out], ⟨rfl, by omega⟩, rfl⟩
        · have hje : j = m := by have := hA4.out; omega
          subst hje
          have hnl : ¬ ((q : Int) + l + j < S.size) := by have := HQ.out; omega
          go_wp2_with fail
          go_meet
          exact ⟨congrArg (Value.int .i64) (by have := HQ.out; omega), rfl, rfl, rfl⟩
    case rest =>
      obtain ⟨rfl, rfl, rfl, rfl⟩ := hcut
      have hcl := cl_le (h := h) (m := m) AT.out.1.h9
      obtain ⟨z, hz⟩ : ∃ z, cl h m = z := ⟨_, rfl⟩
      rw [hz] at hcl ⊢
      have hcl8 : (z : Int) ≤ 99999 := by omega
      have hb1 : -99999 ≤ (z : Int) * r ∧ (z : Int) * r ≤ 99999 := by
        rw [hr.out]; split <;> omega
      obtain ⟨hb1, hb2⟩ := hb1
      have hex : (z : Int) * r = ex h m en := by
        rw [hr.out, ex, hz]; split <;> omega
      have HEX := Lib.hid hex
      clear hex hz hcl hc2 h9'
      by_cases hm0 : mant g n = 0
      · have hmi : ((mant g n : Nat) : Int) = 0 := by omega
        have HM0 := Lib.hid hm0
        rw [hmi]
        clear hm0 hmi
        go_wp2_with fail
        (try simp only [Exit.inBlock, Exit.then])
        refine bodyPost_ret (results_tmp7 rfl _ _ _) rfl ?_
        exact ⟨tr, 0, by rw [HM0.out]; rfl, by rw [rexp, if_pos HM0.out], htr.out, rfl⟩
      · have hmi : (((mant g n : Nat) : Int) != 0) = true := by simp; omega
        have HM0 := Lib.hid hm0
        clear hm0
        go_wp2_with fail
        (try simp only [Exit.inBlock, Exit.then])
        refine bodyPost_ret (results_tmp7 rfl _ _ _) rfl ?_
        refine ⟨tr, d + z * r - c2, rfl, ?_, htr.out, rfl⟩
        have hg0 : ¬ g 0 = 0 := fun h0 => HM0.out (by have h1 := AT.out.2 h0; subst h1; simp [mant, num, h0])
        rw [rexp, if_neg HM0.out, HEX.out, hd'.out, hc2'.out, if_neg hg0, if_neg hg0]
end Go.Proofs.YtnpinogjajhlhaaGreatDoor.Fl
end
