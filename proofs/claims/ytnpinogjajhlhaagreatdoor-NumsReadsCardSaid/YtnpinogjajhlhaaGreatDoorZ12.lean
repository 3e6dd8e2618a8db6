/- A part of the proof that lexiconlaw03.NumsReads answers true at every kind and every text: DwReadLoop, DwRead. No condition. -/
import Derived.Test.YtnpinogjajhlhaaGreatDoorZ11
section
/- readFloat, walked at a number's text: the digits. -/
namespace Go.Proofs.YtnpinogjajhlhaaGreatDoor.Fl
open Go.RowKit

theorem num_pos {g : Nat → Nat} {n : Nat} (h : g 0 ≠ 0) (hn : 0 < n) : 0 < num g n := by
  induction n with
  | zero => omega
  | succ n ih =>
    simp only [num]
    by_cases h0 : n = 0
    · subst h0; simp only [num]; omega
    · have := ih (by omega); omega

set_option maxHeartbeats 4000000 in
set_option maxRecDepth 100000 in
theorem read_loop (S : ByteArray) (neg : Bool) (n : Nat) (g : Nat → Nat) (en : Bool) (m : Nat) (h : Nat → Nat) (wc : World) (hS : Txt S neg n g en m h) (hg0 : g 0 = 0 → n = 1)
    (o : Nat) (HO : Hid (neg.toNat = o)) (ho1 : o ≤ 1) (K : Act → World → Prop) (R : Exit → Act → World → Prop)
    (hQ : ∀ (tr : Bool) (c2 d : Int), (tr = true ↔ ∃ i, 19 ≤ i ∧ i < n ∧ g i ≠ 0) → Aside (c2 = (if g 0 = 0 then 0 else (min n 19 : Nat))) → Aside (d = if g 0 = 0 then 0 else 1) → ∀ (u15 u18 u21 u22 u23 u24 u25 u26 u27 u28 u29 u30 u31 u32 u33 u34 u35 u36 u37 u38 u39 u40 u41 u42 u43 u44 u45 u46 u47 u48 u49 u50 u51 u52 u53 u54 u55 u56 u57 u58 u59 u60 u61 u62 u63 u64 u65 u66 u67 u68 u69 u70 u71 u72 u73 u74 u75 u76 u77 u78 u79 u80 u81 u82 u83 u84 u85 u86 u87 u88 u89 u90 u91 u92 u93 u94 u95 u96 u97 u98 u99 u100 u101 u102 u103 u104 u105 u106 u107 u108 u109 u110 u111 u112 u113 u114 u115 u116 u117 u118 u119 u120 u121 u122 u123 u124 u125 u126 u127 u128 u129 u130 u131 u132 u133 u134 u135 u136 u137 u138 u139 u140 u141 u142 u143 u144 u145 u146 u147 u148 u149 u150 u151 u152 u153 u154 u155 u156 u157 u158 u159 u160 u161 u162 u163 u164 u165 u166 u167 u168 u169 u170 u171 u172 u173 u174 u175 u176 u177 u178 u179 u180 u181 u182 u183 u184 u185 u186 u187 u188 u189 u190 u191 u192 u193 u194 u195 u196 u197 u198 u199 u200 u201 u202 u203 u204 u205 u206 u207 u208 u209 u210 u211 u212 u213 u214 u215 u216 u217 u218 u219 u220 u221 u222 u223 u224 u225 u226 u227 u228 u229 u230 u231 u232 u233 u234 u235 u236 u237 u238 u239 u240 u241 u242 u243 u244 u245 u246 u247 u248 u249 u250 u251 u252 : Value),
      K { tmps := List.toArray (Value.string S :: undef :: Value.int .u64 (mant g n : Nat) :: Value.int .i64 0 :: Value.bool neg :: Value.bool tr :: Value.bool false :: Value.int .i64 ((o + n + 1 : Nat) : Int) :: Value.bool false :: Value.bool false :: Value.int .u64 10 :: Value.int .i64 19 :: Value.int .u8 101 :: Value.bool true :: Value.bool true :: u15 :: Value.int .i64 c2 :: Value.int .i64 d :: u18 :: undef :: undef :: u21 :: u22 :: u23 :: u24 :: u25 :: u26 :: u27 :: u28 :: u29 :: u30 :: u31 :: u32 :: u33 :: u34 :: u35 :: u36 :: u37 :: u38 :: u39 :: u40 :: u41 :: u42 :: u43 :: u44 :: u45 :: u46 :: u47 :: u48 :: u49 :: u50 :: u51 :: u52 :: u53 :: u54 :: u55 :: u56 :: u57 :: u58 :: u59 :: u60 :: u61 :: u62 :: u63 :: u64 :: u65 :: u66 :: u67 :: u68 :: u69 :: u70 :: u71 :: u72 :: u73 :: u74 :: u75 :: u76 :: u77 :: u78 :: u79 :: u80 :: u81 :: u82 :: u83 :: u84 :: u85 :: u86 :: u87 :: u88 :: u89 :: u90 :: u91 :: u92 :: u93 :: u94 :: u95 :: u96 :: u97 :: u98 :: u99 :: u100 :: u101 :: u102 :: u103 :: u104 :: u105 :: u106 :: u107 :: u108 :: u109 :: u110 :: u111 :: u112 :: u113 :: u114 :: u115 :: u116 :: u117 :: u118 :: u119 :: u120 :: u121 :: u122 :: u123 :: u124 :: u125 :: u126 :: u127 :: u128 :: u129 :: u130 :: u131 :: u132 :: u133 :: u134 :: u135 :: u136 :: u137 :: u138 :: u139 :: u140 :: u141 :: u142 :: u143 :: u144 :: u145 :: u146 :: u147 :: u148 :: u149 :: u150 :: u151 :: u152 :: u153 :: u154 :: u155 :: u156 :: u157 :: u158 :: u159 :: u160 :: u161 :: u162 :: u163 :: u164 :: u165 :: u166 :: u167 :: u168 :: u169 :: u170 :: u171 :: u172 :: u173 :: u174 :: u175 :: u176 :: u177 :: u178 :: u179 :: u180 :: u181 :: u182 :: u183 :: u184 :: u185 :: u186 :: u187 :: u188 :: u189 :: u190 :: u191 :: u192 :: u193 :: u194 :: u195 :: u196 :: u197 :: u198 :: u199 :: u200 :: u201 :: u202 :: u203 :: u204 :: u205 :: u206 :: u207 :: u208 :: u209 :: u210 :: u211 :: u212 :: u213 :: u214 :: u215 :: u216 :: u217 :: u218 :: u219 :: u220 :: u221 :: u222 :: u223 :: u224 :: u225 :: u226 :: u227 :: u228 :: u229 :: u230 :: u231 :: u232 :: u233 :: u234 :: u235 :: u236 :: u237 :: u238 :: u239 :: u240 :: u241 :: u242 :: u243 :: u244 :: u245 :: u246 :: u247 :: u248 :: u249 :: u250 :: u251 :: u252 :: []), defers := [] } wc)
    (u21 u22 u23 u24 u25 u26 u27 u28 u29 u30 u31 u32 u33 u34 u35 u36 u37 u38 u39 u40 u41 u42 u43 u44 u45 u46 u47 u48 u49 u50 u51 u52 u53 u54 u55 u56 u57 u58 u59 u60 u61 u62 u63 u64 u65 u66 u67 u68 u69 u70 u71 u72 u73 u74 u75 u76 u77 u78 u79 u80 u81 u82 u83 u84 u85 u86 u87 u88 u89 u90 u91 u92 u93 u94 u95 u96 u97 u98 u99 u100 u101 u102 u103 u104 u105 u106 u107 u108 u109 u110 u111 u112 u113 u114 u115 u116 u117 u118 u119 u120 u121 u122 u123 u124 u125 u126 u127 u128 u129 u130 u131 u132 u133 u134 u135 u136 u137 u138 u139 u140 u141 u142 u143 u144 u145 u146 u147 u148 u149 u150 u151 u152 u153 u154 u155 u156 u157 u158 u159 u160 u161 u162 u163 u164 u165 u166 u167 u168 u169 u170 u171 u172 u173 u174 u175 u176 u177 u178 u179 u180 u181 u182 u183 u184 u185 u186 u187 u188 u189 u190 u191 u192 u193 u194 u195 u196 u197 u198 u199 u200 u201 u202 u203 u204 u205 u206 u207 u208 u209 u210 u211 u212 u213 u214 u215 u216 u217 u218 u219 u220 u221 u222 u223 u224 u225 u226 u227 u228 u229 u230 u231 u232 u233 u234 u235 u236 u237 u238 u239 u240 u241 u242 u243 u244 u245 u246 u247 u248 u249 u250 u251 u252 : Value) :
    Code.wp Tryz.prog (sub [1, 2, 1, 1, 1, 1, 1, 1, 1, 1, 1, 1, 1, 1, 1, 0] (Tryz.f167.body.getD .skip)) (Exit.then K R)
      { tmps := List.toArray (Value.string S :: undef :: Value.int .u64 0 :: Value.int .i64 0 :: Value.bool neg :: Value.bool false :: Value.bool false :: Value.int .i64 o :: Value.bool false :: Value.bool false :: Value.int .u64 10 :: Value.int .i64 19 :: Value.int .u8 101 :: Value.bool false :: Value.bool false :: Value.int .i64 0 :: Value.int .i64 0 :: Value.int .i64 0 :: undef :: undef :: undef :: u21 :: u22 :: u23 :: u24 :: u25 :: u26 :: u27 :: u28 :: u29 :: u30 :: u31 :: u32 :: u33 :: u34 :: u35 :: u36 :: u37 :: u38 :: u39 :: u40 :: u41 :: u42 :: u43 :: u44 :: u45 :: u46 :: u47 :: u48 :: u49 :: u50 :: u51 :: u52 :: u53 :: u54 :: u55 :: u56 :: u57 :: u58 :: u59 :: u60 :: u61 :: u62 :: u63 :: u64 :: u65 :: u66 :: u67 :: u68 :: u69 :: u70 :: u71 :: u72 :: u73 :: u74 :: u75 :: u76 :: u77 :: u78 :: u79 :: u80 :: u81 :: u82 :: u83 :: u84 :: u85 :: u86 :: u87 :: u88 :: u89 :: u90 :: u91 :: u92 :: u93 :: u94 :: u95 :: u96 :: u97 :: u98 :: u99 :: u100 :: u101 :: u102 :: u103 :: u104 :: u105 :: u106 :: u107 :: u108 :: u109 :: u110 :: u111 :: u112 :: u113 :: u114 :: u115 :: u116 :: u117 :: u118 :: u119 :: u120 :: u121 :: u122 :: u123 :: u124 :: u125 :: u126 :: u127 :: u128 :: u129 :: u130 :: u131 :: u132 :: u133 :: u134 :: u135 :: u136 :: u137 :: u138 :: u139 :: u140 :: u141 :: u142 :: u143 :: u144 :: u145 :: u146 :: u147 :: u148 :: u149 :: u150 :: u151 :: u152 :: u153 :: u154 :: u155 :: u156 :: u157 :: u158 :: u159 :: u160 :: u161 :: u162 :: u163 :: u164 :: u165 :: u166 :: u167 :: u168 :: u169 :: u170 :: u171 :: u172 :: u173 :: u174 :: u175 :: u176 :: u177 :: u178 :: u179 :: u180 :: u181 :: u182 :: u183 :: u184 :: u185 :: u186 :: u187 :: u188 :: u189 :: u190 :: u191 :: u192 :: u193 :: u194 :: u195 :: u196 :: u197 :: u198 :: u199 :: u200 :: u201 :: u202 :: u203 :: u204 :: u205 :: u206 :: u207 :: u208 :: u209 :: u210 :: u211 :: u212 :: u213 :: u214 :: u215 :: u216 :: u217 :: u218 :: u219 :: u220 :: u221 :: u222 :: u223 :: u224 :: u225 :: u226 :: u227 :: u228 :: u229 :: u230 :: u231 :: u232 :: u233 :: u234 :: u235 :: u236 :: u237 :: u238 :: u239 :: u240 :: u241 :: u242 :: u243 :: u244 :: u245 :: u246 :: u247 :: u248 :: u249 :: u250 :: u251 :: u252 :: []), defers := [] } wc := by
  have AT : Hid (Txt S neg n g en m h ∧ (g 0 = 0 → n = 1)) := ⟨hS, hg0⟩
  have HQ := Lib.hid hQ
  let _dum : Exit → Act → World → Prop := bodyPost Tryz.prog Tryz.f167 (fun _ _ => True)
  have hbig := hS.big
  have hlt0 : o < S.size := by have := HO.out; have := hS.size; omega
  have hlt1 : o + 1 < S.size := by have := HO.out; have := hS.size; have := hS.pos; omega
  clear hS hg0 hQ
  conv in sub _ _ => whnf
  go_cut [2, 5, 7, 9, 13, 14, 15, 16, 17] (fun mv tv i us sd sg nv nm dv wd => i = .int .i64 ((o + n + 1 : Nat) : Int) ∧ sd = .bool true ∧ sg = .bool true ∧ us = .bool false ∧ mv = .int .u64 (mant g n : Nat) ∧
    (∃ tr : Bool, tv = .bool tr ∧ Aside (tr = true ↔ ∃ i, 19 ≤ i ∧ i < n ∧ g i ≠ 0)) ∧ (∃ c : Int, nm = .int .i64 c ∧ Aside (c = (if g 0 = 0 then 0 else (min n 19 : Nat)))) ∧ (∃ d : Int, dv = .int .i64 d ∧ Aside (d = if g 0 = 0 then 0 else 1)) ∧ wd = wc)
  case first =>
    go_wp2_with (go_step3)
    go_loopg [2, 5, 7, 9, 13, 14, 15, 16, 17] (n + 1) (fun mm mv tv i us sd sg nv nm dv wr => ∃ (k c : Nat) (sd' sg' tr : Bool) (M c1 c2 d : Int), mv = .int .u64 M ∧ tv = .bool tr ∧ i = .int .i64 ((o + k : Nat) : Int) ∧ us = .bool false ∧ sd = .bool sd' ∧ sg = .bool sg' ∧ nv = .int .i64 c1 ∧ nm = .int .i64 c2 ∧ dv = .int .i64 d ∧
      Aside (mm = n + 1 - k ∧ k ≤ n + 1 ∧ c = (if k ≤ 1 then k else k - 1) ∧ sd' = decide (2 ≤ k) ∧ sg' = decide (1 ≤ k) ∧ M = (num g (min c 19) : Nat) ∧ c1 = (cnt g c : Nat) ∧ c2 = (min (cnt g c) 19 : Nat) ∧
        d = (if k = 0 then 0 else if k = 1 then (if g 0 = 0 then -1 else 0) else (if g 0 = 0 then 0 else 1)) ∧ (tr = true ↔ ∃ i, 19 ≤ i ∧ i < c ∧ g i ≠ 0)) ∧ wr = wc)
    case atStart => exact ⟨0, 0, false, false, false, 0, 0, 0, 0, rfl, rfl, rfl, rfl, rfl, rfl, rfl, rfl, rfl, ⟨rfl, by omega, rfl, rfl, rfl, rfl, by simp [cnt], by simp [cnt], rfl, by simp⟩, rfl⟩
    case round =>
      obtain ⟨k, c, sd', sg', tr, M, c1, c2, d, rfl, rfl, rfl, rfl, rfl, rfl, rfl, rfl, rfl, hA2, rfl⟩ := hrel
      obtain ⟨h1, h2, h3, h4, h5, h6, h7, h8, h9, h10⟩ := hA2.out
      have hsz := AT.out.1.size
      have hlt : o + k < S.size := by have := HO.out; omega
      have HX : Hid (gk = n + 1 - k ∧ k ≤ n + 1 ∧ c = (if k ≤ 1 then k else k - 1) ∧ M = (num g (min c 19) : Nat) ∧ c1 = (cnt g c : Nat) ∧ c2 = (min (cnt g c) 19 : Nat) ∧ d = (if k = 0 then 0 else if k = 1 then (if g 0 = 0 then -1 else 0) else (if g 0 = 0 then 0 else 1)) ∧ (tr = true ↔ ∃ i, 19 ≤ i ∧ i < c ∧ g i ≠ 0)) := ⟨h1, h2, h3, h6, h7, h8, h9, h10⟩
      clear hA2 h1 hsz h10
      by_cases hk0 : k = 0
      · subst hk0
        obtain rfl : sd' = false := h4
        obtain rfl : sg' = false := h5
        obtain rfl : c = 0 := h3
        obtain rfl : M = 0 := h6
        obtain rfl : c1 = 0 := by rw [h7]; simp [cnt]
        obtain rfl : c2 = 0 := by rw [h8]; simp [cnt]
        obtain rfl : d = 0 := h9
        have hlt0 : o < S.size := hlt
        have hc := AT.out.1.d0 o hlt0 HO.out.symm
        have hg9 := AT.out.1.g9 0 AT.out.1.pos
        have hg9' : (g 0 : Int) ≤ 9 := by omega
        clear hg9 h2 h7 h8
        by_cases hg : g 0 = 0
        · have hc0 : (S[o].toNat : Int) = 48 := by rw [hc, hg]; rfl
          have HG := Lib.hid hg
          clear hc hg hg9'
          go_wp2_with fail
          go_roundg (n + 1 - 1)
          case measure => have := HX.out.1; omega
          case rel =>
            have h0 := HG.out
            refine ⟨1, 1, false, true, tr, 0, 0, 0, -1, rfl, rfl, by go_num, rfl, rfl, rfl, rfl, rfl, rfl, ⟨rfl, by omega, rfl, rfl, rfl, by simp [num, h0], by simp [cnt, h0], by simp [cnt, h0], by simp [h0], ?_⟩, rfl⟩
            rw [HX.out.2.2.2.2.2.2.2]; exact ⟨fun ⟨i, h1, h2, _⟩ => by omega, fun ⟨i, h1, h2, _⟩ => by omega⟩
        · have hc0 : ((48 : Int) + (g 0 : Int) == 48) = false := by rw [beq_eq_false_iff_ne]; omega
          have HG := Lib.hid hg
          clear hg
          go_wp2_with fail
          go_roundg (n + 1 - 1)
          case measure => have := HX.out.1; omega
          case rel =>
            have h0 := HG.out
            refine ⟨1, 1, false, true, tr, (g 0 : Nat), 1, 1, 0, by go_num, rfl, by go_num, rfl, rfl, rfl, rfl, rfl, rfl, ⟨rfl, by omega, rfl, rfl, rfl, by simp [num], by simp [cnt, h0], by simp [cnt, h0], by simp [h0], ?_⟩, rfl⟩
            rw [HX.out.2.2.2.2.2.2.2]; exact ⟨fun ⟨i, h1, h2, _⟩ => by omega, fun ⟨i, h1, h2, _⟩ => by omega⟩
      · by_cases hk1 : k = 1
        · subst hk1
          obtain rfl : sd' = false := h4
          obtain rfl : sg' = true := h5
          obtain rfl : c = 1 := h3
          have hlt1 : o + 1 < S.size := hlt
          have hc := AT.out.1.dot (o + 1) hlt1 (by rw [HO.out])
          have HC := Lib.hid h7
          clear h2 h6 h7 h8 h9 hk0
          go_wp2_with fail
          go_roundg (n + 1 - 2)
          case measure => have := HX.out.1; have := AT.out.1.pos; omega
          case rel =>
            obtain ⟨_, _, _, q1, q2, q3, _, q4⟩ := HX.out
            refine ⟨2, 1, true, true, tr, M, c1, c2, c1, rfl, rfl, by go_num, rfl, rfl, rfl, rfl, rfl, rfl, ⟨rfl, by have := AT.out.1.pos; omega, rfl, rfl, rfl, q1, q2, q3, ?_, q4⟩, rfl⟩
            rw [q2, cnt]; simp only [show ¬ (2 : Nat) = 0 by omega, show ¬ (2 : Nat) = 1 by omega, if_false]
            split <;> rfl
        · obtain rfl : sd' = true := by rw [h4]; exact decide_eq_true (by omega)
          obtain rfl : sg' = true := by rw [h5]; exact decide_eq_true (by omega)
          obtain rfl : c = k - 1 := by rw [h3, if_neg (by omega)]
          by_cases hke : k = n + 1
          · have hc := AT.out.1.e (o + k) hlt (by rw [HO.out]; omega)
            have HK := Lib.hid hke
            subst hke
            clear h2 h3 h4 h5 h6 h7 h8 h9 hk0 hk1
            go_wp2_with fail
            go_meet
            obtain ⟨_, _, _, q1, q2, q3, q4, q5⟩ := HX.out
            have hp := AT.out.1.pos
            have hg1 := AT.out.2
            rw [Nat.add_sub_cancel] at q1 q2 q3 q5
            refine ⟨by go_num, rfl, rfl, rfl, by rw [q1]; rfl, ⟨tr, rfl, q5⟩, ⟨c2, rfl, ?_⟩, ⟨d, rfl, ?_⟩, rfl⟩
            · show c2 = _; rw [q3, cnt]; split <;> simp
            · show d = _; rw [q4, if_neg (by omega), if_neg (by omega)]
          · obtain ⟨i, hi⟩ : ∃ i, k = i + 1 := ⟨k - 1, by omega⟩
            subst hi
            rw [Nat.add_sub_cancel] at h6 h7 h8
            have hc := AT.out.1.dig (o + (i + 1)) hlt i (by omega) (by omega) (by rw [HO.out]; omega)
            have hg9 := AT.out.1.g9 i (by omega)
            have hg9' : (g i : Int) ≤ 9 := by omega
            have hi0 : ¬ (i : Int) = 0 := by omega
            have HG : Hid (¬ g 0 = 0) := Lib.hid (fun h0 => by have := AT.out.2 h0; omega)
            have hin : (i : Int) < n := by omega
            have hn8 : (n : Int) ≤ 1152921504606846976 := by have := AT.out.1.size; omega
            have hcn : cnt g i = i := by rw [cnt, if_neg HG.out]
            rw [hcn] at h7 h8
            have hc1e : (c1 == 0) = false := by rw [beq_eq_false_iff_ne, h7]; exact hi0
            have hc1l : c1 < 1152921504606846976 := by omega
            have hc1g : 0 ≤ c1 := by omega
            have HI : Hid (¬ i = 0 ∧ i < n) := ⟨by omega, by omega⟩
            by_cases h8' : i < 19
            · have hm : min i 19 = i := by omega
              rw [hm] at h6 h8
              have hM1 : M < 1000000000000000000 := by
                have e1 := num_lt (a := g) (w := i) (fun j hj => AT.out.1.g9 j (by omega))
                have e2 : 10 ^ i ≤ 10 ^ 18 := Nat.pow_le_pow_right (by omega) (by omega)
                have e3 : (10 : Nat) ^ 18 = 1000000000000000000 := by decide
                rw [h6]; omega
              have hM0 : 0 ≤ M := by rw [h6]; omega
              have hc2l : c2 < 19 := by omega
              have hc2g : 0 ≤ c2 := by omega
              have HM := Lib.hid hm
              have HH : Hid (M = (num g i : Nat) ∧ c1 = i ∧ c2 = i) := ⟨h6, h7, h8⟩
              clear hg9 h2 h3 h4 h5 hk0 hk1 hke h6 h7 h8 h9 hm hcn hi0
              go_wp2_with fail
              all_goals
                go_roundg (n + 1 - (i + 1 + 1))
                case measure => have := HX.out.1; have := HI.out; omega
                case rel =>
                  obtain ⟨_, _, _, _, _, _, q4, q5⟩ := HX.out
                  obtain ⟨q1, q2, q3⟩ := HH.out
                  have hgi := HG.out
                  refine ⟨i + 2, i + 1, true, true, tr, M * 10 + (g i : Nat), c1 + 1, c2 + 1, d, ?_, rfl, by go_num, rfl, rfl, rfl, rfl, rfl, rfl, ⟨rfl, by have := HI.out; omega, by rw [if_neg (by omega)]; omega, (decide_eq_true (by omega)).symm, (decide_eq_true (by omega)).symm, ?_, ?_, ?_, ?_, ?_⟩, rfl⟩
                  · exact congrArg (Value.int .u64) (by omega)
                  · rw [show min (i + 1) 19 = i + 1 by omega, num, q1]; push_cast; omega
                  · rw [cnt, if_neg hgi, q2]; push_cast; rfl
                  · rw [cnt, if_neg hgi, q3, show min (i + 1) 19 = i + 1 by omega]; push_cast; rfl
                  · rw [q4]; have := HI.out.1; simp only [show ¬ i + 1 = 0 by omega, show ¬ i + 1 = 1 by omega, show ¬ i + 2 = 0 by omega, show ¬ i + 2 = 1 by omega, if_false]
                  · rw [q5]; exact ⟨fun ⟨j, h1, h2, _⟩ => by omega, fun ⟨j, h1, h2, _⟩ => by omega⟩
            · have hm : min i 19 = 19 := by omega
              rw [hm] at h6 h8
              have HM := Lib.hid hm
              have hc2l : c2 = 19 := by omega
              subst hc2l
              have HH : Hid (c1 = i) := h7
              by_cases hgi : g i = 0
              · have hc0 : (S[o + (i + 1)].toNat : Int) = 48 := by rw [hc, hgi]; rfl
                have HGI := Lib.hid hgi
                clear hg9 h2 h3 h4 h5 hk0 hk1 hke h6 h7 h8 h9 hm hcn hi0 hc hgi
                go_wp2_with fail
                all_goals
                  go_roundg (n + 1 - (i + 1 + 1))
                  case measure => have := HX.out.1; have := HI.out; omega
                  case rel =>
                    obtain ⟨_, _, _, q1, _, _, q4, q5⟩ := HX.out
                    have hgi := HG.out
                    have hmm := HM.out
                    refine ⟨i + 2, i + 1, true, true, tr, M, c1 + 1, 19, d, rfl, rfl, by go_num, rfl, rfl, rfl, rfl, rfl, rfl, ⟨rfl, by have := HI.out; omega, by rw [if_neg (by omega)]; omega, (decide_eq_true (by omega)).symm, (decide_eq_true (by omega)).symm, ?_, ?_, ?_, ?_, ?_⟩, rfl⟩
                    · rw [q1, Nat.add_sub_cancel, hmm, show min (i + 1) 19 = 19 by omega]
                    · rw [cnt, if_neg hgi, HH.out]; push_cast; rfl
                    · rw [cnt, if_neg hgi, show min (i + 1) 19 = 19 by omega]; rfl
                    · rw [q4]; have := HI.out.1; simp only [show ¬ i + 1 = 0 by omega, show ¬ i + 1 = 1 by omega, show ¬ i + 2 = 0 by omega, show ¬ i + 2 = 1 by omega, if_false]
                    · rw [q5]
                      exact ⟨fun ⟨j, h1, h2, h3⟩ => ⟨j, h1, by omega, h3⟩, fun ⟨j, h1, h2, h3⟩ => ⟨j, h1, by have : j ≠ i := (fun e => h3 (by rw [e]; exact HGI.out)); omega, h3⟩⟩
              · have hc0 : ((48 : Int) + (g i : Int) == 48) = false := by rw [beq_eq_false_iff_ne]; omega
                have hc9 : ((48 : Int) + (g i : Int) != 48) = true := by simp; omega
                have HGI := Lib.hid hgi
                clear hg9 h2 h3 h4 h5 hk0 hk1 hke h6 h7 h8 h9 hm hcn hi0 hgi
                go_wp2_with fail
                all_goals
                  go_roundg (n + 1 - (i + 1 + 1))
                  case measure => have := HX.out.1; have := HI.out; omega
                  case rel =>
                    obtain ⟨_, _, _, q1, _, _, q4, q5⟩ := HX.out
                    have hgi := HG.out
                    have hmm := HM.out
                    refine ⟨i + 2, i + 1, true, true, true, M, c1 + 1, 19, d, rfl, rfl, by go_num, rfl, rfl, rfl, rfl, rfl, rfl, ⟨rfl, by have := HI.out; omega, by rw [if_neg (by omega)]; omega, (decide_eq_true (by omega)).symm, (decide_eq_true (by omega)).symm, ?_, ?_, ?_, ?_, ?_⟩, rfl⟩
                    · rw [q1, Nat.add_sub_cancel, hmm, show min (i + 1) 19 = 19 by omega]
                    · rw [cnt, if_neg hgi, HH.out]; push_cast; rfl
                    · rw [cnt, if_neg hgi, show min (i + 1) 19 = 19 by omega]; rfl
                    · rw [q4]; have := HI.out.1; simp only [show ¬ i + 1 = 0 by omega, show ¬ i + 1 = 1 by omega, show ¬ i + 2 = 0 by omega, show ¬ i + 2 = 1 by omega, if_false]
                    · exact ⟨fun _ => ⟨i, by omega, by omega, HGI.out⟩, fun _ => rfl⟩
  case rest =>
    obtain ⟨rfl, rfl, rfl, rfl, rfl, ⟨tr, rfl, htr⟩, ⟨c2, rfl, hc2'⟩, ⟨d, rfl, hd'⟩, rfl⟩ := hcut
    exact HQ.out tr c2 d htr hc2' hd' _ _ _ _ _ _ _ _ _ _ _ _ _ _ _ _ _ _ _ _ _ _ _ _ _ _ _ _ _ _ _ _ _ _ _ _ _ _ _ _ _ _ _ _ _ _ _ _ _ _ _ _ _ _ _ _ _ _ _ _ _ _ _ _ _ _ _ _ _ _ _ _ _ _ _ _ _ _ _ _ _ _ _ _ _ _ _ _ _ _ _ _ _ _ _ _ _ _ _ _ _ _ _ _ _ _ _ _ _ _ _ _ _ _ _ _ _ _ _ _ _ _ _ _ _ _ _ _ _ _ _ _ _ _ _ _ _ _ _ _ _ _ _ _ _ _ _ _ _ _ _ _ _ _ _ _ _ _ _ _ _ _ _ _ _ _ _ _ _ _ _ _ _ _ _ _ _ _ _ _ _ _ _ _ _ _ _ _ _ _ _ _ _ _ _ _ _ _ _ _ _ _ _ _ _ _ _ _ _ _ _ _ _ _ _ _ _ _ _ _ _ _ _ _ _ _ _ _ _ _ _ _ _ _
end Go.Proofs.YtnpinogjajhlhaaGreatDoor.Fl
end
section
/- readFloat, walked at a number's text. -/
namespace Go.Proofs.YtnpinogjajhlhaaGreatDoor.Fl
open Go.RowKit

set_option maxHeartbeats 4000000 in
set_option maxRecDepth 100000 in
theorem read_walk (S : ByteArray) (neg : Bool) (n : Nat) (g : Nat → Nat) (en : Bool) (m : Nat) (h : Nat → Nat) (w : World) (hS : Txt S neg n g en m h) (hg0 : g 0 = 0 → n = 1) :
    Calls Tryz.prog 167 #[.string S] w (ReadPost S n g (ex h m en) neg w) := by
  have AT : Hid (Txt S neg n g en m h ∧ (g 0 = 0 → n = 1)) := ⟨hS, hg0⟩
  have hbig := hS.big
  have hpos : 0 < S.size := by have := hS.size; omega
  have hpos1 : ¬ S = ByteArray.empty := fun hc => by rw [hc] at hpos; exact absurd hpos (by decide)
  clear hS hg0
  go_enter Tryz.func167, Tryz.ntmps167
  go_wp2_with fail
  go_step3
  go_upto_block 0 with (fail)
  go_cut [4, 7] (fun ng i wc => i = .int .i64 (neg.toNat : Nat) ∧ ng = .bool neg ∧ wc = w)
  case first =>
    cases hneg : neg with
    | false =>
      have hc := AT.out.1.d0 0 hpos (by rw [hneg]; rfl)
      have h9 := AT.out.1.g9 0 AT.out.1.pos
      have hc1 : ((S[0].toNat : Int) == 43) = false := by rw [beq_eq_false_iff_ne]; omega
      have hc2 : ((S[0].toNat : Int) == 45) = false := by rw [beq_eq_false_iff_ne]; omega
      have HE := Lib.hid hneg
      clear hc h9 hneg
      go_wp2_with fail
      go_meet
      exact ⟨by rw [HE.out]; rfl, by rw [HE.out], rfl⟩
    | true =>
      have hc := AT.out.1.sign 0 hpos rfl hneg
      have hc1 : ((S[0].toNat : Int) == 43) = false := by rw [beq_eq_false_iff_ne]; omega
      have hc2 : ((S[0].toNat : Int) == 45) = true := by rw [beq_iff_eq]; omega
      have HE := Lib.hid hneg
      clear hc hneg
      go_wp2_with fail
      go_meet
      exact ⟨by rw [HE.out]; rfl, by rw [HE.out], rfl⟩
  case rest =>
    obtain ⟨rfl, rfl, rfl⟩ := hcut
    obtain ⟨o, ho⟩ : ∃ o, neg.toNat = o := ⟨_, rfl⟩
    rw [ho]
    have HO := Lib.hid ho
    have ho1 : o ≤ 1 := by rw [← ho]; cases neg <;> decide
    have hlt0 : o < S.size := by have := AT.out.1.size; omega
    have hlt1 : o + 1 < S.size := by have := AT.out.1.size; have := AT.out.1.pos; omega
    have hlt2 : o + 2 < S.size := by have := AT.out.1.size; have := AT.out.1.pos; have := AT.out.1.mpos; omega
    have hc := AT.out.1.d0 o hlt0 ho.symm
    have hc1 := AT.out.1.dot (o + 1) hlt1 (by rw [ho])
    have hlow : bits .or .u8 46 32 = 46 := by decide +kernel
    have HL := Lib.hid (lower_walk 46)
    clear ho
    go_upto_region 12 with (fail)
    go_cut [54] (fun z wd => z = .bool false ∧ wd = wc)
    case first =>
      by_cases hg : g 0 = 0
      · have hc0 : (S[o].toNat : Int) = 48 := by rw [hc, hg]; rfl
        clear hc hg
        go_wp2_with fail
        refine (HL.out _).mono ?_
        rintro e w' ⟨rfl, rfl⟩
        rw [hlow]
        go_wp2_with fail
        go_meet
        exact ⟨rfl, rfl⟩
      · have h9 := AT.out.1.g9 0 AT.out.1.pos
        have h9' : (g 0 : Int) ≤ 9 := by omega
        have hc0 : ((48 : Int) + (g 0 : Int) == 48) = false := by rw [beq_eq_false_iff_ne]; omega
        clear hg h9
        go_wp2_with fail
        go_meet
        exact ⟨rfl, rfl⟩
    case rest =>
      obtain ⟨rfl, rfl⟩ := hcut
      clear hc hc1 HL hlow hlt2
      go_upto_block 1 with (go_step3)
      refine read_loop S neg n g en m h _ AT.out.1 AT.out.2 o HO ho1 _ _ ?_ _ _ _ _ _ _ _ _ _ _ _ _ _ _ _ _ _ _ _ _ _ _ _ _ _ _ _ _ _ _ _ _ _ _ _ _ _ _ _ _ _ _ _ _ _ _ _ _ _ _ _ _ _ _ _ _ _ _ _ _ _ _ _ _ _ _ _ _ _ _ _ _ _ _ _ _ _ _ _ _ _ _ _ _ _ _ _ _ _ _ _ _ _ _ _ _ _ _ _ _ _ _ _ _ _ _ _ _ _ _ _ _ _ _ _ _ _ _ _ _ _ _ _ _ _ _ _ _ _ _ _ _ _ _ _ _ _ _ _ _ _ _ _ _ _ _ _ _ _ _ _ _ _ _ _ _ _ _ _ _ _ _ _ _ _ _ _ _ _ _ _ _ _ _ _ _ _ _ _ _ _ _ _ _ _ _ _ _ _ _ _ _ _ _ _ _ _ _ _ _ _ _ _ _ _ _ _ _ _ _ _ _ _ _ _ _ _ _ _ _ _ _ _ _ _ _ _ _ _ _ _ _
      intro tr c2 d htr hc2' hd' u15 u18 u21 u22 u23 u24 u25 u26 u27 u28 u29 u30 u31 u32 u33 u34 u35 u36 u37 u38 u39 u40 u41 u42 u43 u44 u45 u46 u47 u48 u49 u50 u51 u52 u53 u54 u55 u56 u57 u58 u59 u60 u61 u62 u63 u64 u65 u66 u67 u68 u69 u70 u71 u72 u73 u74 u75 u76 u77 u78 u79 u80 u81 u82 u83 u84 u85 u86 u87 u88 u89 u90 u91 u92 u93 u94 u95 u96 u97 u98 u99 u100 u101 u102 u103 u104 u105 u106 u107 u108 u109 u110 u111 u112 u113 u114 u115 u116 u117 u118 u119 u120 u121 u122 u123 u124 u125 u126 u127 u128 u129 u130 u131 u132 u133 u134 u135 u136 u137 u138 u139 u140 u141 u142 u143 u144 u145 u146 u147 u148 u149 u150 u151 u152 u153 u154 u155 u156 u157 u158 u159 u160 u161 u162 u163 u164 u165 u166 u167 u168 u169 u170 u171 u172 u173 u174 u175 u176 u177 u178 u179 u180 u181 u182 u183 u184 u185 u186 u187 u188 u189 u190 u191 u192 u193 u194 u195 u196 u197 u198 u199 u200 u201 u202 u203 u204 u205 u206 u207 u208 u209 u210 u211 u212 u213 u214 u215 u216 u217 u218 u219 u220 u221 u222 u223 u224 u225 u226 u227 u228 u229 u230 u231 u232 u233 u234 u235 u236 u237 u238 u239 u240 u241 u242 u243 u244 u245 u246 u247 u248 u249 u250 u251 u252
      go_upto_if 145 with (fail)
      go_cut [16, 17] (fun nm dv wd => nm = .int .i64 c2 ∧ dv = .int .i64 d ∧ wd = wc)
      case first =>
        go_wp2_with fail
        go_meet
        exact ⟨rfl, rfl, rfl⟩
      case rest =>
        obtain ⟨rfl, rfl, rfl⟩ := hcut
        refine (‹∀ (a : Act) (w : World), Code.wp Tryz.prog _ (Exit.noGoto _) a w → _› _ _ ?_)
        exact read_tail S neg n g en m h _ AT.out.1 AT.out.2 tr htr c2 d hc2' hd' o HO ho1 _ _ _ _ _ _ _ _ _ _ _ _ _ _ _ _ _ _ _ _ _ _ _ _ _ _ _ _ _ _ _ _ _ _ _ _ _ _ _ _ _ _ _ _ _ _ _ _ _ _ _ _ _ _ _ _ _ _ _ _ _ _ _ _ _ _ _ _ _ _ _ _ _ _ _ _ _ _ _ _ _ _ _ _ _ _ _ _ _ _ _ _ _ _ _ _ _ _ _ _ _ _ _ _ _ _ _ _ _ _ _ _ _ _ _ _ _ _ _ _ _ _ _ _ _ _ _ _ _ _ _ _ _ _ _ _ _ _ _ _ _ _ _ _ _ _ _ _ _ _ _ _ _ _ _ _ _ _ _ _ _ _ _ _ _ _ _ _ _ _ _ _ _ _ _ _ _ _ _ _ _ _ _ _ _ _ _ _ _ _ _ _ _ _ _ _ _ _ _ _ _ _ _ _ _ _ _ _ _ _ _ _ _ _ _ _ _ _ _ _ _ _ _ _ _ _ _ _ _ _ _ _ _ _
end Go.Proofs.YtnpinogjajhlhaaGreatDoor.Fl
end
