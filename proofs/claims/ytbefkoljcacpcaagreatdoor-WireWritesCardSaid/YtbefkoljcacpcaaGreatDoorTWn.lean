/- What LawWireReads, LawWireWrites, LawWireSpoilt lean on, part n of 15: the texts RefQ, RefS, Rd, CardL, WiZa, CardW, CardH, WiY, WiYa. -/
import Derived.Test.YtbefkoljcacpcaaGreatDoorTWd
import Derived.Test.YtbefkoljcacpcaaGreatDoorTWj
import Derived.Test.YtbefkoljcacpcaaGreatDoorTWk
import Derived.Test.YtbefkoljcacpcaaGreatDoorTWl
import Derived.Test.YtbefkoljcacpcaaGreatDoorTWm
import Derived.ProofKit
import Derived.SliceStrings
import Derived.SizedLaws
import Derived.Test.YtbefkoljcacpcaaGreatDoorRows
import Derived.Lib.LaidTab
import Derived.Stop.LaidErr
import Derived.LaidSub
import Derived.MakeChecks
import Derived.HandedShaped
import Derived.Lay
import Derived.LaidHandle
import Derived.LaidLaws
set_option linter.unusedVariables false
set_option linter.unusedSimpArgs false
namespace Go.Proofs.YtbefkoljcacpcaaGreatDoor.Ref
open Go.RowKit Go.Proofs.YtbefkoljcacpcaaGreatDoor.B Go.Proofs.YtbefkoljcacpcaaGreatDoor.Sha Go.Proofs.YtbefkoljcacpcaaGreatDoorW.PrintLast
noncomputable def schedLoop : Code := ((Tryz.f27.body.map loops).getD []).getD 3 .skip
set_option maxRecDepth 1000000 in
set_option maxHeartbeats 2000000 in
theorem sched_loop (gb cb N i : Nat) (blk : List UInt8) (full : List (BitVec 32)) (W5 W0 : World) (hF0 : full = sched (words blk) 48) (hfl0 : full.length = 64) (hi64 : 64 * i + 64 ≤ N) (hNl : N < 100200)
    (hbb0 : ∀ j, j < 64 → W5.cell? ⟨gb, 64 * i + j, none⟩ = some (.int .u8 ((blk.getD j 0).toNat : Int))) (hst0 : Mk W5 W0 (sofar full 0))
    (u0 u1 u2 u3 u4 u6 u7 u11 u12 u13 u14 u15 u16 u17 u18 u19 u20 u21 u22 u23 u24 u25 u26 u27 u28 u29 u30 u31 u32 u33 u34 u35 u36 u37 u38 u39 u40 u41 u42 u43 u44 u45 u46 u47 u48 u49 u50 u51 u52 u53 u54 u55 u56 u57 u58 u59 u60 u61 u62 u63 u64 u65 u66 u67 u68 u69 u70 u71 u72 u73 u74 u75 u76 u77 u78 u79 u80 u81 u82 u83 u84 u85 u86 u87 u88 u89 u90 u91 u92 u93 u94 u95 u96 u97 u98 u99 u100 u101 u102 u103 u104 u105 u106 u107 u108 u109 u110 u111 u112 u113 u114 u115 u116 u117 u118 u119 u120 u121 u122 u123 u124 u125 u126 u127 u128 u129 u130 u131 u132 u133 u134 u135 u136 u137 u138 u139 u140 u141 u142 u143 u144 u145 u146 u147 u148 u149 u150 u151 u152 u153 u154 u155 u156 u157 u158 u159 u160 u161 u162 u163 u164 u165 u166 u167 u168 u169 u170 u171 u172 u173 u174 u175 u176 u177 u178 u179 u180 u181 u182 u183 u184 u185 u186 u187 u188 u189 u190 u191 u192 u193 u194 u195 u196 u197 u198 u199 u200 u201 u202 u203 u204 u205 u206 u207 u208 u209 u210 u211 u212 u213 u214 u215 u216 u217 u218 u219 u220 u221 u222 u223 u224 u225 u226 u227 u228 u229 u230 u231 u232 u233 u234 u235 u236 u237 u238 u239 u240 u241 u242 u243 u244 u245 u246 u247 u248 u249 u250 u251 u252 u253 u254 u255 u256 u257 u258 u259 u260 u261 u262 u263 u264 u265 u266 u267 u268 u269 u270 u271 u272 u273 u274 u275 u276 u277 u278 u279 u280 u281 u282 u283 u284 u285 u286 u287 u288 u289 u290 u291 u292 : Value) (Q0 : Exit → Act → World → Prop)
    (hexit : ∀ (c11 c12 c13 c58 c59 c60 c61 c62 c63 c64 c65 c66 c67 c68 c69 c70 c71 c72 c73 c74 c75 c76 c77 c78 c79 c80 c81 c82 c83 c84 c85 c86 c87 c88 c89 c90 c91 c92 c93 c94 c95 c96 c97 c98 c99 c100 c101 c102 c103 c104 c105 c106 c107 c108 c109 c110 c111 c112 c113 c114 c115 c116 c117 c118 c119 c120 c121 c122 c123 c124 c125 c126 c127 c128 c129 c130 c131 c132 c133 c134 c135 c136 c137 c138 c139 c140 c141 : Value) (W : World), Mk W5 W full → Q0 (.exit 6) ⟨List.toArray (u0 :: u1 :: u2 :: u3 :: u4 :: .slice (some ⟨gb, 0, none⟩) N cb :: u6 :: u7 :: .int .i64 (64 * (i : Int)) :: .slice (some ⟨W5.heap.size, 0, none⟩) 64 64 :: .int .i64 ((64 : Nat) : Int) :: c11 :: c12 :: c13 :: u14 :: u15 :: u16 :: u17 :: u18 :: u19 :: u20 :: u21 :: u22 :: u23 :: u24 :: u25 :: u26 :: u27 :: u28 :: u29 :: u30 :: u31 :: u32 :: u33 :: u34 :: u35 :: u36 :: u37 :: u38 :: u39 :: u40 :: u41 :: u42 :: u43 :: u44 :: u45 :: u46 :: u47 :: u48 :: u49 :: u50 :: u51 :: u52 :: u53 :: u54 :: u55 :: u56 :: u57 :: c58 :: c59 :: c60 :: c61 :: c62 :: c63 :: c64 :: c65 :: c66 :: c67 :: c68 :: c69 :: c70 :: c71 :: c72 :: c73 :: c74 :: c75 :: c76 :: c77 :: c78 :: c79 :: c80 :: c81 :: c82 :: c83 :: c84 :: c85 :: c86 :: c87 :: c88 :: c89 :: c90 :: c91 :: c92 :: c93 :: c94 :: c95 :: c96 :: c97 :: c98 :: c99 :: c100 :: c101 :: c102 :: c103 :: c104 :: c105 :: c106 :: c107 :: c108 :: c109 :: c110 :: c111 :: c112 :: c113 :: c114 :: c115 :: c116 :: c117 :: c118 :: c119 :: c120 :: c121 :: c122 :: c123 :: c124 :: c125 :: c126 :: c127 :: c128 :: c129 :: c130 :: c131 :: c132 :: c133 :: c134 :: c135 :: c136 :: c137 :: c138 :: c139 :: c140 :: c141 :: u142 :: u143 :: u144 :: u145 :: u146 :: u147 :: u148 :: u149 :: u150 :: u151 :: u152 :: u153 :: u154 :: u155 :: u156 :: u157 :: u158 :: u159 :: u160 :: u161 :: u162 :: u163 :: u164 :: u165 :: u166 :: u167 :: u168 :: u169 :: u170 :: u171 :: u172 :: u173 :: u174 :: u175 :: u176 :: u177 :: u178 :: u179 :: u180 :: u181 :: u182 :: u183 :: u184 :: u185 :: u186 :: u187 :: u188 :: u189 :: u190 :: u191 :: u192 :: u193 :: u194 :: u195 :: u196 :: u197 :: u198 :: u199 :: u200 :: u201 :: u202 :: u203 :: u204 :: u205 :: u206 :: u207 :: u208 :: u209 :: u210 :: u211 :: u212 :: u213 :: u214 :: u215 :: u216 :: u217 :: u218 :: u219 :: u220 :: u221 :: u222 :: u223 :: u224 :: u225 :: u226 :: u227 :: u228 :: u229 :: u230 :: u231 :: u232 :: u233 :: u234 :: u235 :: u236 :: u237 :: u238 :: u239 :: u240 :: u241 :: u242 :: u243 :: u244 :: u245 :: u246 :: u247 :: u248 :: u249 :: u250 :: u251 :: u252 :: u253 :: u254 :: u255 :: u256 :: u257 :: u258 :: u259 :: u260 :: u261 :: u262 :: u263 :: u264 :: u265 :: u266 :: u267 :: u268 :: u269 :: u270 :: u271 :: u272 :: u273 :: u274 :: u275 :: u276 :: u277 :: u278 :: u279 :: u280 :: u281 :: u282 :: u283 :: u284 :: u285 :: u286 :: u287 :: u288 :: u289 :: u290 :: u291 :: u292 :: []), []⟩ W) :
    Code.wp Tryz.prog schedLoop Q0 ⟨List.toArray (u0 :: u1 :: u2 :: u3 :: u4 :: .slice (some ⟨gb, 0, none⟩) N cb :: u6 :: u7 :: .int .i64 (64 * (i : Int)) :: .slice (some ⟨W5.heap.size, 0, none⟩) 64 64 :: .int .i64 0 :: u11 :: u12 :: u13 :: u14 :: u15 :: u16 :: u17 :: u18 :: u19 :: u20 :: u21 :: u22 :: u23 :: u24 :: u25 :: u26 :: u27 :: u28 :: u29 :: u30 :: u31 :: u32 :: u33 :: u34 :: u35 :: u36 :: u37 :: u38 :: u39 :: u40 :: u41 :: u42 :: u43 :: u44 :: u45 :: u46 :: u47 :: u48 :: u49 :: u50 :: u51 :: u52 :: u53 :: u54 :: u55 :: u56 :: u57 :: u58 :: u59 :: u60 :: u61 :: u62 :: u63 :: u64 :: u65 :: u66 :: u67 :: u68 :: u69 :: u70 :: u71 :: u72 :: u73 :: u74 :: u75 :: u76 :: u77 :: u78 :: u79 :: u80 :: u81 :: u82 :: u83 :: u84 :: u85 :: u86 :: u87 :: u88 :: u89 :: u90 :: u91 :: u92 :: u93 :: u94 :: u95 :: u96 :: u97 :: u98 :: u99 :: u100 :: u101 :: u102 :: u103 :: u104 :: u105 :: u106 :: u107 :: u108 :: u109 :: u110 :: u111 :: u112 :: u113 :: u114 :: u115 :: u116 :: u117 :: u118 :: u119 :: u120 :: u121 :: u122 :: u123 :: u124 :: u125 :: u126 :: u127 :: u128 :: u129 :: u130 :: u131 :: u132 :: u133 :: u134 :: u135 :: u136 :: u137 :: u138 :: u139 :: u140 :: u141 :: u142 :: u143 :: u144 :: u145 :: u146 :: u147 :: u148 :: u149 :: u150 :: u151 :: u152 :: u153 :: u154 :: u155 :: u156 :: u157 :: u158 :: u159 :: u160 :: u161 :: u162 :: u163 :: u164 :: u165 :: u166 :: u167 :: u168 :: u169 :: u170 :: u171 :: u172 :: u173 :: u174 :: u175 :: u176 :: u177 :: u178 :: u179 :: u180 :: u181 :: u182 :: u183 :: u184 :: u185 :: u186 :: u187 :: u188 :: u189 :: u190 :: u191 :: u192 :: u193 :: u194 :: u195 :: u196 :: u197 :: u198 :: u199 :: u200 :: u201 :: u202 :: u203 :: u204 :: u205 :: u206 :: u207 :: u208 :: u209 :: u210 :: u211 :: u212 :: u213 :: u214 :: u215 :: u216 :: u217 :: u218 :: u219 :: u220 :: u221 :: u222 :: u223 :: u224 :: u225 :: u226 :: u227 :: u228 :: u229 :: u230 :: u231 :: u232 :: u233 :: u234 :: u235 :: u236 :: u237 :: u238 :: u239 :: u240 :: u241 :: u242 :: u243 :: u244 :: u245 :: u246 :: u247 :: u248 :: u249 :: u250 :: u251 :: u252 :: u253 :: u254 :: u255 :: u256 :: u257 :: u258 :: u259 :: u260 :: u261 :: u262 :: u263 :: u264 :: u265 :: u266 :: u267 :: u268 :: u269 :: u270 :: u271 :: u272 :: u273 :: u274 :: u275 :: u276 :: u277 :: u278 :: u279 :: u280 :: u281 :: u282 :: u283 :: u284 :: u285 :: u286 :: u287 :: u288 :: u289 :: u290 :: u291 :: u292 :: []), []⟩ W0 := by
  unfold schedLoop
  conv => arg 2; whnf
  have hF := Lib.hid hF0
  have hfl := Lib.hid hfl0
  have hbb := Lib.hid hbb0
  have hst := Lib.hid hst0
  have hexH := Lib.hid hexit
  have hili : 64 * (i : Int) < (N : Int) := by omega
  clear hF0 hfl0 hbb0 hst0 hexit
  go_loopg [10] 64 (fun g i' W => ∃ t : Nat, g = 64 - t ∧ t ≤ 64 ∧ i' = .int .i64 t ∧ Mk W5 W (sofar full t))
  case atStart => exact ⟨0, rfl, by omega, rfl, hst.out⟩
  case round =>
    clear hst
    obtain ⟨t, hg, ht, rfl, hm⟩ := hrel
    subst hg
    by_cases htl : t < 64
    · have hsl' := sofar_length full t hfl.out (by omega)
      by_cases h16 : t < 16
      · have hi16 : (t : Int) < 16 := by omega
        have hi64 : (t : Int) < 64 := by omega
        have hb0 := mk_cell hm (hbb.out (4 * t) (by omega))
        have hb1 := mk_cell hm (hbb.out (4 * t + 1) (by omega))
        have hb2 := mk_cell hm (hbb.out (4 * t + 2) (by omega))
        have hb3 := mk_cell hm (hbb.out (4 * t + 3) (by omega))
        rw [show 64 * i + 4 * t = 64 * i + 4 * t from rfl] at hb0
        rw [← Nat.add_assoc] at hb1 hb2 hb3
        have hct : wr.cell? ⟨W5.heap.size, t, none⟩ = some (.int .u32 (nv ((sofar full t).getD t 0))) := by rw [cell_of hm.1, ucells_get _ _ (by omega)]
        have hfr := fr_of hm.1
        have hin : 64 * (i : Int) + 4 * (t : Int) + 3 < (N : Int) := by omega
        have hnx := Lib.hid (fun v hv => mk_set (v := v) hm t (word blk t) hv)
        have hwd := Lib.hid (show full.getD t 0 = word blk t from by rw [hF.out]; exact full_word blk t h16)
        have hsu := Lib.hid (sofar_succ full t hfl.out htl)
        clear hm hsl'
        obtain ⟨c0, hc0⟩ : ∃ c, blk.getD (4 * t) 0 = c := ⟨_, rfl⟩
        obtain ⟨c1, hc1⟩ : ∃ c, blk.getD (4 * t + 1) 0 = c := ⟨_, rfl⟩
        obtain ⟨c2, hc2⟩ : ∃ c, blk.getD (4 * t + 2) 0 = c := ⟨_, rfl⟩
        obtain ⟨c3, hc3⟩ : ∃ c, blk.getD (4 * t + 3) 0 = c := ⟨_, rfl⟩
        rw [hc0] at hb0
        rw [hc1] at hb1
        rw [hc2] at hb2
        rw [hc3] at hb3
        replace hc0 := Lib.hid hc0
        replace hc1 := Lib.hid hc1
        replace hc2 := Lib.hid hc2
        replace hc3 := Lib.hid hc3
        go_wp2_with fail
        refine wp_region_noPanic ?_
        go_region
        refine NoPanic.normal ?_
        go_wp2_with fail
        go_roundg (64 - (t + 1))
        case measure => omega
        case rel =>
          refine ⟨t + 1, rfl, by omega, by go_num, ?_⟩
          have := hnx.out _ (word_val c0 c1 c2 c3 hc0.out hc1.out hc2.out hc3.out)
          rw [← hwd.out, hsu.out] at this
          exact mk_drew this
      · have h16' : ¬ (t : Int) < 16 := by omega
        have hi64 : (t : Int) < 64 := by omega
        have hc16 := mk_at hm (t - 16) (by omega)
        have hc15 := mk_at hm (t - 15) (by omega)
        have hc7 := mk_at hm (t - 7) (by omega)
        have hc2 := mk_at hm (t - 2) (by omega)
        have hct := mk_at hm t (by omega)
        have hfr := fr_of hm.1
        rw [sofar_at full t _ hfl.out (by omega) (by omega)] at hc16 hc15 hc7 hc2
        have hnext := sched_next (words blk) t (words_length _) (by omega) htl
        rw [← hF.out] at hnext
        have hmH := Lib.hid hm
        have hnextH := Lib.hid hnext
        have hsu := Lib.hid (sofar_succ full t hfl.out htl)
        clear hsl' hnext hm
        generalize full.getD (t - 16) 0 = x16 at *
        generalize full.getD (t - 15) 0 = x15 at *
        generalize full.getD (t - 7) 0 = x7 at *
        generalize full.getD (t - 2) 0 = x2 at *
        have hw16 : IntKind.i64.wrap ((t : Int) - 16) = ((t - 16 : Nat) : Int) := by rw [show (t : Int) - 16 = ((t - 16 : Nat) : Int) from by omega]; exact Go.Proofs.YtbefkoljcacpcaaGreatDoor.Sha.wrap_small (Int.natCast_nonneg _) (by omega)
        have hw7 : IntKind.i64.wrap ((t : Int) - 7) = ((t - 7 : Nat) : Int) := by rw [show (t : Int) - 7 = ((t - 7 : Nat) : Int) from by omega]; exact Go.Proofs.YtbefkoljcacpcaaGreatDoor.Sha.wrap_small (Int.natCast_nonneg _) (by omega)
        have hb16 : (((t - 16 : Nat) : Int) < 64) = True := eq_true (by omega)
        have hb7 : (((t - 7 : Nat) : Int) < 64) = True := eq_true (by omega)
        have ht16 : ¬ (t - 16 = t) := by omega
        have ht7 : ¬ (t - 7 = t) := by omega
        have ht16' : ¬ (t = t - 16) := by omega
        have ht7' : ¬ (t = t - 7) := by omega
        go_wp2_with fail
        refine wp_region_noPanic ?_
        go_region_held3 (fun W => W.cell? ⟨W5.heap.size, t - 16, none⟩ = some (.int .u32 (nv x16)) ∧ W.cell? ⟨W5.heap.size, t - 7, none⟩ = some (.int .u32 (nv x7))) (first | go_keep | exact ⟨keep_set hc16 ht16, keep_set hc7 ht7⟩)
          ((go_at_call 54; refine (rturn_any _ _ (by unfold Cnt; omega) _).mono ?_; rintro e w' ⟨rfl, n', rfl⟩))
        refine NoPanic.normal ?_
        go_wp2_with fail
        go_roundg (64 - (t + 1))
        case measure => omega
        case rel =>
          refine ⟨t + 1, rfl, by omega, by go_num, ?_⟩
          have hms := mk_set hmH.out t (full.getD t 0) (sched_val2 x16 x15 x7 x2 |>.trans (congrArg nv hnextH.out.symm))
          rw [hsu.out] at hms
          exact ⟨hms.1, ⟨hms.2.os, hms.2.tape, hms.2.output, hms.2.size, hms.2.block⟩⟩
    · have ht64 : t = 64 := by omega
      subst ht64
      have hf64 : sofar full 64 = full := by unfold sofar; rw [List.take_of_length_le (by rw [hfl.out]; omega)]; simp
      rw [hf64] at hm
      have hmH := Lib.hid hm
      clear hm hf64
      go_wp2_with fail
      apply hexH.out
      exact hmH.out
end Go.Proofs.YtbefkoljcacpcaaGreatDoor.Ref
set_option linter.unusedVariables false
set_option linter.unusedSimpArgs false
namespace Go.Proofs.YtbefkoljcacpcaaGreatDoor.Ref
open Go.RowKit Go.Proofs.YtbefkoljcacpcaaGreatDoor.B Go.Proofs.YtbefkoljcacpcaaGreatDoor.Sha Go.Proofs.YtbefkoljcacpcaaGreatDoorW.PrintLast
set_option maxRecDepth 100000 in
set_option maxHeartbeats 8000000 in
theorem RSum_any (s : ByteArray) (hsz : s.size ≤ 100000) (w : World) :
    Calls Tryz.prog 27 #[.string s] w fun e w' => e = .returned (.string (sha K H0 s)) ∧ Tch (fun _ => False) w w' := by
  have hszi : (s.size : Int) ≤ 100000 := by omega
  have hCH := Lib.hid (TableH w)
  have hCK := Lib.hid (fun w' => TableK w')
  have hbo := Lib.hid (fun W => rowB_of W (s ++ { data := #[128] }) (by rw [ByteArray.size_append]; show s.size + 1 ≤ _; omega))
  have hs1 : (s ++ { data := #[128] } : ByteArray).size = s.size + 1 := by rw [ByteArray.size_append]; rfl
  have hs2 := Lib.hid (show (s ++ { data := #[128] } : ByteArray).data.toList = bz s.data.toList 0 from by rw [ByteArray.data_append, Array.toList_append]; rfl)
  have hsl := Lib.hid (len_list s)
  go_enter Tryz.func27, Tryz.ntmps27
  go_wp2_with (first
    | (go_at_call 53; go_fit (hCH.out); rintro e w1 ⟨v1, rfl, ho1, ht1⟩; obtain ⟨gh, ch, rfl, hgh1, hgh2⟩ := ho1.form (by omega); replace ho1 := Lib.hid ho1; replace ht1 := Lib.hid ht1)
    | (go_at_call 53; go_fit (hCK.out _); rintro e w2 ⟨v2, rfl, ho2, ht2⟩; obtain ⟨gk, ck, rfl, hgk1, hgk2⟩ := ho2.form (by omega); replace ho2 := Lib.hid ho2; replace ht2 := Lib.hid ht2; obtain ⟨cb, w3, hcv, hrb, hbw⟩ := hbo.out w2; replace hrb := Lib.hid hrb; replace hbw := Lib.hid hbw))
  have hw2 := Lib.hid hgk2
  clear hCH hCK hbo hcv
  generalize hB2 : w2.heap.size = B at *
  replace hB2 := Lib.hid hB2
  have hrb0 := Lib.hid (show RowB w3 B (.slice (some ⟨B, 0, none⟩) (s.size + 1) cb) (s.size + 1) (bz s.data.toList 0) from by have := hrb.out; rwa [hs1, hs2.out] at this)
  clear hrb
  go_loopg [5] (zs s.size) (fun g v W => ∃ j, g = zs s.size - j ∧ j ≤ zs s.size ∧ RowB W B v (s.size + 1 + j) (bz s.data.toList j) ∧ Below B w3 W)
  case atStart => exact ⟨0, rfl, by omega, hrb0.out, Below.refl _ _⟩
  case round =>
    clear hrb0
    obtain ⟨j, hg, hj, hr, hbl⟩ := hrel
    subst hg
    have hz64 : zs s.size < 64 := Nat.mod_lt _ (by omega)
    obtain ⟨gb, cb, rfl⟩ := hr.form
    by_cases hjl : j < zs s.size
    · have hm := zs_more s.size j hjl
      have hmi : ¬ ((s.size : Int) + 1 + (j : Int)) % 64 = 56 := by omega
      have hltB := Lib.hid hr.lt
      have hrH := Lib.hid hr
      have hblH := Lib.hid hbl
      clear hr hbl hm
      go_wp2_with (at_builtin; refine wpList_rowB (by rfl) _ _ (by rfl) B _ (s.size + 1 + j) _ 0 (by rfl) (hrH.out.keep ((Tch.refl _ _).alloc _)) ⟨wr.heap.size, 0, none⟩ 1 (by rfl) (cell1 wr _ _ rfl) (by omega) (by have := hltB.out; simp; omega) ?_; intro g cap w4 hr4 hb4)
      go_roundg (zs s.size - (j + 1))
      case measure => omega
      case rel => exact ⟨j + 1, rfl, by omega, by rw [bz_next]; exact hr4, hblH.out.trans (((Below.refl _ _).alloc (Nat.le_of_lt hltB.out) _).trans hb4)⟩
    · have hje : j = zs s.size := by omega
      subst hje
      have hm := zs_end s.size
      have hmi : ((s.size : Int) + 1 + (zs s.size : Int)) % 64 = 56 := by omega
      have hrH := Lib.hid (show RowB wr B (.slice (some ⟨gb, 0, none⟩) (s.size + 1 + zs s.size) cb) (s.size + 1 + zs s.size + 0) (bl s.data.toList 0) from by
        unfold bl; rw [hsl.out, List.take_zero, List.append_nil]; exact hr)
      have hblH := Lib.hid hbl
      clear hr hbl
      replace hm := Lib.hid hm
      generalize hn0 : s.size + 1 + zs s.size = n0 at *
      have hn0i : (s.size : Int) + 1 + (zs s.size : Int) = (n0 : Int) := by omega
      have hn0l : n0 < 100100 := by omega
      have hmn : (n0 : Int) % 64 = 56 := by omega
      go_wp2_with fail
      clear hmi hmn
      go_loopg [5, 7] 8 (fun g v i W => ∃ j : Nat, g = 8 - j ∧ j ≤ 8 ∧ i = .int .i64 (7 - (j : Int)) ∧ RowB W B v (n0 + j) (bl s.data.toList j) ∧ Below B w3 W)
      case atStart => exact ⟨0, rfl, by omega, rfl, hrH.out, hblH.out⟩
      case round =>
        clear hrH hblH
        obtain ⟨j, hg, hj, rfl, hr, hbl⟩ := hrel
        subst hg
        obtain ⟨gb, cb, rfl⟩ := hr.form
        by_cases hjl : j < 8
        · have hnx := Lib.hid (bl_next s.data.toList j hjl)
          have hltB := Lib.hid hr.lt
          have hrH := Lib.hid hr
          have hblH := Lib.hid hbl
          clear hr hbl
          obtain rfl | rfl | rfl | rfl | rfl | rfl | rfl | rfl : j = 0 ∨ j = 1 ∨ j = 2 ∨ j = 3 ∨ j = 4 ∨ j = 5 ∨ j = 6 ∨ j = 7 := by omega
          · obtain ⟨x, hx⟩ : ∃ x, x = UInt8.ofNat (s.size * 8 / 2 ^ (8 * (7 - 0))) := ⟨_, rfl⟩
            have hxi := Lib.hid (show ((s.size : Int) * 8 / 72057594037927936) = (x.toNat : Int) from by rw [hx, UInt8.toNat_ofNat']; omega)
            rw [hsl.out, ← hx] at hnx
            clear hx
            go_wp2_with (at_builtin; refine wpList_rowB (by rfl) _ _ (by rfl) B _ (n0 + 0) _ x (by rfl) (hrH.out.keep ((Tch.refl _ _).alloc _)) ⟨wr.heap.size, 0, none⟩ 1 (by rfl) (cell1 wr _ _ hxi.out) (by omega) (by have := hltB.out; simp; omega) ?_; intro g cap w4 hr4 hb4)
            go_roundg (8 - (0 + 1))
            case measure => omega
            case rel => exact ⟨0 + 1, rfl, by omega, by go_num, by rw [hnx.out]; exact hr4, hblH.out.trans (((Below.refl _ _).alloc (Nat.le_of_lt hltB.out) _).trans hb4)⟩
          · obtain ⟨x, hx⟩ : ∃ x, x = UInt8.ofNat (s.size * 8 / 2 ^ (8 * (7 - 1))) := ⟨_, rfl⟩
            have hxi := Lib.hid (show ((s.size : Int) * 8 / 281474976710656) = (x.toNat : Int) from by rw [hx, UInt8.toNat_ofNat']; omega)
            rw [hsl.out, ← hx] at hnx
            clear hx
            go_wp2_with (at_builtin; refine wpList_rowB (by rfl) _ _ (by rfl) B _ (n0 + 1) _ x (by rfl) (hrH.out.keep ((Tch.refl _ _).alloc _)) ⟨wr.heap.size, 0, none⟩ 1 (by rfl) (cell1 wr _ _ hxi.out) (by omega) (by have := hltB.out; simp; omega) ?_; intro g cap w4 hr4 hb4)
            go_roundg (8 - (1 + 1))
            case measure => omega
            case rel => exact ⟨1 + 1, rfl, by omega, by go_num, by rw [hnx.out]; exact hr4, hblH.out.trans (((Below.refl _ _).alloc (Nat.le_of_lt hltB.out) _).trans hb4)⟩
          · obtain ⟨x, hx⟩ : ∃ x, x = UInt8.ofNat (s.size * 8 / 2 ^ (8 * (7 - 2))) := ⟨_, rfl⟩
            have hxi := Lib.hid (show ((s.size : Int) * 8 / 1099511627776) = (x.toNat : Int) from by rw [hx, UInt8.toNat_ofNat']; omega)
            rw [hsl.out, ← hx] at hnx
            clear hx
            go_wp2_with (at_builtin; refine wpList_rowB (by rfl) _ _ (by rfl) B _ (n0 + 2) _ x (by rfl) (hrH.out.keep ((Tch.refl _ _).alloc _)) ⟨wr.heap.size, 0, none⟩ 1 (by rfl) (cell1 wr _ _ hxi.out) (by omega) (by have := hltB.out; simp; omega) ?_; intro g cap w4 hr4 hb4)
            go_roundg (8 - (2 + 1))
            case measure => omega
            case rel => exact ⟨2 + 1, rfl, by omega, by go_num, by rw [hnx.out]; exact hr4, hblH.out.trans (((Below.refl _ _).alloc (Nat.le_of_lt hltB.out) _).trans hb4)⟩
          · obtain ⟨x, hx⟩ : ∃ x, x = UInt8.ofNat (s.size * 8 / 2 ^ (8 * (7 - 3))) := ⟨_, rfl⟩
            have hxi := Lib.hid (show ((s.size : Int) * 8 / 4294967296) = (x.toNat : Int) from by rw [hx, UInt8.toNat_ofNat']; omega)
            rw [hsl.out, ← hx] at hnx
            clear hx
            go_wp2_with (at_builtin; refine wpList_rowB (by rfl) _ _ (by rfl) B _ (n0 + 3) _ x (by rfl) (hrH.out.keep ((Tch.refl _ _).alloc _)) ⟨wr.heap.size, 0, none⟩ 1 (by rfl) (cell1 wr _ _ hxi.out) (by omega) (by have := hltB.out; simp; omega) ?_; intro g cap w4 hr4 hb4)
            go_roundg (8 - (3 + 1))
            case measure => omega
            case rel => exact ⟨3 + 1, rfl, by omega, by go_num, by rw [hnx.out]; exact hr4, hblH.out.trans (((Below.refl _ _).alloc (Nat.le_of_lt hltB.out) _).trans hb4)⟩
          · obtain ⟨x, hx⟩ : ∃ x, x = UInt8.ofNat (s.size * 8 / 2 ^ (8 * (7 - 4))) := ⟨_, rfl⟩
            have hxi := Lib.hid (show ((s.size : Int) * 8 / 16777216) = (x.toNat : Int) from by rw [hx, UInt8.toNat_ofNat']; omega)
            rw [hsl.out, ← hx] at hnx
            clear hx
            go_wp2_with (at_builtin; refine wpList_rowB (by rfl) _ _ (by rfl) B _ (n0 + 4) _ x (by rfl) (hrH.out.keep ((Tch.refl _ _).alloc _)) ⟨wr.heap.size, 0, none⟩ 1 (by rfl) (cell1 wr _ _ hxi.out) (by omega) (by have := hltB.out; simp; omega) ?_; intro g cap w4 hr4 hb4)
            go_roundg (8 - (4 + 1))
            case measure => omega
            case rel => exact ⟨4 + 1, rfl, by omega, by go_num, by rw [hnx.out]; exact hr4, hblH.out.trans (((Below.refl _ _).alloc (Nat.le_of_lt hltB.out) _).trans hb4)⟩
          · obtain ⟨x, hx⟩ : ∃ x, x = UInt8.ofNat (s.size * 8 / 2 ^ (8 * (7 - 5))) := ⟨_, rfl⟩
            have hxi := Lib.hid (show ((s.size : Int) * 8 / 65536) = (x.toNat : Int) from by rw [hx, UInt8.toNat_ofNat']; omega)
            rw [hsl.out, ← hx] at hnx
            clear hx
            go_wp2_with (at_builtin; refine wpList_rowB (by rfl) _ _ (by rfl) B _ (n0 + 5) _ x (by rfl) (hrH.out.keep ((Tch.refl _ _).alloc _)) ⟨wr.heap.size, 0, none⟩ 1 (by rfl) (cell1 wr _ _ hxi.out) (by omega) (by have := hltB.out; simp; omega) ?_; intro g cap w4 hr4 hb4)
            go_roundg (8 - (5 + 1))
            case measure => omega
            case rel => exact ⟨5 + 1, rfl, by omega, by go_num, by rw [hnx.out]; exact hr4, hblH.out.trans (((Below.refl _ _).alloc (Nat.le_of_lt hltB.out) _).trans hb4)⟩
          · obtain ⟨x, hx⟩ : ∃ x, x = UInt8.ofNat (s.size * 8 / 2 ^ (8 * (7 - 6))) := ⟨_, rfl⟩
            have hxi := Lib.hid (show (((s.size : Int) * 8 / 256) % 256) = (x.toNat : Int) from by rw [hx, UInt8.toNat_ofNat']; omega)
            rw [hsl.out, ← hx] at hnx
            clear hx
            go_wp2_with (at_builtin; refine wpList_rowB (by rfl) _ _ (by rfl) B _ (n0 + 6) _ x (by rfl) (hrH.out.keep ((Tch.refl _ _).alloc _)) ⟨wr.heap.size, 0, none⟩ 1 (by rfl) (cell1 wr _ _ hxi.out) (by omega) (by have := hltB.out; simp; omega) ?_; intro g cap w4 hr4 hb4)
            go_roundg (8 - (6 + 1))
            case measure => omega
            case rel => exact ⟨6 + 1, rfl, by omega, by go_num, by rw [hnx.out]; exact hr4, hblH.out.trans (((Below.refl _ _).alloc (Nat.le_of_lt hltB.out) _).trans hb4)⟩
          · obtain ⟨x, hx⟩ : ∃ x, x = UInt8.ofNat (s.size * 8 / 2 ^ (8 * (7 - 7))) := ⟨_, rfl⟩
            have hxi := Lib.hid (show ((s.size : Int) * 8 % 256) = (x.toNat : Int) from by rw [hx, UInt8.toNat_ofNat']; omega)
            rw [hsl.out, ← hx] at hnx
            clear hx
            go_wp2_with (at_builtin; refine wpList_rowB (by rfl) _ _ (by rfl) B _ (n0 + 7) _ x (by rfl) (hrH.out.keep ((Tch.refl _ _).alloc _)) ⟨wr.heap.size, 0, none⟩ 1 (by rfl) (cell1 wr _ _ hxi.out) (by omega) (by have := hltB.out; simp; omega) ?_; intro g cap w4 hr4 hb4)
            go_roundg (8 - (7 + 1))
            case measure => omega
            case rel => exact ⟨7 + 1, rfl, by omega, by go_num, by rw [hnx.out]; exact hr4, hblH.out.trans (((Below.refl _ _).alloc (Nat.le_of_lt hltB.out) _).trans hb4)⟩
        · have hj8 : j = 8 := by omega
          subst hj8
          rw [bl_end] at hr
          have hout := base_start hgh2 hgk1 (hB2.out ▸ hgk2) hgh1 ho1.out ht1.out ho2.out ht2.out hB2.out (by have := hbw.out; exact this) hbl hr
          have hn64 : (n0 + 8) % 64 = 0 := by have := hm.out; omega
          obtain ⟨hbase, hll⟩ := hout
          clear hr hbl
          obtain ⟨bs, hbs⟩ : ∃ bs, bs = s.data.toList ++ padding s.data.toList.length := ⟨_, rfl⟩
          rw [← hbs] at hbase hll
          have hres := Lib.hid (show sha K H0 s = ⟨((runs K H0 bs).flatMap ofWord).toArray⟩ from by rw [hbs]; rfl)
          clear hbs
          have hst := Lib.hid (show Blk wr wr w gh ch bs 0 H0 from ⟨hbase.hown, rfl, Tch.refl _ _, rfl⟩)
          have hbH := Lib.hid hbase
          have hNl : n0 + 8 < 100200 := by omega
          clear hbase
          replace hll := Lib.hid hll
          generalize hwb : wr = wb at *
          replace hwb := Lib.hid hwb
          generalize n0 + 8 = N at *
          go_wp2_with fail
          have hmk : ∀ W : World, (Instr.makeSlice 111 (.int .i64 64) (.int .i64 64)).run Tryz.prog W = .ok (.slice (some ⟨W.heap.size, 0, none⟩) 64 64) (W.alloc (.cells (ucells zeros64) 97)) := by
            intro W
            have := Go.run_make_row' (P := Tryz.prog) 111 97 (.int .u32 0) 4 Tryz.underlying111 info32 rfl .i64 .i64 64 (by omega) (by omega) W
            rw [made_uc] at this
            exact this
          go_loopg [8] (N / 64) (fun g av W => ∃ (i : Nat) (hs : List (BitVec 32)), g = N / 64 - i ∧ 64 * i ≤ N ∧ av = .int .i64 (64 * (i : Int)) ∧ Blk wb W w gh ch bs i hs)
          case atStart => exact ⟨0, H0, rfl, by omega, rfl, hst.out⟩
          case round =>
            clear hst
            obtain ⟨i, hs, hg, hi, rfl, hb⟩ := hrel
            subst hg
            by_cases hil : 64 * i < N
            · obtain ⟨x0, x1, x2, x3, x4, x5, x6, x7, rfl⟩ := eight hb.2.1
              have hi64 : 64 * i + 64 ≤ N := by omega
              have hili : 64 * (i : Int) < (N : Int) := by omega
              obtain ⟨blk, hblk⟩ : ∃ blk, blk = (bs.drop (64 * i)).take 64 := ⟨_, rfl⟩
              obtain ⟨full, hfull⟩ : ∃ full, full = sched (words blk) 48 := ⟨_, rfl⟩
              have hfl : full.length = 64 := by rw [hfull, sched_length, words_length]
              have hbb := Lib.hid (fun j (hj : j < 64) => blk_cell hbH.out hb.2.2.1 hblk hll.out (show 64 * i + 64 ≤ N from hi64) hj)
              have hst := Lib.hid (show Mk wr (wr.alloc (.cells (ucells zeros64) 97)) (sofar full 0) from ⟨by show _ = _; rw [heap_alloc_at]; simp [sofar, zeros64], (Below.refl _ _).alloc (Nat.le_refl _) _⟩)
              have hbH2 := Lib.hid hb
              have hF := Lib.hid hfull
              replace hfl := Lib.hid hfl
              replace hblk := Lib.hid hblk
              clear hb hfull
              generalize hW5 : wr = W5 at *
              replace hW5 := Lib.hid hW5
              go_wp2_with fail
              refine sched_loop _ _ N i blk full W5 _ hF.out hfl.out hi64 hNl hbb.out hst.out _ _ _ _ _ _ _ _ _ _ _ _ _ _ _ _ _ _ _ _ _ _ _ _ _ _ _ _ _ _ _ _ _ _ _ _ _ _ _ _ _ _ _ _ _ _ _ _ _ _ _ _ _ _ _ _ _ _ _ _ _ _ _ _ _ _ _ _ _ _ _ _ _ _ _ _ _ _ _ _ _ _ _ _ _ _ _ _ _ _ _ _ _ _ _ _ _ _ _ _ _ _ _ _ _ _ _ _ _ _ _ _ _ _ _ _ _ _ _ _ _ _ _ _ _ _ _ _ _ _ _ _ _ _ _ _ _ _ _ _ _ _ _ _ _ _ _ _ _ _ _ _ _ _ _ _ _ _ _ _ _ _ _ _ _ _ _ _ _ _ _ _ _ _ _ _ _ _ _ _ _ _ _ _ _ _ _ _ _ _ _ _ _ _ _ _ _ _ _ _ _ _ _ _ _ _ _ _ _ _ _ _ _ _ _ _ _ _ _ _ _ _ _ _ _ _ _ _ _ _ _ _ _ _ _ _ _ _ _ _ _ _ _ _ _ _ _ _ _ _ _ _ _ _ _ _ _ _ _ _ _ _ _ _ _ _ _ _ _ _ _ _ _ _ _ _ _ _ _ _ _ _ _ _ _ _ _ _ _ _ ?_
              · intro c11 c12 c13 c58 c59 c60 c61 c62 c63 c64 c65 c66 c67 c68 c69 c70 c71 c72 c73 c74 c75 c76 c77 c78 c79 c80 c81 c82 c83 c84 c85 c86 c87 c88 c89 c90 c91 c92 c93 c94 c95 c96 c97 c98 c99 c100 c101 c102 c103 c104 c105 c106 c107 c108 c109 c110 c111 c112 c113 c114 c115 c116 c117 c118 c119 c120 c121 c122 c123 c124 c125 c126 c127 c128 c129 c130 c131 c132 c133 c134 c135 c136 c137 c138 c139 c140 c141 wr hm
                clear hst hmk
                have hown := own_keep hbH2.out.1 (Tch.of_new hm.2)
                have hcs := own_eight hown
                obtain ⟨i3, hi3, hz3, hs3, hb3⟩ := info_parts info32
                have hmH := Lib.hid hm
                have hownH := Lib.hid hown
                clear hm hown hi64
                have hown0 := Lib.hid (own_empty wr)
                have hKc := Lib.hid (fun j (hj : j < 64) => (Tch.of_new (S := fun _ => False) hmH.out.2).cell (hbH2.out.2.2.1.cell (hbH.out.k j hj) hbH.out.ne1) (fun e => e))
                have hFc := Lib.hid (fun j (hj : j < 64) => mk_at hmH.out j (by rw [hfl.out]; exact hj))
                go_wp2_with (at_builtin; refine wpList_append_lies _ (by rfl) _ _ _ (by rfl) wr.heap.size 97 i3 _ 1 4 Tryz.underlying111 hi3 hz3 hs3 hb3 rfl (by omega) (.slice (some ⟨wr.heap.size, 0, none⟩) 0 0) 0 [] (by rfl) hown0.out ⟨gh, 0, none⟩ 8 ch [.int .u32 (nv x0), .int .u32 (nv x1), .int .u32 (nv x2), .int .u32 (nv x3), .int .u32 (nv x4), .int .u32 (nv x5), .int .u32 (nv x6), .int .u32 (nv x7)] (by rfl) (by rfl) (own_eight (hownH.out.alloc _)) (by simp [Value.oneCell']) (by omega) (by unfold maxLen; omega) (by omega) (by simp) (wr.heap.size + 1) (by simp) ?_; intro gv cv w6 hown6 hgrow6 hat6 hlt6)
                clear hcs
                have ht6 := own_tch (S := fun _ => False) ((Tch.refl _ wr).alloc _) hown0.out (Nat.le_refl _) hgrow6
                have hst6 := Lib.hid (show RowV wr.heap.size w6 (.slice (some ⟨gv, 0, none⟩) 8 cv) [x0, x1, x2, x3, x4, x5, x6, x7] from rowV_of hown6)
                have hKc6 := Lib.hid (fun j (hj : j < 64) => ht6.cell (hKc.out j hj) (fun e => e))
                have hFc6 := Lib.hid (fun j (hj : j < 64) => ht6.cell (hFc.out j hj) (fun e => e))
                have ht6H := Lib.hid ht6
                clear hown6 hgrow6 hat6 hlt6
                have hownW6 := Lib.hid (own_keep hownH.out ht6)
                have hT6 := Lib.hid ((hbH2.out.2.2.1.trans ((Tch.of_new (S := fun k => k = gh) hmH.out.2))).trans (ht6.mono fun _ h => h.elim))
                have hlo6 := Lib.hid (show wr.heap.size ≤ w6.heap.size from ht6.size)
                have hghlt := Lib.hid (show gh < wr.heap.size from (hownH.out.lt gh rfl).2)
                clear ht6
                generalize wr.heap.size = wv at hst6 hlo6 hghlt
                refine rounds_loop gk _ _ _ wv full x0 x1 x2 x3 x4 x5 x6 x7 w6 _ hlo6.out hst6.out hKc6.out hFc6.out _ _ _ _ _ _ _ _ _ _ _ _ _ _ _ _ _ _ _ _ _ _ _ _ _ _ _ _ _ _ _ _ _ _ _ _ _ _ _ _ _ _ _ _ _ _ _ _ _ _ _ _ _ _ _ _ _ _ _ _ _ _ _ _ _ _ _ _ _ _ _ _ _ _ _ _ _ _ _ _ _ _ _ _ _ _ _ _ _ _ _ _ _ _ _ _ _ _ _ _ _ _ _ _ _ _ _ _ _ _ _ _ _ _ _ _ _ _ _ _ _ _ _ _ _ _ _ _ _ _ _ _ _ _ _ _ _ _ _ _ _ _ _ _ _ _ _ _ _ _ _ _ _ _ _ _ _ _ _ _ _ _ _ _ _ _ _ _ _ _ _ _ _ _ _ _ _ _ _ _ _ _ _ _ _ _ _ _ _ _ _ _ _ _ _ _ _ _ _ _ _ _ _ _ _ _ _ _ _ _ _ _ _ _ _ _ _ _ _ _ _ _ _ _ _ _ _ _ _ _ _ _ _ _ _ _ _ _ _ _ _ _ _ _ _ _ _ _ _ _ _ _ _ _ _ _ _ _ _ _ _ _ _ _ _ _ _ _ _ _ _ _ _ _ _ _ _ _ _ _ _ _ _ _ _ _ _ _ _ _ ?_
                · intro c16 c17 c18 c19 c145 c146 c147 c148 c149 c150 c151 c152 c153 c154 c155 c156 c157 c158 c159 c160 c161 c162 c163 c164 c165 c166 c167 c168 c169 c170 c171 c172 c173 c174 c175 c176 c177 c178 c179 c180 c181 c182 c183 c184 c185 c186 c187 c188 c189 c190 c191 c192 c193 c194 c195 c196 c197 c198 c199 c200 c201 c202 c203 c204 c205 c206 c207 c208 c209 c210 c211 c212 c213 c214 c215 c216 c217 c218 c219 c220 c221 c222 c223 c224 c225 c226 c227 c228 c229 c230 c231 c232 c233 c234 c235 c236 c237 c238 c239 c240 c241 c242 c243 c244 v1 wr hr htc
                  clear hst6 hKc hFc
                  obtain ⟨y0, y1, y2, y3, y4, y5, y6, y7, hv⟩ := eight (rounds_length K full [x0, x1, x2, x3, x4, x5, x6, x7] rfl 64)
                  rw [hv] at hr
                  obtain ⟨gv, cv, rfl, hgvlo, hcv⟩ := hr
                  have hne : ¬ gv = gh := by have := hghlt.out; omega
                  have hown7 := own_keep hownW6.out htc
                  have hT7 := Lib.hid (hT6.out.trans (htc.mono fun _ h => h.elim))
                  have hvH := Lib.hid hv
                  have hst7 := Lib.hid (show Hs w wr wr gh ch gv [x0, x1, x2, x3, x4, x5, x6, x7] [y0, y1, y2, y3, y4, y5, y6, y7] 0 from ⟨by rw [addTo_zero]; exact hown7, fun k hk => hcv k hk, Tch.refl _ _⟩)
                  clear hcv hown7 hv htc
                  generalize hW7 : wr = w7 at *
                  replace hW7 := Lib.hid hW7
                  go_wp2_with fail
                  go_loopg [20] 8 (fun g i' W => ∃ j : Nat, g = 8 - j ∧ j ≤ 8 ∧ i' = .int .i64 j ∧ Hs w w7 W gh ch gv [x0, x1, x2, x3, x4, x5, x6, x7] [y0, y1, y2, y3, y4, y5, y6, y7] j)
                  case atStart => exact ⟨0, rfl, by omega, rfl, hst7.out⟩
                  case round =>
                    clear hst7
                    obtain ⟨j, hg, hj, rfl, hh⟩ := hrel
                    subst hg
                    by_cases hjl : j < 8
                    · have hji : (j : Int) < 8 := by omega
                      have hcx := hs_cell hh hjl
                      have hcy := hh.2.1 j hjl
                      have hfr := hh.1.frozenAt j
                      have hnx := Lib.hid (fun A hA n => hs_next (A := A) hh hjl hne hA n)
                      clear hh
                      generalize ([x0, x1, x2, x3, x4, x5, x6, x7] : List (BitVec 32)).getD j 0 = xj at *
                      generalize ([y0, y1, y2, y3, y4, y5, y6, y7] : List (BitVec 32)).getD j 0 = yj at *
                      go_wp2_with fail
                      go_region
                      go_wp2_with fail
                      go_roundg (8 - (j + 1))
                      case measure => omega
                      case rel => exact ⟨j + 1, rfl, by omega, by go_num, hnx.out _ (nv_add _ _) 1⟩
                    · have hj8 : j = 8 := by omega
                      subst hj8
                      have hB := Lib.hid (blk_next (by rw [hll.out]; omega) hbH2.out.2.2.2 hblk.out (by rw [← hF.out]; exact hvH.out) hT7.out hh)
                      clear hh
                      go_wp2_with fail
                      go_roundg (N / 64 - (i + 1))
                      case measure => omega
                      case rel => exact ⟨i + 1, _, rfl, by omega, by go_num, hB.out⟩
            · have hie : 64 * i = N := by omega
              have hili : ¬ 64 * (i : Int) < (N : Int) := by omega
              have hrun := Lib.hid (blk_end (by rw [hll.out]; omega) hb)
              have hownE := Lib.hid hb.1
              have hsl8 := Lib.hid hb.2.1
              have htE := Lib.hid (sum_tch hbH.out hb.2.2.1)
              clear hb
              go_wp2_with fail
              go_loopg [21, 22] 8 (fun g ov i' W => ∃ (j : Nat) (o : ByteArray), g = 8 - j ∧ j ≤ 8 ∧ ov = .string o ∧ i' = .int .i64 j ∧ o.data.toList = (hs.take j).flatMap ofWord ∧ Tch (fun _ => False) wr W)
              case atStart => exact ⟨0, ⟨#[]⟩, rfl, by omega, rfl, rfl, rfl, Tch.refl _ _⟩
              case round =>
                obtain ⟨j, o, hg, hj, rfl, rfl, ho, ht⟩ := hrel
                subst hg
                by_cases hjl : j < 8
                · have hji : (j : Int) < 8 := by omega
                  have hown := own_keep hownE.out ht
                  have hc := hown.cellAt j (by omega)
                  rw [uvs_get hs j (by rw [hsl8.out]; exact hjl)] at hc
                  have hos : (o.size : Int) ≤ 32 := by
                    have := congrArg List.length ho
                    rw [len_list] at this
                    have h2 := flat_le (hs.take j) 
                    rw [List.length_take] at h2
                    omega
                  have hnx := Lib.hid (flat_next hsl8.out hjl)
                  have hoH := Lib.hid ho
                  have htH := Lib.hid ht
                  clear hown ho ht
                  generalize hs.getD j 0 = xj at *
                  have hw4 : ((⟨(ofWord xj).toArray⟩ : ByteArray).size : Int) ≤ 4 := by show (((ofWord xj).toArray.size : Nat) : Int) ≤ 4; simp [ofWord]
                  have hcvd := conv4h wr xj
                  have hcal : (wr.alloc (.cells #[.int .u8 (IntKind.u8.wrap (nv xj / 16777216)), .int .u8 (IntKind.u8.wrap (nv xj / 65536)), .int .u8 (IntKind.u8.wrap (nv xj / 256)), .int .u8 (IntKind.u8.wrap (nv xj))] 5)).drew.cell? ⟨gh, j, none⟩ = some (.int .u32 (nv xj)) :=
                    (World.cell?_alloc_lt _ _ _ (World.block_lt_of_cell? wr _ hc)).trans hc
                  have hsum : (9223372036854775807 < o.size + (ofWord xj).length) = False := eq_false (by have : (ofWord xj).length = 4 := rfl; omega)
                  go_wp2_with fail
                  refine start_ (n := 28) (S := fun W => W.cell? ⟨gh, j, none⟩ = some (.int .u32 (nv xj))) (ds := []) #[false, false, false, false, false, false, false, false, false, false, false, false, false, false, false, false, false, false, false, false, false, false, false, false, false, false, false, false] (by kernel_rfl) rfl rfl ?_ (fun hHeld => ?_)
                  · go_simp
                  refine pure_ (i := 0) (N := some 265) (v := ?_) (a' := ?_) #[true, false, false, false, false, false, false, false, false, false, false, false, false, false, false, false, false, false, false, false, false, false, false, false, false, false, false, false] rfl rfl (by kernel_rfl) (fun _ _ _ h => h) (Or.inl ⟨by rfl, ?_⟩) ?_ ?_
                  rotate_left
                  · intro w'
                    go_simp
                    with_reducible rfl
                  rotate_left
                  · simp only [Act.put, List.setIfInBounds_toArray, List.set_cons_zero, List.set_cons_succ, i64_w, i32_w]
                    rfl
                  refine pure_ (i := 1) (N := some 266) (v := ?_) (a' := ?_) #[true, true, false, false, false, false, false, false, false, false, false, false, false, false, false, false, false, false, false, false, false, false, false, false, false, false, false, false] rfl rfl (by kernel_rfl) (fun _ _ _ h => h) (Or.inl ⟨by rfl, ?_⟩) ?_ ?_
                  rotate_left
                  · intro w'
                    go_simp
                    with_reducible rfl
                  rotate_left
                  · simp only [Act.put, List.setIfInBounds_toArray, List.set_cons_zero, List.set_cons_succ, i64_w, i32_w]
                    rfl
                  refine pure_ (i := 2) (N := some 267) (v := ?_) (a' := ?_) #[true, true, true, false, false, false, false, false, false, false, false, false, false, false, false, false, false, false, false, false, false, false, false, false, false, false, false, false] rfl rfl (by kernel_rfl) (fun _ _ _ h => h) (Or.inl ⟨by rfl, ?_⟩) ?_ ?_
                  rotate_left
                  · intro w'
                    go_simp
                    with_reducible rfl
                  rotate_left
                  · simp only [Act.put, List.setIfInBounds_toArray, List.set_cons_zero, List.set_cons_succ, i64_w, i32_w]
                    rfl
                  refine pure_ (i := 3) (N := some 268) (v := ?_) (a' := ?_) #[true, true, true, true, false, false, false, false, false, false, false, false, false, false, false, false, false, false, false, false, false, false, false, false, false, false, false, false] rfl rfl (by kernel_rfl) (fun _ _ _ h => h) (Or.inl ⟨by rfl, ?_⟩) ?_ ?_
                  rotate_left
                  · intro w'
                    go_simp
                    with_reducible rfl
                  rotate_left
                  · simp only [Act.put, List.setIfInBounds_toArray, List.set_cons_zero, List.set_cons_succ, i64_w, i32_w]
                    rfl
                  refine take_ (i := 4) (N := some 269) (v := ?_) (a' := ?_) #[true, true, true, true, true, false, false, false, false, false, false, false, false, false, false, false, false, false, false, false, false, false, false, false, false, false, false, false] rfl rfl (by kernel_rfl) (fun _ _ _ h => h) (Or.inl ⟨by rfl, ?_⟩) hHeld ?_ ?_
                  rotate_left
                  · intro w' hS'
                    go_simp
                    with_reducible rfl
                  rotate_left
                  · simp only [Act.put, List.setIfInBounds_toArray, List.set_cons_zero, List.set_cons_succ, i64_w, i32_w]
                    rfl
                  refine pure_ (i := 5) (N := some 270) (v := ?_) (a' := ?_) #[true, true, true, true, true, true, false, false, false, false, false, false, false, false, false, false, false, false, false, false, false, false, false, false, false, false, false, false] rfl rfl (by kernel_rfl) (fun _ _ _ h => h) (Or.inl ⟨by rfl, ?_⟩) ?_ ?_
                  rotate_left
                  · intro w'
                    go_simp
                    with_reducible rfl
                  rotate_left
                  · simp only [Act.put, List.setIfInBounds_toArray, List.set_cons_zero, List.set_cons_succ, i64_w, i32_w]
                    rfl
                  refine pure_ (i := 6) (N := some 271) (v := ?_) (a' := ?_) #[true, true, true, true, true, true, true, false, false, false, false, false, false, false, false, false, false, false, false, false, false, false, false, false, false, false, false, false] rfl rfl (by kernel_rfl) (fun _ _ _ h => h) (Or.inl ⟨by rfl, ?_⟩) ?_ ?_
                  rotate_left
                  · intro w'
                    go_simp
                    with_reducible rfl
                  rotate_left
                  · simp only [Act.put, List.setIfInBounds_toArray, List.set_cons_zero, List.set_cons_succ, i64_w, i32_w]
                    rfl
                  refine pure_ (i := 7) (N := some 272) (v := ?_) (a' := ?_) #[true, true, true, true, true, true, true, true, false, false, false, false, false, false, false, false, false, false, false, false, false, false, false, false, false, false, false, false] rfl rfl (by kernel_rfl) (fun _ _ _ h => h) (Or.inl ⟨by rfl, ?_⟩) ?_ ?_
                  rotate_left
                  · intro w'
                    go_simp
                    with_reducible rfl
                  rotate_left
                  · simp only [Act.put, List.setIfInBounds_toArray, List.set_cons_zero, List.set_cons_succ, i64_w, i32_w]
                    rfl
                  refine pure_ (i := 8) (N := some 273) (v := ?_) (a' := ?_) #[true, true, true, true, true, true, true, true, true, false, false, false, false, false, false, false, false, false, false, false, false, false, false, false, false, false, false, false] rfl rfl (by kernel_rfl) (fun _ _ _ h => h) (Or.inl ⟨by rfl, ?_⟩) ?_ ?_
                  rotate_left
                  · intro w'
                    go_simp
                    with_reducible rfl
                  rotate_left
                  · simp only [Act.put, List.setIfInBounds_toArray, List.set_cons_zero, List.set_cons_succ, i64_w, i32_w]
                    rfl
                  refine pure_ (i := 9) (N := some 274) (v := ?_) (a' := ?_) #[true, true, true, true, true, true, true, true, true, true, false, false, false, false, false, false, false, false, false, false, false, false, false, false, false, false, false, false] rfl rfl (by kernel_rfl) (fun _ _ _ h => h) (Or.inl ⟨by rfl, ?_⟩) ?_ ?_
                  rotate_left
                  · intro w'
                    go_simp
                    with_reducible rfl
                  rotate_left
                  · simp only [Act.put, List.setIfInBounds_toArray, List.set_cons_zero, List.set_cons_succ, i64_w, i32_w]
                    rfl
                  refine take_ (i := 10) (N := some 275) (v := ?_) (a' := ?_) #[true, true, true, true, true, true, true, true, true, true, true, false, false, false, false, false, false, false, false, false, false, false, false, false, false, false, false, false] rfl rfl (by kernel_rfl) (fun _ _ _ h => h) (Or.inl ⟨by rfl, ?_⟩) hHeld ?_ ?_
                  rotate_left
                  · intro w' hS'
                    go_simp
                    with_reducible rfl
                  rotate_left
                  · simp only [Act.put, List.setIfInBounds_toArray, List.set_cons_zero, List.set_cons_succ, i64_w, i32_w]
                    rfl
                  refine pure_ (i := 11) (N := some 276) (v := ?_) (a' := ?_) #[true, true, true, true, true, true, true, true, true, true, true, true, false, false, false, false, false, false, false, false, false, false, false, false, false, false, false, false] rfl rfl (by kernel_rfl) (fun _ _ _ h => h) (Or.inl ⟨by rfl, ?_⟩) ?_ ?_
                  rotate_left
                  · intro w'
                    go_simp
                    with_reducible rfl
                  rotate_left
                  · simp only [Act.put, List.setIfInBounds_toArray, List.set_cons_zero, List.set_cons_succ, i64_w, i32_w]
                    rfl
                  refine pure_ (i := 12) (N := some 277) (v := ?_) (a' := ?_) #[true, true, true, true, true, true, true, true, true, true, true, true, true, false, false, false, false, false, false, false, false, false, false, false, false, false, false, false] rfl rfl (by kernel_rfl) (fun _ _ _ h => h) (Or.inl ⟨by rfl, ?_⟩) ?_ ?_
                  rotate_left
                  · intro w'
                    go_simp
                    with_reducible rfl
                  rotate_left
                  · simp only [Act.put, List.setIfInBounds_toArray, List.set_cons_zero, List.set_cons_succ, i64_w, i32_w]
                    rfl
                  refine pure_ (i := 13) (N := some 278) (v := ?_) (a' := ?_) #[true, true, true, true, true, true, true, true, true, true, true, true, true, true, false, false, false, false, false, false, false, false, false, false, false, false, false, false] rfl rfl (by kernel_rfl) (fun _ _ _ h => h) (Or.inl ⟨by rfl, ?_⟩) ?_ ?_
                  rotate_left
                  · intro w'
                    go_simp
                    with_reducible rfl
                  rotate_left
                  · simp only [Act.put, List.setIfInBounds_toArray, List.set_cons_zero, List.set_cons_succ, i64_w, i32_w]
                    rfl
                  refine pure_ (i := 14) (N := some 279) (v := ?_) (a' := ?_) #[true, true, true, true, true, true, true, true, true, true, true, true, true, true, true, false, false, false, false, false, false, false, false, false, false, false, false, false] rfl rfl (by kernel_rfl) (fun _ _ _ h => h) (Or.inl ⟨by rfl, ?_⟩) ?_ ?_
                  rotate_left
                  · intro w'
                    go_simp
                    with_reducible rfl
                  rotate_left
                  · simp only [Act.put, List.setIfInBounds_toArray, List.set_cons_zero, List.set_cons_succ, i64_w, i32_w]
                    rfl
                  refine pure_ (i := 15) (N := some 280) (v := ?_) (a' := ?_) #[true, true, true, true, true, true, true, true, true, true, true, true, true, true, true, true, false, false, false, false, false, false, false, false, false, false, false, false] rfl rfl (by kernel_rfl) (fun _ _ _ h => h) (Or.inl ⟨by rfl, ?_⟩) ?_ ?_
                  rotate_left
                  · intro w'
                    go_simp
                    with_reducible rfl
                  rotate_left
                  · simp only [Act.put, List.setIfInBounds_toArray, List.set_cons_zero, List.set_cons_succ, i64_w, i32_w]
                    rfl
                  refine take_ (i := 16) (N := some 281) (v := ?_) (a' := ?_) #[true, true, true, true, true, true, true, true, true, true, true, true, true, true, true, true, true, false, false, false, false, false, false, false, false, false, false, false] rfl rfl (by kernel_rfl) (fun _ _ _ h => h) (Or.inl ⟨by rfl, ?_⟩) hHeld ?_ ?_
                  rotate_left
                  · intro w' hS'
                    go_simp
                    with_reducible rfl
                  rotate_left
                  · simp only [Act.put, List.setIfInBounds_toArray, List.set_cons_zero, List.set_cons_succ, i64_w, i32_w]
                    rfl
                  refine pure_ (i := 17) (N := some 282) (v := ?_) (a' := ?_) #[true, true, true, true, true, true, true, true, true, true, true, true, true, true, true, true, true, true, false, false, false, false, false, false, false, false, false, false] rfl rfl (by kernel_rfl) (fun _ _ _ h => h) (Or.inl ⟨by rfl, ?_⟩) ?_ ?_
                  rotate_left
                  · intro w'
                    go_simp
                    with_reducible rfl
                  rotate_left
                  · simp only [Act.put, List.setIfInBounds_toArray, List.set_cons_zero, List.set_cons_succ, i64_w, i32_w]
                    rfl
                  refine pure_ (i := 18) (N := some 283) (v := ?_) (a' := ?_) #[true, true, true, true, true, true, true, true, true, true, true, true, true, true, true, true, true, true, true, false, false, false, false, false, false, false, false, false] rfl rfl (by kernel_rfl) (fun _ _ _ h => h) (Or.inl ⟨by rfl, ?_⟩) ?_ ?_
                  rotate_left
                  · intro w'
                    go_simp
                    with_reducible rfl
                  rotate_left
                  · simp only [Act.put, List.setIfInBounds_toArray, List.set_cons_zero, List.set_cons_succ, i64_w, i32_w]
                    rfl
                  refine pure_ (i := 19) (N := some 284) (v := ?_) (a' := ?_) #[true, true, true, true, true, true, true, true, true, true, true, true, true, true, true, true, true, true, true, true, false, false, false, false, false, false, false, false] rfl rfl (by kernel_rfl) (fun _ _ _ h => h) (Or.inl ⟨by rfl, ?_⟩) ?_ ?_
                  rotate_left
                  · intro w'
                    go_simp
                    with_reducible rfl
                  rotate_left
                  · simp only [Act.put, List.setIfInBounds_toArray, List.set_cons_zero, List.set_cons_succ, i64_w, i32_w]
                    rfl
                  refine pure_ (i := 20) (N := some 285) (v := ?_) (a' := ?_) #[true, true, true, true, true, true, true, true, true, true, true, true, true, true, true, true, true, true, true, true, true, false, false, false, false, false, false, false] rfl rfl (by kernel_rfl) (fun _ _ _ h => h) (Or.inl ⟨by rfl, ?_⟩) ?_ ?_
                  rotate_left
                  · intro w'
                    go_simp
                    with_reducible rfl
                  rotate_left
                  · simp only [Act.put, List.setIfInBounds_toArray, List.set_cons_zero, List.set_cons_succ, i64_w, i32_w]
                    rfl
                  refine pure_ (i := 21) (N := some 286) (v := ?_) (a' := ?_) #[true, true, true, true, true, true, true, true, true, true, true, true, true, true, true, true, true, true, true, true, true, true, false, false, false, false, false, false] rfl rfl (by kernel_rfl) (fun _ _ _ h => h) (Or.inl ⟨by rfl, ?_⟩) ?_ ?_
                  rotate_left
                  · intro w'
                    go_simp
                    with_reducible rfl
                  rotate_left
                  · simp only [Act.put, List.setIfInBounds_toArray, List.set_cons_zero, List.set_cons_succ, i64_w, i32_w]
                    rfl
                  refine take_ (i := 22) (N := some 287) (v := ?_) (a' := ?_) #[true, true, true, true, true, true, true, true, true, true, true, true, true, true, true, true, true, true, true, true, true, true, true, false, false, false, false, false] rfl rfl (by kernel_rfl) (fun _ _ _ h => h) (Or.inl ⟨by rfl, ?_⟩) hHeld ?_ ?_
                  rotate_left
                  · intro w' hS'
                    go_simp
                    with_reducible rfl
                  rotate_left
                  · simp only [Act.put, List.setIfInBounds_toArray, List.set_cons_zero, List.set_cons_succ, i64_w, i32_w]
                    rfl
                  refine pure_ (i := 23) (N := some 288) (v := ?_) (a' := ?_) #[true, true, true, true, true, true, true, true, true, true, true, true, true, true, true, true, true, true, true, true, true, true, true, true, false, false, false, false] rfl rfl (by kernel_rfl) (fun _ _ _ h => h) (Or.inl ⟨by rfl, ?_⟩) ?_ ?_
                  rotate_left
                  · intro w'
                    go_simp
                    with_reducible rfl
                  rotate_left
                  · simp only [Act.put, List.setIfInBounds_toArray, List.set_cons_zero, List.set_cons_succ, i64_w, i32_w]
                    rfl
                  refine one_ (i := 24) (N := some 289) #[true, true, true, true, true, true, true, true, true, true, true, true, true, true, true, true, true, true, true, true, true, true, true, true, true, false, false, false] rfl rfl (by kernel_rfl) (by decide) (fun K hK => ?_)
                  refine value_ (v := .slice (some ⟨wr.heap.size, 0, none⟩) 4 4) (w1 := (wr.alloc (.cells #[.int .u8 (IntKind.u8.wrap (nv xj / 16777216)), .int .u8 (IntKind.u8.wrap (nv xj / 65536)), .int .u8 (IntKind.u8.wrap (nv xj / 256)), .int .u8 (IntKind.u8.wrap (nv xj))] 5)).drew) (by rfl) rfl ?_ ?_
                  · go_simp
                  refine hK.out _ _ ?_ (fun hHeld => ?_)
                  · exact hcal
                  clear hK K
                  refine norm_ (a' := ?_) ?_ ?_
                  rotate_left
                  · show Act.put _ (some 289) _ = _
                    simp only [Act.put, List.setIfInBounds_toArray, List.set_cons_zero, List.set_cons_succ, i64_w, i32_w]
                    rfl
                  refine one_ (i := 25) (N := some 290) #[true, true, true, true, true, true, true, true, true, true, true, true, true, true, true, true, true, true, true, true, true, true, true, true, true, true, false, false] rfl rfl (by kernel_rfl) (by decide) (fun K hK => ?_)
                  refine value_ (v := .string ⟨(ofWord xj).toArray⟩) (w1 := (wr.alloc (.cells #[.int .u8 (IntKind.u8.wrap (nv xj / 16777216)), .int .u8 (IntKind.u8.wrap (nv xj / 65536)), .int .u8 (IntKind.u8.wrap (nv xj / 256)), .int .u8 (IntKind.u8.wrap (nv xj))] 5)).drew) (by rfl) rfl ?_ ?_
                  · first | (go_simp; done) | (go_simp; rw [hcvd]; rfl) | (go_simp; simp only [hcvd]; rfl)
                  refine hK.out _ _ ?_ (fun hHeld => ?_)
                  · exact hcal
                  clear hK K
                  refine norm_ (a' := ?_) ?_ ?_
                  rotate_left
                  · show Act.put _ (some 290) _ = _
                    simp only [Act.put, List.setIfInBounds_toArray, List.set_cons_zero, List.set_cons_succ, i64_w, i32_w]
                    rfl
                  refine pure_ (i := 26) (N := some 291) (v := ?_) (a' := ?_) #[true, true, true, true, true, true, true, true, true, true, true, true, true, true, true, true, true, true, true, true, true, true, true, true, true, true, true, false] rfl rfl (by kernel_rfl) (fun _ _ _ h => h) (Or.inl ⟨by rfl, ?_⟩) ?_ ?_
                  rotate_left
                  · intro w'
                    go_simp
                    with_reducible rfl
                  rotate_left
                  · simp only [Act.put, List.setIfInBounds_toArray, List.set_cons_zero, List.set_cons_succ, i64_w, i32_w]
                    rfl
                  refine pure_ (i := 27) (N := some 21) (v := ?_) (a' := ?_) #[true, true, true, true, true, true, true, true, true, true, true, true, true, true, true, true, true, true, true, true, true, true, true, true, true, true, true, true] rfl rfl (by kernel_rfl) (fun _ _ _ h => h) (Or.inl ⟨by rfl, ?_⟩) ?_ ?_
                  rotate_left
                  · intro w'
                    go_simp
                    with_reducible rfl
                  rotate_left
                  · simp only [Act.put, List.setIfInBounds_toArray, List.set_cons_zero, List.set_cons_succ, i64_w, i32_w]
                    rfl
                  refine done_ (by kernel_rfl) ?_
                  go_wp2_with fail
                  go_roundg (8 - (j + 1))
                  case measure => omega
                  case rel => exact ⟨j + 1, _, rfl, by omega, rfl, by go_num, by rw [hnx.out, ByteArray.data_append, Array.toList_append, hoH.out], (htH.out.alloc _).drew⟩
                · have hj8 : j = 8 := by omega
                  subst hj8
                  rw [List.take_of_length_le (by rw [hsl8.out]; omega)] at ho
                  have hfin := Lib.hid (show sha K H0 s = o from by rw [hres.out, hrun.out, ← ho])
                  have htH := Lib.hid (htE.out.trans ht)
                  clear ho ht
                  go_wp2_with fail
                  go_ret
                  exact ⟨by rw [hfin.out]; rfl, htH.out⟩
end Go.Proofs.YtbefkoljcacpcaaGreatDoor.Ref
set_option linter.unusedVariables false
set_option linter.unusedSimpArgs false
namespace Go.Proofs.YtbefkoljcacpcaaGreatDoor.Rd
open Go.RowKit Go.WideShapes Go.ChangeShapes
def Keeps (w w' : World) : Prop := ∀ a v, w.cell? a = some v → w'.cell? a = some v
theorem Keeps.refl (w : World) : Keeps w w := fun _ _ h => h
theorem Keeps.trans {a b c : World} (h : Keeps a b) (k : Keeps b c) : Keeps a c := fun x v hx => k x v (h x v hx)
theorem Keeps.of_below {w w' : World} (h : Below w.heap.size w w') : Keeps w w' := fun a v hc => (h.cell (World.block_lt_of_cell? w a hc)).trans hc
theorem Keeps.alloc (w : World) (o : Obj) : Keeps w (w.alloc o) := fun a v hc => (World.cell?_alloc_lt _ _ _ (World.block_lt_of_cell? w a hc)).trans hc
theorem Keeps.drew (w : World) : Keeps w w.drew := fun _ _ h => h
abbrev Rel (α : Type) := World → List Value → α → Prop
def RInt (k : IntKind) : Rel Int := fun _ cs x => cs = [.int k x] ∧ (Lit.int k x).wf = true
def RStr : Rel ByteArray := fun _ cs x => cs = [.string x] ∧ x.size ≤ 140737488351232
def RSl {α : Type} (size : Nat) (R : Rel α) : Rel (List α) := fun w cs xs =>
  ∃ A cap, cs = [.slice A xs.length cap] ∧ xs.length ≤ cap ∧ cap ≤ 140737488351232 ∧
    (0 < xs.length → ∃ b off, A = some ⟨b, off, none⟩ ∧ ∀ i (h : i < xs.length), ∃ es : List Value, es.length = size ∧ (∀ j, j < size → w.cell? ⟨b, off + i * size + j, none⟩ = es[j]?) ∧ R w es xs[i])
theorem choose_list {α : Type} {p : Nat → α → Prop} : ∀ (n : Nat), (∀ i, i < n → ∃ x, p i x) → ∃ xs : List α, xs.length = n ∧ ∀ i (h : i < xs.length), p i xs[i]
  | 0, _ => ⟨[], rfl, fun i h => absurd h (Nat.not_lt_zero _)⟩
  | n + 1, h => by
    obtain ⟨xs, hl, hx⟩ := choose_list n (fun i hi => h i (by omega))
    obtain ⟨y, hy⟩ := h n (by omega)
    refine ⟨xs ++ [y], by simp [hl], fun i hi => ?_⟩
    simp only [List.length_append, List.length_cons, List.length_nil] at hi
    by_cases e : i < xs.length
    · rw [List.getElem_append_left e]; exact hx i e
    · obtain rfl : i = n := by omega
      rw [List.getElem_append_right (by omega)]
      simpa [hl] using hy
section
variable {H : Type} {enc : TypeId × Value → H} {P : Program} {w : World}
def Opens {α : Type} (enc : TypeId × Value → H) (P : Program) (w : World) (t : TypeId) (R : Rel α) : Prop :=
  ∀ fuel cs y, DataW.trod enc P w 0 (fun _ => true) true fuel t cs = some y → (∀ n ∈ y.1.weights P t, n ≤ reachBytes) → ∃ x, R w cs x
theorem opens_int {t : TypeId} {k : IntKind} (ht : P.underlying t = some (.int k)) : Opens enc P w t (RInt k) := fun fuel cs y h _ => by
  obtain ⟨n, h1, _, h3⟩ := DataW.trod_int ht h
  exact ⟨n, h1, h3⟩
theorem opens_str {t : TypeId} (ht : P.underlying t = some .string) : Opens enc P w t RStr := fun fuel cs y h hw => by
  obtain ⟨n, h1, rfl, h3⟩ := DataW.trod_string ht h
  refine ⟨n, h1, ?_⟩
  have := hw n.data.toList.length (by simp [DataW.weights])
  simp only [Array.length_toList] at this
  exact this
theorem add_add0 (a : Addr) (i j : Nat) (h : a.spot = none) : (a.add i).add j = ⟨a.block, a.off + i + j, none⟩ := by
  obtain ⟨b, o, s⟩ := a
  simp only at h
  subst h
  unfold Addr.add
  by_cases h1 : i = 0 <;> by_cases h2 : j = 0 <;> simp [h1, h2]
theorem weights_all {t : TypeId} : ∀ {ds : List (DataW H)} {d : DataW H}, d ∈ ds → ∀ n ∈ d.weights P t, n ∈ DataW.weightsAll P t ds
  | d0 :: ds, d, hd, n, hn => by
    simp only [DataW.weightsAll, List.mem_append]
    rcases List.mem_cons.1 hd with e | e
    · exact .inl (e ▸ hn)
    · exact .inr (weights_all e n hn)
theorem opens_sl {α : Type} {t e : TypeId} {size : Nat} {R : Rel α} (ht : P.underlying t = some (.slice e)) (hC : P.cellsOf e = size) (hs : 0 < size) (hB : 0 < P.bytesOf e) (he : Opens enc P w e R) : Opens enc P w t (RSl size R) := by
  intro fuel cs y h hw
  rcases DataW.trod_slice ht h with ⟨rfl, _⟩ | ⟨a, len, cap, elems, rest, n, _, rfl, rfl, _, hl, hm, hlen, hel, hsp, _⟩
  · exact ⟨[], none, 0, rfl, Nat.le_refl _, by omega, fun h => absurd h (Nat.lt_irrefl 0)⟩
  · have hcap : cap ≤ 140737488351232 := by
      have h1 := hw ((elems.length + rest.length) * P.bytesOf e) (by simp [DataW.weights, ht])
      have h2 := (hsp rfl).1
      have h3 : elems.length + rest.length ≤ (elems.length + rest.length) * P.bytesOf e := Nat.le_mul_of_pos_right _ hB
      unfold reachBytes at h1
      omega
    have hwe : ∀ y ∈ elems, ∀ n ∈ y.1.weights P e, n ≤ reachBytes := fun y hy n hn => by
      refine hw n ?_
      simp only [DataW.weights, ht, List.mem_cons, List.mem_append]
      exact .inr (.inl (weights_all (List.mem_map_of_mem hy) n hn))
    have each : ∀ i, i < len → ∃ x, ∃ es : List Value, es.length = size ∧ (∀ j, j < size → w.cell? ((a.add (i * size)).add j) = es[j]?) ∧ R w es x := by
      intro i hi
      have h1 := hel i hi
      rw [hC, List.getElem?_eq_getElem (by omega)] at h1
      obtain ⟨es, hes, htr⟩ := Option.bind_eq_some_iff.1 h1
      obtain ⟨_, h2, h3⟩ := World.cells?_some hes
      obtain ⟨x, hx⟩ := he _ _ _ htr (hwe _ (List.getElem_mem _))
      exact ⟨x, es, h2, h3, hx⟩
    obtain ⟨xs, hxl, hx⟩ := choose_list len each
    subst hxl
    refine ⟨xs, some a, cap, rfl, hl, hcap, fun h0 => ?_⟩
    have hsp : a.spot = none := by
      obtain ⟨es, h1, h2, _⟩ := hx 0 h0
      have := h2 0 hs
      rw [List.getElem?_eq_getElem (by omega)] at this
      have e : (a.add (0 * size)).add 0 = a := by simp [Addr.add]
      rw [e] at this
      exact World.cell?_spot this
    refine ⟨a.block, a.off, by obtain ⟨b, o, s⟩ := a; simp only at hsp; rw [hsp], fun i hi => ?_⟩
    obtain ⟨es, h1, h2, h3⟩ := hx i hi
    refine ⟨es, h1, fun j hj => ?_, h3⟩
    rw [← add_add0 a _ _ hsp]
    exact h2 j hj
theorem struct_fields {t : TypeId} {fs : Array Field} {fuel : Nat} {cs : List Value} {y : DataW H × List MemPlace} (ht : P.underlying t = some (.struct fs))
    (h : DataW.trod enc P w 0 (fun _ => true) true fuel t cs = some y) (hw : ∀ n ∈ y.1.weights P t, n ≤ reachBytes) :
    cs.length = P.cellsOf t ∧ ∀ (α : Type) (i : Nat) (f : Field) (R : Rel α), fs[i]? = some f → Opens enc P w f.type R → ∃ x, R w ((cs.drop f.offset).take (P.cellsOf f.type)) x := by
  obtain ⟨xs, n, _, rfl, hl, hxl, hf⟩ := DataW.trod_struct ht h
  refine ⟨hl, fun α i f R hi ho => ?_⟩
  have hil : i < xs.length := by
    rw [hxl]
    exact (Array.getElem?_eq_some_iff.1 hi).1
  have h1 := hf i f hi
  rw [List.getElem?_eq_getElem hil] at h1
  refine ho _ _ _ h1 fun m hm => hw m ?_
  simp only [DataW.weights, ht]
  exact DataW.weights_mem_each (j := i) (t := f.type) (d := xs[i].1) (by simp [List.getElem?_map, Array.getElem?_toList, hi]) (by simp [List.getElem?_map, List.getElem?_eq_getElem hil]) m hm
theorem arg_weights {ts : List TypeId} {ds : List (DataW H)} (h : (DataW.weightsEach P ts ds).all (· ≤ reachBytes) = true) {j : Nat} {t : TypeId} {d : DataW H} (ht : ts[j]? = some t) (hd : ds[j]? = some d) : ∀ n ∈ d.weights P t, n ≤ reachBytes :=
  fun n hn => by simpa using List.all_eq_true.1 h _ (DataW.weights_mem_each ht hd n hn)
end
theorem sl_at {α : Type} {size : Nat} {R : Rel α} {w : World} {A : Option Addr} {len cap : Nat} {xs : List α} (h : RSl size R w [.slice A len cap] xs) : len = xs.length ∧ len ≤ cap ∧ cap ≤ 140737488351232 ∧
    (0 < len → ∃ b off, A = some ⟨b, off, none⟩ ∧ ∀ i (hi : i < xs.length), ∃ es : List Value, es.length = size ∧ (∀ j, j < size → w.cell? ⟨b, off + i * size + j, none⟩ = es[j]?) ∧ R w es xs[i]) := by
  obtain ⟨A', cap', e, h1, h2, h3⟩ := h
  injection e with e
  injection e with e1 e2 e3
  subst e1; subst e2; subst e3
  exact ⟨rfl, h1, h2, h3⟩
end Go.Proofs.YtbefkoljcacpcaaGreatDoor.Rd
set_option linter.unusedVariables false
set_option linter.unusedSimpArgs false
namespace Go.Proofs.YtbefkoljcacpcaaGreatDoor.Wi
open Go Go.RowKit Go.WideShapes Go.ChangeShapes Go.Proofs.YtbefkoljcacpcaaGreatDoorW.PrintWords Go.Proofs.YtbefkoljcacpcaaGreatDoor.B Go.Proofs.YtbefkoljcacpcaaGreatDoor.Tm
theorem at_field {l : List Value} {k n : Nat} {x : Value} (h : (l.drop k).take n = [x]) : l[k]? = some x := by
  have e := congrArg (fun L => L[0]?) h
  simp only [List.getElem?_cons_zero, List.getElem?_take, List.getElem?_drop, Nat.add_zero] at e
  split at e
  · exact e
  · cases e
theorem C_of_rsl {w : World} {A : Option Addr} {n c : Nat} {xs : List ByteArray} (h : Rd.RSl 1 Rd.RStr w [.slice A n c] xs) : Kd.C Kd.string w A n xs ∧ n ≤ c ∧ ∀ x ∈ xs, x.size ≤ 140737488351232 := by
  obtain ⟨h1, h2, h3, h4⟩ := Rd.sl_at h
  subst h1
  have hl : xs.length ≤ 9223372036854775807 := by omega
  refine ⟨⟨rfl, hl, fun h0 => ?_⟩, h2, fun x hx => ?_⟩
  · obtain ⟨b, off, rfl, hc⟩ := h4 h0
    refine ⟨_, rfl, fun j p hj => ?_⟩
    obtain ⟨hjl, hjp⟩ := List.getElem?_eq_some_iff.1 hj
    obtain ⟨es, e1, e2, e3⟩ := hc j hjl
    rw [hjp] at e3
    refine ⟨es, e1, e3.1, fun i u hu => ?_⟩
    have hi := (List.getElem?_eq_some_iff.1 hu).1
    rw [add_off, show off + (j * Kd.string.sz + i) = off + j * 1 + i from by show off + (j * 1 + i) = _; omega, e2 i (by omega)]
    exact hu
  · obtain ⟨i, hi, rfl⟩ := List.mem_iff_getElem.1 hx
    obtain ⟨b, off, _, hc⟩ := h4 (by omega)
    obtain ⟨es, _, _, e3⟩ := hc i hi
    exact e3.2
set_option maxRecDepth 100000 in
theorem letter_open {H : Type} {enc : TypeId × Value → H} (v : Value) {d : DataW H} {ps : List MemPlace} (w : World) {base : Nat}
    (hv : Value.okWide Tryz.prog w .any base 24 v) (h : DataW.Trod enc Tryz.prog w 0 (fun _ => true) true 24 v d ps) (hw : ∀ n ∈ d.weights Tryz.prog 24, n ≤ reachBytes) :
    ∃ v0 v1 v2 v3 v4 v5 A c l p, v = .agg (letCells v0 v1 v2 v3 v4 v5 A l.length c p) ∧ Kd.C Kd.string w A l.length l ∧ l.length ≤ c ∧ ∀ x ∈ l, x.size ≤ 140737488351232 := by
  obtain ⟨cs, rfl, hsz⟩ := okWide_struct Tryz.underlying24 hv
  obtain ⟨fuel, hf⟩ := h
  obtain ⟨hl, S⟩ := Rd.struct_fields Tryz.underlying24 hf hw
  have oI : Rd.Opens enc Tryz.prog w 3 (Rd.RInt .i64) := Rd.opens_int Tryz.underlying3
  have oL : Rd.Opens enc Tryz.prog w 22 (Rd.RSl 1 Rd.RStr) := Rd.opens_sl (size := 1) Tryz.underlying22 (by kernel_rfl) (by omega) (of_decide_eq_true (by kernel_rfl)) (Rd.opens_str Tryz.underlying9)
  have oS : Rd.Opens enc Tryz.prog w 9 Rd.RStr := Rd.opens_str Tryz.underlying9
  obtain ⟨v0, e0, _⟩ := S Int 0 _ (Rd.RInt .i64) rfl oI
  obtain ⟨v1, e1, _⟩ := S Int 1 _ (Rd.RInt .i64) rfl oI
  obtain ⟨v2, e2, _⟩ := S Int 2 _ (Rd.RInt .i64) rfl oI
  obtain ⟨v3, e3, _⟩ := S Int 3 _ (Rd.RInt .i64) rfl oI
  obtain ⟨v4, e4, _⟩ := S Int 4 _ (Rd.RInt .i64) rfl oI
  obtain ⟨v5, e5, _⟩ := S Int 5 _ (Rd.RInt .i64) rfl oI
  obtain ⟨l, h6⟩ := S (List ByteArray) 6 _ (Rd.RSl 1 Rd.RStr) rfl oL
  obtain ⟨p, e7, _⟩ := S ByteArray 7 _ Rd.RStr rfl oS
  have h6' := h6
  obtain ⟨A, c, e6, _⟩ := h6'
  rw [e6] at h6
  obtain ⟨hC, hc, hs⟩ := C_of_rsl h6
  have hcs : (Value.agg cs).cells = cs := rfl
  rw [hcs] at e0 e1 e2 e3 e4 e5 e6 e7
  have f0 : cs.toList[0]? = _ := at_field e0
  have f1 : cs.toList[1]? = _ := at_field e1
  have f2 : cs.toList[2]? = _ := at_field e2
  have f3 : cs.toList[3]? = _ := at_field e3
  have f4 : cs.toList[4]? = _ := at_field e4
  have f5 : cs.toList[5]? = _ := at_field e5
  have f6 : cs.toList[6]? = _ := at_field e6
  have f7 : cs.toList[7]? = _ := at_field e7
  have h8 : cs.size = 8 := hsz.trans (by kernel_rfl)
  refine ⟨v0, v1, v2, v3, v4, v5, A, c, l, p, ?_, hC, hc, hs⟩
  obtain ⟨L⟩ := cs
  match L, h8 with
  | [c0, c1, c2, c3, c4, c5, c6, c7], _ =>
    simp only [List.getElem?_cons_zero, List.getElem?_cons_succ, Option.some.injEq] at f0 f1 f2 f3 f4 f5 f6 f7
    subst f0 f1 f2 f3 f4 f5 f6 f7
    rfl
theorem trod_ifaceCell {H : Type} {enc : TypeId × Value → H} {P : Program} {w : World} {base : Nat} {sp : Nat → Bool} {held : Bool} {fuel : Nat} {t : TypeId} {ms : Array (String × TypeId)} {cs : List Value} {y : DataW H × List MemPlace}
    (ht : P.underlying t = some (.interface ms)) (h : DataW.trod enc P w base sp held fuel t cs = some y) : ∃ ev, cs = [ev] ∧ (ev = .nilIface ∨ ∃ te pe, ev = .iface te pe) := by
  cases fuel with
  | zero => simp [DataW.trod] at h
  | succ fuel =>
    simp only [DataW.trod, ht] at h
    split at h <;> first | (cases h; done) | skip
    all_goals first | exact ⟨_, rfl, .inl rfl⟩ | exact ⟨_, rfl, .inr ⟨_, _, rfl⟩⟩ | (simp_all; done)
theorem err_of {W : World} {n : String} {d : DataW Unit} {r : List (String × DataW Unit)} {g : Nat} {ms : Array (String × TypeId)} (h : laidMet Tryz.prog ((n, d) :: r) W) (hg : Tryz.prog.globalNamed n = some g) (ht : (Tryz.prog.globals[g]?).map (·.type) = some 27) (hu : Tryz.prog.underlying 27 = some (.interface ms)) :
    ∃ ev, W.cell? ⟨g, 0, none⟩ = some ev ∧ (ev = .nilIface ∨ ∃ te pe, ev = .iface te pe) := by
  obtain ⟨ps, ⟨g', t', cs, fuel, p, q, hg', ht', hvar, hd, _, _⟩, _⟩ := h
  obtain rfl := Option.some.inj (hg.symm.trans hg')
  obtain rfl := Option.some.inj (ht.symm.trans ht')
  obtain ⟨ev, e, hev⟩ := trod_ifaceCell hu hd
  refine ⟨ev, ?_, hev⟩
  have := World.var?_cell hg hvar 0
  rw [this, ← Array.getElem?_toList, e]
  rfl
theorem lw_of {W : World} (h : laidMet Tryz.prog Rows.wireSpoiltRow.laid W) : Lw W := by
  have h0 := h.tail.tail
  have ht : Tab W := Lib.tabIs_of_head (g := 1) gtab (by kernel_rfl) Tryz.underlying189 Tryz.underlying102 (by kernel_rfl) (by kernel_rfl) h0
  have h1 := h0.tail.tail
  have eR := err_of h1 (g := 4) (by kernel_rfl) (by kernel_rfl) Tryz.underlying27
  have eS := err_of h1.tail (g := 3) (by kernel_rfl) (by kernel_rfl) Tryz.underlying27
  refine ⟨⟨eS, eR⟩, ht, ?_⟩
  have hc := Lib.TabIs.cell ht gtab 0 (by decide)
  exact World.block_lt_of_cell? _ _ hc
theorem lw_plain {W : World} (h : laidMetH Tryz.prog Rows.wireSpoiltRow.laid W) : Lw W := by
  rw [MakeChecks.laidMetH_plain _ _ _ (by kernel_rfl)] at h
  exact lw_of h
theorem lw_handle {W : World} {l : List (String × DataW Unit)} (hl : (l.filter fun x => x.2.handleName?.isNone) = Rows.wireSpoiltRow.laid) (h : laidMetH Tryz.prog l W) : Lw W := by
  refine lw_of ?_
  rw [← hl]
  unfold laidMetH at h
  generalize hfl : (l.filter fun x => x.2.handleName?.isSome) = fl at h
  cases fl with
  | nil =>
    rw [List.filter_eq_self.2 fun x hx => ?_]
    · exact h
    · have := List.filter_eq_nil_iff.1 hfl x hx
      simpa using this
  | cons a r => exact h.1
end Go.Proofs.YtbefkoljcacpcaaGreatDoor.Wi
set_option linter.unusedVariables false
set_option linter.unusedSimpArgs false
namespace Go.Proofs.YtbefkoljcacpcaaGreatDoor.Wi
open Go Go.RowKit Go.Proofs.YtbefkoljcacpcaaGreatDoor.B Go.Proofs.YtbefkoljcacpcaaGreatDoor.Tm
theorem reads17_any (s : ByteArray) (w : World) (hL : Lw w) (hE : Err.ErrT w) :
    Calls Tryz.prog 5 #[.string s] w fun e w' => e = .returned (.bool true) ∧ Below w.heap.size w w' :=
  reads17_walk (fun s w h => Ref.RSum_any s h w) s w hL hE
end Go.Proofs.YtbefkoljcacpcaaGreatDoor.Wi
namespace Go.Proofs.YtbefkoljcacpcaaGreatDoor.CardW
open Go
variable {H : Type} {enc : TypeId × Value → H}
theorem returns_laid_shaped {a : Assume} {C : Checked} {os : Os} {f : FuncId} {fn : Func} {s : ChangeSpec} {conds : List PathCond} {apart fresh handsOn again : Bool} {X : World → Array Value → Prop}
    (hX : ∀ (w w' : World) (args : Array Value), w.heap = w'.heap → X w args → X w' args)
    (own : ownKnob C.prog.godebug = none) (started : os.Started) (noInit : C.prog.inits.idxOf? f = none) (hfn : C.prog.funcs[f]? = some fn)
    (witness : ∃ (w : World) (tape : Tape) (i : Input), w.os = os ∧ (w.forCall tape i).Shaped C.prog ∧ i.vars = [] ∧ Input.okWide C.prog (w.forCall tape i) .any w.heap.size f i ∧
      ((s.pre enc C.prog fn conds apart (w.forCall tape i).memory i.args ∧ X (w.forCall tape i).memory i.args) ∧ sizedMet enc C.prog fn (OpenSpec.ofChange s) apart (w.forCall tape i).memory i.args) ∧ a.holds C.prog (lone (Frame.enter C.prog f i.args .normal) [] (w.forCall tape i)))
    (contract : ∀ (W : World) (base : Nat) (args : Array Value) (ds gs : List (DataW H)) (before : List MemPlace),
      (∀ (j : Nat) t v, fn.params[j]? = some t → args[j]? = some v → Value.okWide C.prog W .any base t v) →
      DataW.Whole enc C.prog fn.params.toList s.vars apart W args.toList ds gs before →
      conds.all (PathCond.test C.prog ⟨fn.params.toList, ds, s.plain.varTypes C.prog, gs⟩) = true →
      (DataW.weightsEach C.prog (fn.params.toList ++ s.plain.varTypes C.prog) (ds ++ gs)).all (· ≤ reachBytes) = true → X W args → W.ShapedOpen C.prog →
      a.holds C.prog (lone (Frame.enter C.prog f args .normal) [] W) →
      Calls C.prog f args W fun e W' => ∃ v, e = .returned v ∧ s.post enc C.prog fn apart fresh handsOn again W args v W') :
    ReturnsInHanded a C os f .any (fun w args => (s.pre enc C.prog fn conds apart w args ∧ X w args) ∧ sizedMet enc C.prog fn (OpenSpec.ofChange s) apart w args) (s.post enc C.prog fn apart fresh handsOn again) := by
  refine returnsInHanded_of_calls own started noInit witness ?_
  intro w tape i h1 hshape h3 hok hpre hholds
  obtain ⟨k1, k2, k3, g, hg, k4, k5, k6, k7, hval⟩ := hok
  obtain rfl : g = fn := Option.some.inj (hg.symm.trans hfn)
  obtain ⟨⟨⟨ds, gs, before, hw, hc⟩, hx⟩, hz⟩ := hpre
  have goal := contract (w.forCall tape i) w.heap.size i.args ds gs before hval (DataW.Whole.of_heap (w' := w.forCall tape i) (by rfl) hw) hc (hz.weights hw) (hX _ _ _ (by rfl) hx) hshape hholds
  refine goal.mono ?_
  rintro e W' ⟨v, rfl, hp⟩
  exact ChangeSpec.post_blind hp
end Go.Proofs.YtbefkoljcacpcaaGreatDoor.CardW
namespace Go.Proofs.YtbefkoljcacpcaaGreatDoor.CardW
open Go
noncomputable def held (P : Program) (os : Os) (g : Nat) (v : Value) : World :=
  let w0 := World.holding P os ⟨#[], #[], []⟩
  { w0 with heap := w0.heap.modify g fun
      | .cells _ t fr => .cells #[v] t fr
      | o => o }
noncomputable def laidH (P : Program) (os : Os) (g : Nat) (v : Value) (laid : List (String × DataW Unit)) : World := (held P os g v).layVars P laid
theorem laidH_os (P : Program) (os : Os) (g : Nat) (v : Value) (laid : List (String × DataW Unit)) : (laidH P os g v laid).os = os := World.layVars_os _ _ _
theorem laidMet_laidH {P : Program} {w0 : World} {laid : List (String × DataW Unit)} (args : Array Value)
    (hf : w0.layFits P laid [] = true) (hi : w0.layIfaces P laid (w0.layVars P laid) = true) :
    laidMet P laid ((w0.layVars P laid).forCall (fun _ _ => 0) ⟨#[], args, []⟩).memory := by
  have e1 : (laid.filter fun x => (laid.map (·.1)).contains x.1) = laid := List.filter_eq_self.2 fun x hx => List.contains_iff_mem.2 (List.mem_map.2 ⟨x, hx, rfl⟩)
  have e2 : (laid.filter fun x => !(laid.map (·.1)).contains x.1) = [] := List.filter_eq_nil_iff.2 fun x hx => by rw [List.contains_iff_mem.2 (List.mem_map.2 ⟨x, hx, rfl⟩)]; simp
  have h : laidMet P laid (w0.layVars P laid) := laidMet_layVars (w0 := w0) (laid.map (·.1)) [] (by rw [e1]) (by rw [e1]; exact hf) (by rw [e1]; exact hi) (by rw [e2]; exact LaidIn.none)
  exact h.of_heap (by simp [World.memory, World.forCall, Input.heap])
theorem et : Tryz.prog.globalNamed "errors.errorType" = some 0 := by kernel_rfl
theorem rt : (Tryz.prog.cutTypes.find? (·.1 == "internal/reflectlite.rtype")).map (·.2) = some 118 := by kernel_rfl
theorem oneRow : ((List.range (341 - 100)).filter fun t => Tryz.prog.rowNamed t [101, 114, 114, 111, 114]) = [27] := by kernel_rfl
theorem size : Tryz.prog.types.size = 341 - 100 := by kernel_rfl
theorem errT {W : World} {laid : List (String × DataW Unit)} (hm : ("errors.errorType", .iface "internal/reflectlite.rtype" (.agg [.ptr (.lit (.string [101, 114, 114, 111, 114]))])) ∈ laid) (h : laidMetH Tryz.prog laid W) : Err.ErrT W := by
  have hx : handlesMet Tryz.prog (laid.filter fun x => x.2.handleName?.isSome) W := by
    have hin : ("errors.errorType", .iface "internal/reflectlite.rtype" (.agg [.ptr (.lit (.string [101, 114, 114, 111, 114]))])) ∈ laid.filter fun x => x.2.handleName?.isSome := List.mem_filter.2 ⟨hm, rfl⟩
    unfold laidMetH at h
    generalize (laid.filter fun x => x.2.handleName?.isSome) = fl at h hin
    cases fl with
    | nil => cases hin
    | cons a r => exact h.2
  obtain ⟨name, u, ty, e1, e2, e3, e4, e5⟩ := hx _ (List.mem_filter.2 ⟨hm, rfl⟩)
  have en : name = [101, 114, 114, 111, 114] := (Option.some.inj e1).symm
  subst en
  obtain rfl := Option.some.inj (rt.symm.trans e2)
  have hm : ty ∈ (List.range (341 - 100)).filter fun t => Tryz.prog.rowNamed t [101, 114, 114, 111, 114] := List.mem_filter.2 ⟨List.mem_range.2 (by rw [← size]; exact e3), e4⟩
  rw [oneRow] at hm
  obtain rfl := List.mem_singleton.1 hm
  have hh : typeHandle Tryz.prog 27 = .pointer (some ⟨9, 27, none⟩) := by kernel_rfl
  rw [hh] at e5
  unfold Err.ErrT
  simpa using World.var?_cell et e5 0
end Go.Proofs.YtbefkoljcacpcaaGreatDoor.CardW
set_option linter.unusedVariables false
set_option linter.unusedSimpArgs false
namespace Go.Proofs.YtbefkoljcacpcaaGreatDoor.Wi
open Go Go.RowKit Go.Proofs.YtbefkoljcacpcaaGreatDoorW.PrintWords Go.Proofs.YtbefkoljcacpcaaGreatDoor.B Go.Proofs.YtbefkoljcacpcaaGreatDoor.Tm
open Go.Proofs.YtbefkoljcacpcaaGreatDoor.Err (ErrT Code_nil Code_errno)
set_option maxRecDepth 100000 in
set_option maxHeartbeats 8000000 in
theorem writes17_walk (hRS : RSumSaid) (v0 v1 v2 v3 v4 v5 : Int) (A : Option Addr) (c : Nat) (l : List ByteArray) (p : ByteArray) (w : World) (hL : Lw w) (hE : ErrT w) (hC : Kd.C Kd.string w A l.length l) (hc : l.length ≤ c) (hs : ∀ x ∈ l, x.size ≤ 140737488351232) :
    Calls Tryz.prog 4 #[.agg (letCells v0 v1 v2 v3 v4 v5 A l.length c p)] w fun ev w' => ev = .returned (.bool true) ∧ Below w.heap.size w w' := by
  obtain ⟨g, hg⟩ : ∃ g, g = w.heap.size := ⟨_, rfl⟩
  obtain ⟨w1, hw1⟩ : ∃ w1, w1 = w.alloc (.cells (letCells v0 v1 v2 v3 v4 v5 A l.length c p) 24) := ⟨_, rfl⟩
  have hS1 := Lib.hid (show St w w1 g (letCells v0 v1 v2 v3 v4 v5 A l.length c p) by rw [hw1, hg]; exact St.new _ _ _ (Below.refl _ _))
  have C0 := Lib.hid (fun W h => awake17_c W h)
  have hLH := Lib.hid hL
  have hEH := Lib.hid hE
  have hCH := Lib.hid hC
  have hcH := Lib.hid hc
  have hsH := Lib.hid hs
  clear hL hE hC hc hs
  have CW := fun W (h : Below w.heap.size w W) (hn : l.length ≤ 300) => Lib.hid (wwrite_c v0 v1 v2 v3 v4 v5 A c l p W (Kd.C_below hCH.out h) hcH.out (by omega) hsH.out (hLH.out.below h).2.1 (hLH.out.below h).2.2)
  have CT := fun W (h : Below w.heap.size w W) (hn : l.length ≤ 300) => Lib.hid (rwwrite_c hRS v0 v1 v2 v3 v4 v5 A c l p W (Kd.C_below hCH.out h) hcH.out (by omega) hsH.out)
  have CG := fun W (h : Below w.heap.size w W) (hn : l.length ≤ 300) => Lib.hid (right_c v0 v1 v2 v3 v4 v5 A c l p W (Kd.C_below hCH.out h) hcH.out (by omega) hsH.out)
  have CS := fun (B : Option Addr) (d : Nat) W (h : Below w.heap.size w W) (hB : Kd.C Kd.string W B l.length l) (hd : l.length ≤ d) => Lib.hid (same17_c v0 v1 v2 v3 v4 v5 A c l p v0 v1 v2 v3 v4 v5 B d l p W (Kd.C_below hCH.out h) hcH.out hB hd)
  simp only [and_self, decide_true] at CS
  have CR := fun (hr : wright [v0, v1, v2, v3, v4, v5] l p = true) W (h : Below w.heap.size w W) => Lib.hid ((wread_c ⟨(lbytes [v0, v1, v2, v3, v4, v5] l p).toArray⟩ W (lbytes_size rfl hr) (hLH.out.below h).1 (hLH.out.below h).2.1 (hLH.out.below h).2.2).mono fun ev w' h => wread_back hr (by simp) h)
  have CC := fun W (h : Below w.heap.size w W) => Lib.hid (Code_errno 1 W (hEH.out.below h))
  unfold WrPost at CW
  unfold RWrPost at CT
  obtain ⟨n, hN⟩ : ∃ n, n = l.length := ⟨_, rfl⟩
  unfold letCells at hw1 hS1 CW CT CG CS CR ⊢
  rw [← hN] at hw1 hS1 CW CT CG CS CR ⊢
  replace hN := Lib.hid hN
  go_enter Tryz.func4, Tryz.ntmps4
  go_upto_region 1 with fail
  rw [← hw1, ← hg]
  replace hw1 := Lib.hid hw1
  replace hg := Lib.hid hg
  go_wp2_with fail
  refine (C0.out w1 (hLH.out.below hS1.out.1)).mono ?_
  rintro ev w2 ⟨rfl, hb⟩
  have hS2 := Lib.hid (hS1.out.step hb)
  clear hb
  obtain ⟨f0, f1, f2, f3, f4, f5, f6, f7, _, _⟩ := let_facts hS2.out.2
  by_cases h3 : (300 : Int) < (n : Int)
  · go_wp2_with fail
    go_ret
    exact ⟨rfl, hS2.out.1⟩
  by_cases h4 : (20000 : Int) < (p.size : Int)
  · go_wp2_with fail
    go_ret
    exact ⟨rfl, hS2.out.1⟩
  have hn : n ≤ 300 := by omega
  replace CW := Lib.hid (fun W h => (CW W h hn).out)
  replace CT := Lib.hid (fun W h => (CT W h hn).out)
  replace CG := Lib.hid (fun W h => (CG W h hn).out)
  replace CS := Lib.hid (fun B d W h hB hd => (CS B d W h hB hd).out)
  replace CC := Lib.hid (fun W h => (CC W h).out)
  go_upto_region 5 with fail
  cases hr : wright [v0, v1, v2, v3, v4, v5] l p with
  | false =>
    clear CR
    replace CW := Lib.hid (show ∀ W, Below w.heap.size w W → _ from fun W h => by have := CW.out W h; rw [hr] at this; simp only [Bool.false_eq_true, if_false, errno] at this; exact this)
    replace CT := Lib.hid (show ∀ W, Below w.heap.size w W → _ from fun W h => by have := CT.out W h; rw [hr] at this; simp only [Bool.false_eq_true, if_false] at this; exact this)
    replace CG := Lib.hid (show ∀ W, Below w.heap.size w W → _ from fun W h => by have := CG.out W h; rw [hr] at this; exact this)
    clear hr
    go_wp2_with fail
    refine (CW.out w2 hS2.out.1).mono ?_
    rintro ev w3 ⟨rfl, hb⟩
    have hS3 := Lib.hid (hS2.out.step hb)
    clear hb f0 f1 f2 f3 f4 f5 f6 f7
    obtain ⟨f0, f1, f2, f3, f4, f5, f6, f7, _, _⟩ := let_facts hS3.out.2
    go_wp2_with fail
    refine (CT.out w3 hS3.out.1).mono ?_
    rintro ev w4 ⟨rfl, hb⟩
    have hS4 := Lib.hid (hS3.out.step hb)
    clear hb f0 f1 f2 f3 f4 f5 f6 f7
    obtain ⟨f0, f1, f2, f3, f4, f5, f6, f7, _, _⟩ := let_facts hS4.out.2
    go_wp2_with fail
    refine (CC.out w4 hS4.out.1).mono ?_
    rintro ev w5 ⟨rfl, hb⟩
    have hS5 := Lib.hid (hS4.out.step hb)
    clear hb f0 f1 f2 f3 f4 f5 f6 f7
    obtain ⟨f0, f1, f2, f3, f4, f5, f6, f7, _, _⟩ := let_facts hS5.out.2
    go_wp2_with fail
    refine (CG.out w5 hS5.out.1).mono ?_
    rintro ev w6 ⟨rfl, hb⟩
    have hS6 := Lib.hid (hS5.out.step hb)
    clear hb
    go_wp2_with fail
    go_ret
    exact ⟨rfl, hS6.out.1⟩
  | true =>
    replace CR := Lib.hid (fun W h => (CR hr W h).out)
    obtain ⟨s, hs⟩ : ∃ s : ByteArray, s = ⟨(lbytes [v0, v1, v2, v3, v4, v5] l p).toArray⟩ := ⟨_, rfl⟩
    replace CW := Lib.hid (show ∀ W, Below w.heap.size w W → _ from fun W h => by have := CW.out W h; rw [hr] at this; simp only [if_true, ← hs] at this; exact this)
    replace CT := Lib.hid (show ∀ W, Below w.heap.size w W → _ from fun W h => by have := CT.out W h; rw [hr] at this; simp only [if_true, ← hs] at this; exact this)
    replace CG := Lib.hid (show ∀ W, Below w.heap.size w W → _ from fun W h => by have := CG.out W h; rw [hr] at this; exact this)
    rw [← hs] at CR
    replace hs := Lib.hid hs
    clear hr
    go_wp2_with fail
    refine (CW.out w2 hS2.out.1).mono ?_
    rintro ev w3 ⟨rfl, hb⟩
    have hS3 := Lib.hid (hS2.out.step hb)
    clear hb f0 f1 f2 f3 f4 f5 f6 f7
    obtain ⟨f0, f1, f2, f3, f4, f5, f6, f7, _, _⟩ := let_facts hS3.out.2
    go_wp2_with fail
    refine (CT.out w3 hS3.out.1).mono ?_
    rintro ev w4 ⟨rfl, hb⟩
    have hS4 := Lib.hid (hS3.out.step hb)
    clear hb f0 f1 f2 f3 f4 f5 f6 f7
    obtain ⟨f0, f1, f2, f3, f4, f5, f6, f7, _, _⟩ := let_facts hS4.out.2
    go_wp2_with fail
    refine (Code_nil w4).mono ?_
    rintro ev w5 ⟨rfl, rfl⟩
    go_wp2_with fail
    refine (CG.out w5 hS4.out.1).mono ?_
    rintro ev w6 ⟨rfl, hb⟩
    have hS6 := Lib.hid (hS4.out.step hb)
    clear hb f0 f1 f2 f3 f4 f5 f6 f7
    obtain ⟨f0, f1, f2, f3, f4, f5, f6, f7, _, _⟩ := let_facts hS6.out.2
    go_upto_region 9 with fail
    go_upto_region 11 with fail
    go_wp2_with fail
    refine (CR.out w6 hS6.out.1).mono ?_
    rintro ev w7 ⟨hb, B, d, rfl, hB, hd⟩
    have hS7 := Lib.hid (hS6.out.step hb)
    clear hb f0 f1 f2 f3 f4 f5 f6 f7
    have hB' := Lib.hid hB
    obtain ⟨k, hk⟩ : ∃ k, k = w7.heap.size := ⟨_, rfl⟩
    obtain ⟨w8, hw8⟩ : ∃ w8, w8 = w7.alloc (.cells (letCells v0 v1 v2 v3 v4 v5 B n d p) 24) := ⟨_, rfl⟩
    have hb78 : Below w7.heap.size w7 w8 := by rw [hw8]; exact below_alloc _ _
    have hM8 := Lib.hid (show St w w8 k (letCells v0 v1 v2 v3 v4 v5 B n d p) by rw [hw8, hk]; exact St.new _ _ _ hS7.out.1)
    have hS8 := Lib.hid (hS7.out.step hb78)
    have hB8 := Lib.hid (Kd.C_below hB hb78)
    have hdH := Lib.hid hd
    clear hB hd hb78
    unfold letCells at hw8 hM8
    obtain ⟨f0, f1, f2, f3, f4, f5, f6, f7, _, _⟩ := let_facts hS8.out.2
    obtain ⟨m0, m1, m2, m3, m4, m5, m6, m7, _, _⟩ := let_facts hM8.out.2
    go_upto_region 12 with fail
    rw [← hw8, ← hk]
    replace hw8 := Lib.hid hw8
    replace hk := Lib.hid hk
    go_wp2_with fail
    refine (CS.out B d w8 hS8.out.1 hB8.out hdH.out).mono ?_
    rintro ev w9 ⟨rfl, hb⟩
    have hS9 := Lib.hid (hS8.out.step hb)
    clear hb
    go_wp2_with fail
    go_ret
    exact ⟨rfl, hS9.out.1⟩
end Go.Proofs.YtbefkoljcacpcaaGreatDoor.Wi
set_option linter.unusedVariables false
set_option linter.unusedSimpArgs false
namespace Go.Proofs.YtbefkoljcacpcaaGreatDoor.Wi
open Go Go.RowKit Go.WideShapes Go.ChangeShapes Go.Proofs.YtbefkoljcacpcaaGreatDoor.B Go.Proofs.YtbefkoljcacpcaaGreatDoor.Tm
set_option maxRecDepth 100000 in
theorem writes17_any {H : Type} {enc : TypeId × Value → H} (v : Value) {d : DataW H} {ps : List MemPlace} (w : World) {base : Nat} (hL : Lw w) (hE : Err.ErrT w)
    (hv : Value.okWide Tryz.prog w .any base 24 v) (h : DataW.Trod enc Tryz.prog w 0 (fun _ => true) true 24 v d ps) (hw : ∀ n ∈ d.weights Tryz.prog 24, n ≤ reachBytes) :
    Calls Tryz.prog 4 #[v] w fun e w' => e = .returned (.bool true) ∧ Below w.heap.size w w' := by
  obtain ⟨v0, v1, v2, v3, v4, v5, A, c, l, p, rfl, hC, hc, hs⟩ := letter_open v w hv h hw
  exact writes17_walk (fun s w h => Ref.RSum_any s h w) v0 v1 v2 v3 v4 v5 A c l p w hL hE hC hc hs
end Go.Proofs.YtbefkoljcacpcaaGreatDoor.Wi
