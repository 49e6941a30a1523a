/- For the walk of the reference's Sum: the loop of the schedule. -/
import Derived.Test.YtpecclcihefbaaaDoorRefR
set_option linter.unusedVariables false
set_option linter.unusedSimpArgs false
namespace Go.Proofs.YtpecclcihefbaaaDoor.Ref
open Go.RowKit Go.Proofs.YtpecclcihefbaaaDoor.B Go.Proofs.YtpecclcihefbaaaDoor.Sha Go.Proofs.YtpecclcihefbaaaDoorW.PrintLast

noncomputable def schedLoop : Code := ((Tryd.f19.body.map loops).getD []).getD 3 .skip
set_option maxRecDepth 1000000 in
set_option maxHeartbeats 2000000 in
theorem sched_loop (gb cb N i : Nat) (blk : List UInt8) (full : List (BitVec 32)) (W5 W0 : World) (hF0 : full = sched (words blk) 48) (hfl0 : full.length = 64) (hi64 : 64 * i + 64 ≤ N) (hNl : N < 100200)
    (hbb0 : ∀ j, j < 64 → W5.cell? ⟨gb, 64 * i + j, none⟩ = some (.int .u8 ((blk.getD j 0).toNat : Int))) (hst0 : Mk W5 W0 (sofar full 0))
    (u0 u1 u2 u3 u4 u6 u7 u11 u12 u13 u14 u15 u16 u17 u18 u19 u20 u21 u22 u23 u24 u25 u26 u27 u28 u29 u30 u31 u32 u33 u34 u35 u36 u37 u38 u39 u40 u41 u42 u43 u44 u45 u46 u47 u48 u49 u50 u51 u52 u53 u54 u55 u56 u57 u58 u59 u60 u61 u62 u63 u64 u65 u66 u67 u68 u69 u70 u71 u72 u73 u74 u75 u76 u77 u78 u79 u80 u81 u82 u83 u84 u85 u86 u87 u88 u89 u90 u91 u92 u93 u94 u95 u96 u97 u98 u99 u100 u101 u102 u103 u104 u105 u106 u107 u108 u109 u110 u111 u112 u113 u114 u115 u116 u117 u118 u119 u120 u121 u122 u123 u124 u125 u126 u127 u128 u129 u130 u131 u132 u133 u134 u135 u136 u137 u138 u139 u140 u141 u142 u143 u144 u145 u146 u147 u148 u149 u150 u151 u152 u153 u154 u155 u156 u157 u158 u159 u160 u161 u162 u163 u164 u165 u166 u167 u168 u169 u170 u171 u172 u173 u174 u175 u176 u177 u178 u179 u180 u181 u182 u183 u184 u185 u186 u187 u188 u189 u190 u191 u192 u193 u194 u195 u196 u197 u198 u199 u200 u201 u202 u203 u204 u205 u206 u207 u208 u209 u210 u211 u212 u213 u214 u215 u216 u217 u218 u219 u220 u221 u222 u223 u224 u225 u226 u227 u228 u229 u230 u231 u232 u233 u234 u235 u236 u237 u238 u239 u240 u241 u242 u243 u244 u245 u246 u247 u248 u249 u250 u251 u252 u253 u254 u255 u256 u257 u258 u259 u260 u261 u262 u263 u264 u265 u266 u267 u268 u269 u270 u271 u272 u273 u274 u275 u276 u277 u278 u279 u280 u281 u282 u283 u284 u285 u286 u287 u288 u289 u290 u291 u292 : Value) (Q0 : Exit → Act → World → Prop)
    (hexit : ∀ (c11 c12 c13 c58 c59 c60 c61 c62 c63 c64 c65 c66 c67 c68 c69 c70 c71 c72 c73 c74 c75 c76 c77 c78 c79 c80 c81 c82 c83 c84 c85 c86 c87 c88 c89 c90 c91 c92 c93 c94 c95 c96 c97 c98 c99 c100 c101 c102 c103 c104 c105 c106 c107 c108 c109 c110 c111 c112 c113 c114 c115 c116 c117 c118 c119 c120 c121 c122 c123 c124 c125 c126 c127 c128 c129 c130 c131 c132 c133 c134 c135 c136 c137 c138 c139 c140 c141 : Value) (W : World), Mk W5 W full → Q0 (.exit 6) ⟨List.toArray (u0 :: u1 :: u2 :: u3 :: u4 :: .slice (some ⟨gb, 0, none⟩) N cb :: u6 :: u7 :: .int .i64 (64 * (i : Int)) :: .slice (some ⟨W5.heap.size, 0, none⟩) 64 64 :: .int .i64 ((64 : Nat) : Int) :: c11 :: c12 :: c13 :: u14 :: u15 :: u16 :: u17 :: u18 :: u19 :: u20 :: u21 :: u22 :: u23 :: u24 :: u25 :: u26 :: u27 :: u28 :: u29 :: u30 :: u31 :: u32 :: u33 :: u34 :: u35 :: u36 :: u37 :: u38 :: u39 :: u40 :: u41 :: u42 :: u43 :: u44 :: u45 :: u46 :: u47 :: u48 :: u49 :: u50 :: u51 :: u52 :: u53 :: u54 :: u55 :: u56 :: u57 :: c58 :: c59 :: c60 :: c61 :: c62 :: c63 :: c64 :: c65 :: c66 :: c67 :: c68 :: c69 :: c70 :: c71 :: c72 :: c73 :: c74 :: c75 :: c76 :: c77 :: c78 :: c79 :: c80 :: c81 :: c82 :: c83 :: c84 :: c85 :: c86 :: c87 :: c88 :: c89 :: c90 :: c91 :: c92 :: c93 :: c94 :: c95 :: c96 :: c97 :: c98 :: c99 :: c100 :: c101 :: c102 :: c103 :: c104 :: c105 :: c106 :: c107 :: c108 :: c109 :: c110 :: c111 :: c112 :: c113 :: c114 :: c115 :: c116 :: c117 :: c118 :: c119 :: c120 :: c121 :: c122 :: c123 :: c124 :: c125 :: c126 :: c127 :: c128 :: c129 :: c130 :: c131 :: c132 :: c133 :: c134 :: c135 :: c136 :: c137 :: c138 :: c139 :: c140 :: c141 :: u142 :: u143 :: u144 :: u145 :: u146 :: u147 :: u148 :: u149 :: u150 :: u151 :: u152 :: u153 :: u154 :: u155 :: u156 :: u157 :: u158 :: u159 :: u160 :: u161 :: u162 :: u163 :: u164 :: u165 :: u166 :: u167 :: u168 :: u169 :: u170 :: u171 :: u172 :: u173 :: u174 :: u175 :: u176 :: u177 :: u178 :: u179 :: u180 :: u181 :: u182 :: u183 :: u184 :: u185 :: u186 :: u187 :: u188 :: u189 :: u190 :: u191 :: u192 :: u193 :: u194 :: u195 :: u196 :: u197 :: u198 :: u199 :: u200 :: u201 :: u202 :: u203 :: u204 :: u205 :: u206 :: u207 :: u208 :: u209 :: u210 :: u211 :: u212 :: u213 :: u214 :: u215 :: u216 :: u217 :: u218 :: u219 :: u220 :: u221 :: u222 :: u223 :: u224 :: u225 :: u226 :: u227 :: u228 :: u229 :: u230 :: u231 :: u232 :: u233 :: u234 :: u235 :: u236 :: u237 :: u238 :: u239 :: u240 :: u241 :: u242 :: u243 :: u244 :: u245 :: u246 :: u247 :: u248 :: u249 :: u250 :: u251 :: u252 :: u253 :: u254 :: u255 :: u256 :: u257 :: u258 :: u259 :: u260 :: u261 :: u262 :: u263 :: u264 :: u265 :: u266 :: u267 :: u268 :: u269 :: u270 :: u271 :: u272 :: u273 :: u274 :: u275 :: u276 :: u277 :: u278 :: u279 :: u280 :: u281 :: u282 :: u283 :: u284 :: u285 :: u286 :: u287 :: u288 :: u289 :: u290 :: u291 :: u292 :: []), []⟩ W) :
    Code.wp Tryd.prog schedLoop Q0 ⟨List.toArray (u0 :: u1 :: u2 :: u3 :: u4 :: .slice (some ⟨gb, 0, none⟩) N cb :: u6 :: u7 :: .int .i64 (64 * (i : Int)) :: .slice (some ⟨W5.heap.size, 0, none⟩) 64 64 :: .int .i64 0 :: u11 :: u12 :: u13 :: u14 :: u15 :: u16 :: u17 :: u18 :: u19 :: u20 :: u21 :: u22 :: u23 :: u24 :: u25 :: u26 :: u27 :: u28 :: u29 :: u30 :: u31 :: u32 :: u33 :: u34 :: u35 :: u36 :: u37 :: u38 :: u39 :: u40 :: u41 :: u42 :: u43 :: u44 :: u45 :: u46 :: u47 :: u48 :: u49 :: u50 :: u51 :: u52 :: u53 :: u54 :: u55 :: u56 :: u57 :: u58 :: u59 :: u60 :: u61 :: u62 :: u63 :: u64 :: u65 :: u66 :: u67 :: u68 :: u69 :: u70 :: u71 :: u72 :: u73 :: u74 :: u75 :: u76 :: u77 :: u78 :: u79 :: u80 :: u81 :: u82 :: u83 :: u84 :: u85 :: u86 :: u87 :: u88 :: u89 :: u90 :: u91 :: u92 :: u93 :: u94 :: u95 :: u96 :: u97 :: u98 :: u99 :: u100 :: u101 :: u102 :: u103 :: u104 :: u105 :: u106 :: u107 :: u108 :: u109 :: u110 :: u111 :: u112 :: u113 :: u114 :: u115 :: u116 :: u117 :: u118 :: u119 :: u120 :: u121 :: u122 :: u123 :: u124 :: u125 :: u126 :: u127 :: u128 :: u129 :: u130 :: u131 :: u132 :: u133 :: u134 :: u135 :: u136 :: u137 :: u138 :: u139 :: u140 :: u141 :: u142 :: u143 :: u144 :: u145 :: u146 :: u147 :: u148 :: u149 :: u150 :: u151 :: u152 :: u153 :: u154 :: u155 :: u156 :: u157 :: u158 :: u159 :: u160 :: u161 :: u162 :: u163 :: u164 :: u165 :: u166 :: u167 :: u168 :: u169 :: u170 :: u171 :: u172 :: u173 :: u174 :: u175 :: u176 :: u177 :: u178 :: u179 :: u180 :: u181 :: u182 :: u183 :: u184 :: u185 :: u186 :: u187 :: u188 :: u189 :: u190 :: u191 :: u192 :: u193 :: u194 :: u195 :: u196 :: u197 :: u198 :: u199 :: u200 :: u201 :: u202 :: u203 :: u204 :: u205 :: u206 :: u207 :: u208 :: u209 :: u210 :: u211 :: u212 :: u213 :: u214 :: u215 :: u216 :: u217 :: u218 :: u219 :: u220 :: u221 :: u222 :: u223 :: u224 :: u225 :: u226 :: u227 :: u228 :: u229 :: u230 :: u231 :: u232 :: u233 :: u234 :: u235 :: u236 :: u237 :: u238 :: u239 :: u240 :: u241 :: u242 :: u243 :: u244 :: u245 :: u246 :: u247 :: u248 :: u249 :: u250 :: u251 :: u252 :: u253 :: u254 :: u255 :: u256 :: u257 :: u258 :: u259 :: u260 :: u261 :: u262 :: u263 :: u264 :: u265 :: u266 :: u267 :: u268 :: u269 :: u270 :: u271 :: u272 :: u273 :: u274 :: u275 :: u276 :: u277 :: u278 :: u279 :: u280 :: u281 :: u282 :: u283 :: u284 :: u285 :: u286 :: u287 :: u288 :: u289 :: u290 :: u291 :: u292 :: []), []⟩ W0 := by
  unfold schedLoop
  conv => arg 2; whnf
  have hF := Lib.hid hF0
  have hfl := Lib.hid hfl0
  have hbb := Lib.hid hbb0
  have hst := Lib.hid hst0
  have hexH := Lib.hid hexit
  have hili : 64 * (i : Int) < (N : Int) := by omega
  clear hF0 hfl0 hbb0 hst0 hexit
  go_loopg [10] 64 (fun g i' W => ∃ t : Nat, g = 64 - t ∧ t ≤ 64 ∧ i' = .int .i64 t ∧ Mk W5 W (sofar full t))
  case atStart => exact ⟨0, rfl, by omega, rfl, hst.out⟩
  case round =>
    clear hst
    obtain ⟨t, hg, ht, rfl, hm⟩ := hrel
    subst hg
    by_cases htl : t < 64
    · have hsl' := sofar_length full t hfl.out (by omega)
      by_cases h16 : t < 16
      · have hi16 : (t : Int) < 16 := by omega
        have hi64 : (t : Int) < 64 := by omega
        have hb0 := mk_cell hm (hbb.out (4 * t) (by omega))
        have hb1 := mk_cell hm (hbb.out (4 * t + 1) (by omega))
        have hb2 := mk_cell hm (hbb.out (4 * t + 2) (by omega))
        have hb3 := mk_cell hm (hbb.out (4 * t + 3) (by omega))
        rw [show 64 * i + 4 * t = 64 * i + 4 * t from rfl] at hb0
        rw [← Nat.add_assoc] at hb1 hb2 hb3
        have hct : wr.cell? ⟨W5.heap.size, t, none⟩ = some (.int .u32 (nv ((sofar full t).getD t 0))) := by rw [cell_of hm.1, ucells_get _ _ (by omega)]
        have hfr := fr_of hm.1
        have hin : 64 * (i : Int) + 4 * (t : Int) + 3 < (N : Int) := by omega
        have hnx := Lib.hid (fun v hv => mk_set (v := v) hm t (word blk t) hv)
        have hwd := Lib.hid (show full.getD t 0 = word blk t from by rw [hF.out]; exact full_word blk t h16)
        have hsu := Lib.hid (sofar_succ full t hfl.out htl)
        clear hm hsl'
        obtain ⟨c0, hc0⟩ : ∃ c, blk.getD (4 * t) 0 = c := ⟨_, rfl⟩
        obtain ⟨c1, hc1⟩ : ∃ c, blk.getD (4 * t + 1) 0 = c := ⟨_, rfl⟩
        obtain ⟨c2, hc2⟩ : ∃ c, blk.getD (4 * t + 2) 0 = c := ⟨_, rfl⟩
        obtain ⟨c3, hc3⟩ : ∃ c, blk.getD (4 * t + 3) 0 = c := ⟨_, rfl⟩
        rw [hc0] at hb0
        rw [hc1] at hb1
        rw [hc2] at hb2
        rw [hc3] at hb3
        replace hc0 := Lib.hid hc0
        replace hc1 := Lib.hid hc1
        replace hc2 := Lib.hid hc2
        replace hc3 := Lib.hid hc3
        go_wp2_with fail
        refine wp_region_noPanic ?_
        go_region
        refine NoPanic.normal ?_
        go_wp2_with fail
        go_roundg (64 - (t + 1))
        case measure => omega
        case rel =>
          refine ⟨t + 1, rfl, by omega, by go_num, ?_⟩
          have := hnx.out _ (word_val c0 c1 c2 c3 hc0.out hc1.out hc2.out hc3.out)
          rw [← hwd.out, hsu.out] at this
          exact mk_drew this
      · have h16' : ¬ (t : Int) < 16 := by omega
        have hi64 : (t : Int) < 64 := by omega
        have hc16 := mk_at hm (t - 16) (by omega)
        have hc15 := mk_at hm (t - 15) (by omega)
        have hc7 := mk_at hm (t - 7) (by omega)
        have hc2 := mk_at hm (t - 2) (by omega)
        have hct := mk_at hm t (by omega)
        have hfr := fr_of hm.1
        rw [sofar_at full t _ hfl.out (by omega) (by omega)] at hc16 hc15 hc7 hc2
        have hnext := sched_next (words blk) t (words_length _) (by omega) htl
        rw [← hF.out] at hnext
        have hmH := Lib.hid hm
        have hnextH := Lib.hid hnext
        have hsu := Lib.hid (sofar_succ full t hfl.out htl)
        clear hsl' hnext hm
        generalize full.getD (t - 16) 0 = x16 at *
        generalize full.getD (t - 15) 0 = x15 at *
        generalize full.getD (t - 7) 0 = x7 at *
        generalize full.getD (t - 2) 0 = x2 at *
        have hw16 : IntKind.i64.wrap ((t : Int) - 16) = ((t - 16 : Nat) : Int) := by rw [show (t : Int) - 16 = ((t - 16 : Nat) : Int) from by omega]; exact Go.Proofs.YtpecclcihefbaaaDoor.Sha.wrap_small (Int.natCast_nonneg _) (by omega)
        have hw7 : IntKind.i64.wrap ((t : Int) - 7) = ((t - 7 : Nat) : Int) := by rw [show (t : Int) - 7 = ((t - 7 : Nat) : Int) from by omega]; exact Go.Proofs.YtpecclcihefbaaaDoor.Sha.wrap_small (Int.natCast_nonneg _) (by omega)
        have hb16 : (((t - 16 : Nat) : Int) < 64) = True := eq_true (by omega)
        have hb7 : (((t - 7 : Nat) : Int) < 64) = True := eq_true (by omega)
        have ht16 : ¬ (t - 16 = t) := by omega
        have ht7 : ¬ (t - 7 = t) := by omega
        have ht16' : ¬ (t = t - 16) := by omega
        have ht7' : ¬ (t = t - 7) := by omega
        go_wp2_with fail
        refine wp_region_noPanic ?_
        go_region_held3 (fun W => W.cell? ⟨W5.heap.size, t - 16, none⟩ = some (.int .u32 (nv x16)) ∧ W.cell? ⟨W5.heap.size, t - 7, none⟩ = some (.int .u32 (nv x7))) (first | go_keep | exact ⟨keep_set hc16 ht16, keep_set hc7 ht7⟩)
          ((go_at_call 36; refine (rturn_any _ _ (by unfold Cnt; omega) _).mono ?_; rintro e w' ⟨rfl, n', rfl⟩))
        refine NoPanic.normal ?_
        go_wp2_with fail
        go_roundg (64 - (t + 1))
        case measure => omega
        case rel =>
          refine ⟨t + 1, rfl, by omega, by go_num, ?_⟩
          have hms := mk_set hmH.out t (full.getD t 0) (sched_val2 x16 x15 x7 x2 |>.trans (congrArg nv hnextH.out.symm))
          rw [hsu.out] at hms
          exact ⟨hms.1, ⟨hms.2.os, hms.2.tape, hms.2.output, hms.2.size, hms.2.block⟩⟩
    · have ht64 : t = 64 := by omega
      subst ht64
      have hf64 : sofar full 64 = full := by unfold sofar; rw [List.take_of_length_le (by rw [hfl.out]; omega)]; simp
      rw [hf64] at hm
      have hmH := Lib.hid hm
      clear hm hf64
      go_wp2_with fail
      apply hexH.out
      exact hmH.out

end Go.Proofs.YtpecclcihefbaaaDoor.Ref
