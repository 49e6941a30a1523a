/- What LawPatchWrites lean on, part p of 29: the texts RefQ, DigR, TmD, Bag. -/
import Derived.Test.YtbiioaggilaebaaGreatDoorTVd
import Derived.Test.YtbiioaggilaebaaGreatDoorTVf
import Derived.Test.YtbiioaggilaebaaGreatDoorTVh
import Derived.Test.YtbiioaggilaebaaGreatDoorTVl
import Derived.Test.YtbiioaggilaebaaGreatDoorTVo
import Derived.Shelf.Strings.SlTrimAscii
import Derived.StillTailTactics
import Derived.IntWalk
import Derived.Deep.RegionHeld3
set_option linter.unusedVariables false
set_option linter.unusedSimpArgs false
namespace Go.Proofs.YtbiioaggilaebaaGreatDoor.Ref
open Go.RowKit Go.Proofs.YtbiioaggilaebaaGreatDoor.B Go.Proofs.YtbiioaggilaebaaGreatDoor.Sha Go.Proofs.YtbiioaggilaebaaGreatDoorW.PrintLast
noncomputable def schedLoop : Code := ((Tryz.f51.body.map loops).getD []).getD 3 .skip
set_option maxRecDepth 1000000 in
set_option maxHeartbeats 2000000 in
theorem sched_loop (gb cb N i : Nat) (blk : List UInt8) (full : List (BitVec 32)) (W5 W0 : World) (hF0 : full = sched (words blk) 48) (hfl0 : full.length = 64) (hi64 : 64 * i + 64 ≤ N) (hNl : N < 100200)
    (hbb0 : ∀ j, j < 64 → W5.cell? ⟨gb, 64 * i + j, none⟩ = some (.int .u8 ((blk.getD j 0).toNat : Int))) (hst0 : Mk W5 W0 (sofar full 0))
    (u0 u1 u2 u3 u4 u6 u7 u11 u12 u13 u14 u15 u16 u17 u18 u19 u20 u21 u22 u23 u24 u25 u26 u27 u28 u29 u30 u31 u32 u33 u34 u35 u36 u37 u38 u39 u40 u41 u42 u43 u44 u45 u46 u47 u48 u49 u50 u51 u52 u53 u54 u55 u56 u57 u58 u59 u60 u61 u62 u63 u64 u65 u66 u67 u68 u69 u70 u71 u72 u73 u74 u75 u76 u77 u78 u79 u80 u81 u82 u83 u84 u85 u86 u87 u88 u89 u90 u91 u92 u93 u94 u95 u96 u97 u98 u99 u100 u101 u102 u103 u104 u105 u106 u107 u108 u109 u110 u111 u112 u113 u114 u115 u116 u117 u118 u119 u120 u121 u122 u123 u124 u125 u126 u127 u128 u129 u130 u131 u132 u133 u134 u135 u136 u137 u138 u139 u140 u141 u142 u143 u144 u145 u146 u147 u148 u149 u150 u151 u152 u153 u154 u155 u156 u157 u158 u159 u160 u161 u162 u163 u164 u165 u166 u167 u168 u169 u170 u171 u172 u173 u174 u175 u176 u177 u178 u179 u180 u181 u182 u183 u184 u185 u186 u187 u188 u189 u190 u191 u192 u193 u194 u195 u196 u197 u198 u199 u200 u201 u202 u203 u204 u205 u206 u207 u208 u209 u210 u211 u212 u213 u214 u215 u216 u217 u218 u219 u220 u221 u222 u223 u224 u225 u226 u227 u228 u229 u230 u231 u232 u233 u234 u235 u236 u237 u238 u239 u240 u241 u242 u243 u244 u245 u246 u247 u248 u249 u250 u251 u252 u253 u254 u255 u256 u257 u258 u259 u260 u261 u262 u263 u264 u265 u266 u267 u268 u269 u270 u271 u272 u273 u274 u275 u276 u277 u278 u279 u280 u281 u282 u283 u284 u285 u286 u287 u288 u289 u290 u291 u292 : Value) (Q0 : Exit → Act → World → Prop)
    (hexit : ∀ (c11 c12 c13 c58 c59 c60 c61 c62 c63 c64 c65 c66 c67 c68 c69 c70 c71 c72 c73 c74 c75 c76 c77 c78 c79 c80 c81 c82 c83 c84 c85 c86 c87 c88 c89 c90 c91 c92 c93 c94 c95 c96 c97 c98 c99 c100 c101 c102 c103 c104 c105 c106 c107 c108 c109 c110 c111 c112 c113 c114 c115 c116 c117 c118 c119 c120 c121 c122 c123 c124 c125 c126 c127 c128 c129 c130 c131 c132 c133 c134 c135 c136 c137 c138 c139 c140 c141 : Value) (W : World), Mk W5 W full → Q0 (.exit 6) ⟨List.toArray (u0 :: u1 :: u2 :: u3 :: u4 :: .slice (some ⟨gb, 0, none⟩) N cb :: u6 :: u7 :: .int .i64 (64 * (i : Int)) :: .slice (some ⟨W5.heap.size, 0, none⟩) 64 64 :: .int .i64 ((64 : Nat) : Int) :: c11 :: c12 :: c13 :: u14 :: u15 :: u16 :: u17 :: u18 :: u19 :: u20 :: u21 :: u22 :: u23 :: u24 :: u25 :: u26 :: u27 :: u28 :: u29 :: u30 :: u31 :: u32 :: u33 :: u34 :: u35 :: u36 :: u37 :: u38 :: u39 :: u40 :: u41 :: u42 :: u43 :: u44 :: u45 :: u46 :: u47 :: u48 :: u49 :: u50 :: u51 :: u52 :: u53 :: u54 :: u55 :: u56 :: u57 :: c58 :: c59 :: c60 :: c61 :: c62 :: c63 :: c64 :: c65 :: c66 :: c67 :: c68 :: c69 :: c70 :: c71 :: c72 :: c73 :: c74 :: c75 :: c76 :: c77 :: c78 :: c79 :: c80 :: c81 :: c82 :: c83 :: c84 :: c85 :: c86 :: c87 :: c88 :: c89 :: c90 :: c91 :: c92 :: c93 :: c94 :: c95 :: c96 :: c97 :: c98 :: c99 :: c100 :: c101 :: c102 :: c103 :: c104 :: c105 :: c106 :: c107 :: c108 :: c109 :: c110 :: c111 :: c112 :: c113 :: c114 :: c115 :: c116 :: c117 :: c118 :: c119 :: c120 :: c121 :: c122 :: c123 :: c124 :: c125 :: c126 :: c127 :: c128 :: c129 :: c130 :: c131 :: c132 :: c133 :: c134 :: c135 :: c136 :: c137 :: c138 :: c139 :: c140 :: c141 :: u142 :: u143 :: u144 :: u145 :: u146 :: u147 :: u148 :: u149 :: u150 :: u151 :: u152 :: u153 :: u154 :: u155 :: u156 :: u157 :: u158 :: u159 :: u160 :: u161 :: u162 :: u163 :: u164 :: u165 :: u166 :: u167 :: u168 :: u169 :: u170 :: u171 :: u172 :: u173 :: u174 :: u175 :: u176 :: u177 :: u178 :: u179 :: u180 :: u181 :: u182 :: u183 :: u184 :: u185 :: u186 :: u187 :: u188 :: u189 :: u190 :: u191 :: u192 :: u193 :: u194 :: u195 :: u196 :: u197 :: u198 :: u199 :: u200 :: u201 :: u202 :: u203 :: u204 :: u205 :: u206 :: u207 :: u208 :: u209 :: u210 :: u211 :: u212 :: u213 :: u214 :: u215 :: u216 :: u217 :: u218 :: u219 :: u220 :: u221 :: u222 :: u223 :: u224 :: u225 :: u226 :: u227 :: u228 :: u229 :: u230 :: u231 :: u232 :: u233 :: u234 :: u235 :: u236 :: u237 :: u238 :: u239 :: u240 :: u241 :: u242 :: u243 :: u244 :: u245 :: u246 :: u247 :: u248 :: u249 :: u250 :: u251 :: u252 :: u253 :: u254 :: u255 :: u256 :: u257 :: u258 :: u259 :: u260 :: u261 :: u262 :: u263 :: u264 :: u265 :: u266 :: u267 :: u268 :: u269 :: u270 :: u271 :: u272 :: u273 :: u274 :: u275 :: u276 :: u277 :: u278 :: u279 :: u280 :: u281 :: u282 :: u283 :: u284 :: u285 :: u286 :: u287 :: u288 :: u289 :: u290 :: u291 :: u292 :: []), []⟩ W) :
    Code.wp Tryz.prog schedLoop Q0 ⟨List.toArray (u0 :: u1 :: u2 :: u3 :: u4 :: .slice (some ⟨gb, 0, none⟩) N cb :: u6 :: u7 :: .int .i64 (64 * (i : Int)) :: .slice (some ⟨W5.heap.size, 0, none⟩) 64 64 :: .int .i64 0 :: u11 :: u12 :: u13 :: u14 :: u15 :: u16 :: u17 :: u18 :: u19 :: u20 :: u21 :: u22 :: u23 :: u24 :: u25 :: u26 :: u27 :: u28 :: u29 :: u30 :: u31 :: u32 :: u33 :: u34 :: u35 :: u36 :: u37 :: u38 :: u39 :: u40 :: u41 :: u42 :: u43 :: u44 :: u45 :: u46 :: u47 :: u48 :: u49 :: u50 :: u51 :: u52 :: u53 :: u54 :: u55 :: u56 :: u57 :: u58 :: u59 :: u60 :: u61 :: u62 :: u63 :: u64 :: u65 :: u66 :: u67 :: u68 :: u69 :: u70 :: u71 :: u72 :: u73 :: u74 :: u75 :: u76 :: u77 :: u78 :: u79 :: u80 :: u81 :: u82 :: u83 :: u84 :: u85 :: u86 :: u87 :: u88 :: u89 :: u90 :: u91 :: u92 :: u93 :: u94 :: u95 :: u96 :: u97 :: u98 :: u99 :: u100 :: u101 :: u102 :: u103 :: u104 :: u105 :: u106 :: u107 :: u108 :: u109 :: u110 :: u111 :: u112 :: u113 :: u114 :: u115 :: u116 :: u117 :: u118 :: u119 :: u120 :: u121 :: u122 :: u123 :: u124 :: u125 :: u126 :: u127 :: u128 :: u129 :: u130 :: u131 :: u132 :: u133 :: u134 :: u135 :: u136 :: u137 :: u138 :: u139 :: u140 :: u141 :: u142 :: u143 :: u144 :: u145 :: u146 :: u147 :: u148 :: u149 :: u150 :: u151 :: u152 :: u153 :: u154 :: u155 :: u156 :: u157 :: u158 :: u159 :: u160 :: u161 :: u162 :: u163 :: u164 :: u165 :: u166 :: u167 :: u168 :: u169 :: u170 :: u171 :: u172 :: u173 :: u174 :: u175 :: u176 :: u177 :: u178 :: u179 :: u180 :: u181 :: u182 :: u183 :: u184 :: u185 :: u186 :: u187 :: u188 :: u189 :: u190 :: u191 :: u192 :: u193 :: u194 :: u195 :: u196 :: u197 :: u198 :: u199 :: u200 :: u201 :: u202 :: u203 :: u204 :: u205 :: u206 :: u207 :: u208 :: u209 :: u210 :: u211 :: u212 :: u213 :: u214 :: u215 :: u216 :: u217 :: u218 :: u219 :: u220 :: u221 :: u222 :: u223 :: u224 :: u225 :: u226 :: u227 :: u228 :: u229 :: u230 :: u231 :: u232 :: u233 :: u234 :: u235 :: u236 :: u237 :: u238 :: u239 :: u240 :: u241 :: u242 :: u243 :: u244 :: u245 :: u246 :: u247 :: u248 :: u249 :: u250 :: u251 :: u252 :: u253 :: u254 :: u255 :: u256 :: u257 :: u258 :: u259 :: u260 :: u261 :: u262 :: u263 :: u264 :: u265 :: u266 :: u267 :: u268 :: u269 :: u270 :: u271 :: u272 :: u273 :: u274 :: u275 :: u276 :: u277 :: u278 :: u279 :: u280 :: u281 :: u282 :: u283 :: u284 :: u285 :: u286 :: u287 :: u288 :: u289 :: u290 :: u291 :: u292 :: []), []⟩ W0 := by
  unfold schedLoop
  conv => arg 2; whnf
  have hF := Lib.hid hF0
  have hfl := Lib.hid hfl0
  have hbb := Lib.hid hbb0
  have hst := Lib.hid hst0
  have hexH := Lib.hid hexit
  have hili : 64 * (i : Int) < (N : Int) := by omega
  clear hF0 hfl0 hbb0 hst0 hexit
  go_loopg [10] 64 (fun g i' W => ∃ t : Nat, g = 64 - t ∧ t ≤ 64 ∧ i' = .int .i64 t ∧ Mk W5 W (sofar full t))
  case atStart => exact ⟨0, rfl, by omega, rfl, hst.out⟩
  case round =>
    clear hst
    obtain ⟨t, hg, ht, rfl, hm⟩ := hrel
    subst hg
    by_cases htl : t < 64
    · have hsl' := sofar_length full t hfl.out (by omega)
      by_cases h16 : t < 16
      · have hi16 : (t : Int) < 16 := by omega
        have hi64 : (t : Int) < 64 := by omega
        have hb0 := mk_cell hm (hbb.out (4 * t) (by omega))
        have hb1 := mk_cell hm (hbb.out (4 * t + 1) (by omega))
        have hb2 := mk_cell hm (hbb.out (4 * t + 2) (by omega))
        have hb3 := mk_cell hm (hbb.out (4 * t + 3) (by omega))
        rw [show 64 * i + 4 * t = 64 * i + 4 * t from rfl] at hb0
        rw [← Nat.add_assoc] at hb1 hb2 hb3
        have hct : wr.cell? ⟨W5.heap.size, t, none⟩ = some (.int .u32 (nv ((sofar full t).getD t 0))) := by rw [cell_of hm.1, ucells_get _ _ (by omega)]
        have hfr := fr_of hm.1
        have hin : 64 * (i : Int) + 4 * (t : Int) + 3 < (N : Int) := by omega
        have hnx := Lib.hid (fun v hv => mk_set (v := v) hm t (word blk t) hv)
        have hwd := Lib.hid (show full.getD t 0 = word blk t from by rw [hF.out]; exact full_word blk t h16)
        have hsu := Lib.hid (sofar_succ full t hfl.out htl)
        clear hm hsl'
        obtain ⟨c0, hc0⟩ : ∃ c, blk.getD (4 * t) 0 = c := ⟨_, rfl⟩
        obtain ⟨c1, hc1⟩ : ∃ c, blk.getD (4 * t + 1) 0 = c := ⟨_, rfl⟩
        obtain ⟨c2, hc2⟩ : ∃ c, blk.getD (4 * t + 2) 0 = c := ⟨_, rfl⟩
        obtain ⟨c3, hc3⟩ : ∃ c, blk.getD (4 * t + 3) 0 = c := ⟨_, rfl⟩
        rw [hc0] at hb0
        rw [hc1] at hb1
        rw [hc2] at hb2
        rw [hc3] at hb3
        replace hc0 := Lib.hid hc0
        replace hc1 := Lib.hid hc1
        replace hc2 := Lib.hid hc2
        replace hc3 := Lib.hid hc3
        go_wp2_with fail
        refine wp_region_noPanic ?_
        go_region
        refine NoPanic.normal ?_
        go_wp2_with fail
        go_roundg (64 - (t + 1))
        case measure => omega
        case rel =>
          refine ⟨t + 1, rfl, by omega, by go_num, ?_⟩
          have := hnx.out _ (word_val c0 c1 c2 c3 hc0.out hc1.out hc2.out hc3.out)
          rw [← hwd.out, hsu.out] at this
          exact mk_drew this
      · have h16' : ¬ (t : Int) < 16 := by omega
        have hi64 : (t : Int) < 64 := by omega
        have hc16 := mk_at hm (t - 16) (by omega)
        have hc15 := mk_at hm (t - 15) (by omega)
        have hc7 := mk_at hm (t - 7) (by omega)
        have hc2 := mk_at hm (t - 2) (by omega)
        have hct := mk_at hm t (by omega)
        have hfr := fr_of hm.1
        rw [sofar_at full t _ hfl.out (by omega) (by omega)] at hc16 hc15 hc7 hc2
        have hnext := sched_next (words blk) t (words_length _) (by omega) htl
        rw [← hF.out] at hnext
        have hmH := Lib.hid hm
        have hnextH := Lib.hid hnext
        have hsu := Lib.hid (sofar_succ full t hfl.out htl)
        clear hsl' hnext hm
        generalize full.getD (t - 16) 0 = x16 at *
        generalize full.getD (t - 15) 0 = x15 at *
        generalize full.getD (t - 7) 0 = x7 at *
        generalize full.getD (t - 2) 0 = x2 at *
        have hw16 : IntKind.i64.wrap ((t : Int) - 16) = ((t - 16 : Nat) : Int) := by rw [show (t : Int) - 16 = ((t - 16 : Nat) : Int) from by omega]; exact Go.Proofs.YtbiioaggilaebaaGreatDoor.Sha.wrap_small (Int.natCast_nonneg _) (by omega)
        have hw7 : IntKind.i64.wrap ((t : Int) - 7) = ((t - 7 : Nat) : Int) := by rw [show (t : Int) - 7 = ((t - 7 : Nat) : Int) from by omega]; exact Go.Proofs.YtbiioaggilaebaaGreatDoor.Sha.wrap_small (Int.natCast_nonneg _) (by omega)
        have hb16 : (((t - 16 : Nat) : Int) < 64) = True := eq_true (by omega)
        have hb7 : (((t - 7 : Nat) : Int) < 64) = True := eq_true (by omega)
        have ht16 : ¬ (t - 16 = t) := by omega
        have ht7 : ¬ (t - 7 = t) := by omega
        have ht16' : ¬ (t = t - 16) := by omega
        have ht7' : ¬ (t = t - 7) := by omega
        go_wp2_with fail
        refine wp_region_noPanic ?_
        go_region_held3 (fun W => W.cell? ⟨W5.heap.size, t - 16, none⟩ = some (.int .u32 (nv x16)) ∧ W.cell? ⟨W5.heap.size, t - 7, none⟩ = some (.int .u32 (nv x7))) (first | go_keep | exact ⟨keep_set hc16 ht16, keep_set hc7 ht7⟩)
          ((go_at_call 92; refine (rturn_any _ _ (by unfold Cnt; omega) _).mono ?_; rintro e w' ⟨rfl, n', rfl⟩))
        refine NoPanic.normal ?_
        go_wp2_with fail
        go_roundg (64 - (t + 1))
        case measure => omega
        case rel =>
          refine ⟨t + 1, rfl, by omega, by go_num, ?_⟩
          have hms := mk_set hmH.out t (full.getD t 0) (sched_val2 x16 x15 x7 x2 |>.trans (congrArg nv hnextH.out.symm))
          rw [hsu.out] at hms
          exact ⟨hms.1, ⟨hms.2.os, hms.2.tape, hms.2.output, hms.2.size, hms.2.block⟩⟩
    · have ht64 : t = 64 := by omega
      subst ht64
      have hf64 : sofar full 64 = full := by unfold sofar; rw [List.take_of_length_le (by rw [hfl.out]; omega)]; simp
      rw [hf64] at hm
      have hmH := Lib.hid hm
      clear hm hf64
      go_wp2_with fail
      apply hexH.out
      exact hmH.out
end Go.Proofs.YtbiioaggilaebaaGreatDoor.Ref
set_option linter.unusedVariables false
set_option linter.unusedSimpArgs false
namespace Go.Proofs.YtbiioaggilaebaaGreatDoor.Dig
open Go Go.RowKit Go.Proofs.YtbiioaggilaebaaGreatDoor.B Go.Proofs.YtbiioaggilaebaaGreatDoor.Sha
open Go.Proofs.YtbiioaggilaebaaGreatDoor.Lin (bs bs_data bs_of bs_size size_list)
def digs : List UInt8 := [48, 49, 50, 51, 52, 53, 54, 55, 56, 57, 97, 98, 99, 100, 101, 102]
theorem digs_dv (c : UInt8) : digs.contains c = (dv c).isSome := by
  have : ∀ n : Fin 256, digs.contains (UInt8.ofFin n) = (dv (UInt8.ofFin n)).isSome := by decide +kernel
  exact this c.toFin
theorem digs_index (c : UInt8) (n : Nat) (h : dv c = some n) : Lib.indexByte digs c = (n : Int) := by
  have : ∀ n : Fin 256, (match dv (UInt8.ofFin n) with | some k => Lib.indexByte digs (UInt8.ofFin n) == (k : Int) | none => true) = true := by decide +kernel
  have h2 := this c.toFin
  rw [show UInt8.ofFin c.toFin = c from rfl, h] at h2
  exact beq_iff_eq.1 h2
theorem dropWhile_all {α : Type} (p : α → Bool) : ∀ l : List α, l.dropWhile p = [] ↔ l.all p = true
  | [] => by simp
  | a :: l => by
    rw [List.dropWhile_cons, List.all_cons]
    cases h : p a with
    | true => simpa using dropWhile_all p l
    | false => simp
theorem all_reverse' (p : UInt8 → Bool) (l : List UInt8) : l.reverse.all p = l.all p := by
  rw [Bool.eq_iff_iff, List.all_eq_true, List.all_eq_true]
  simp
theorem trim_empty (l : List UInt8) : Lib.trimS l digs = [] ↔ allD l = true := by
  have e : allD l = l.all (digs.contains ·) := by
    unfold allD
    congr 1
    funext c
    exact (digs_dv c).symm
  rw [e]
  unfold Lib.trimS Lib.trimLeftS Lib.trimRightS
  rw [dropWhile_all, all_reverse']
  constructor
  · intro h
    by_cases ha : l.all (digs.contains ·) = true
    · exact ha
    · -- the last one that is none stays
      exfalso
      rw [← all_reverse'] at ha
      have hne : l.reverse.dropWhile (digs.contains ·) ≠ [] := fun h0 => ha ((dropWhile_all _ _).1 h0)
      obtain ⟨x, r, hx⟩ := List.exists_cons_of_ne_nil hne
      have hp : digs.contains x = false := by
        have := List.head?_dropWhile_not (digs.contains ·) l.reverse
        rw [hx] at this
        exact this
      rw [hx, List.all_cons, hp] at h
      simp at h
  · intro h
    rw [← all_reverse', ← dropWhile_all] at h
    rw [h]; rfl
def rawE (r : Option (List UInt8)) : Value := match r with
  | some _ => .nilIface
  | none => .iface 54 (.int .i64 4)
def RawPost (l : List UInt8) (w : World) (e : Ending) (w' : World) : Prop := e = .returned (.tuple #[.string (rawR l).1, rawE (rawL l)]) ∧ Below w.heap.size w w'
theorem rawPost_none {l : List UInt8} {w w' : World} (h : rawL l = none) (hb : Below w.heap.size w w') : RawPost l w (.returned (.tuple #[.string ⟨#[]⟩, .iface 54 (.int .i64 4)])) w' := by
  unfold RawPost rawR rawE; rw [h]; exact ⟨rfl, hb⟩
theorem rawPost_some {l r : List UInt8} {w w' : World} (h : rawL l = some r) (hb : Below w.heap.size w w') : RawPost l w (.returned (.tuple #[.string (bs r), .nilIface])) w' := by
  unfold RawPost rawR rawE; rw [h]; exact ⟨rfl, hb⟩
theorem trim_any (s : ByteArray) (hs : s.size ≤ 140737488351232) (w : World) :
    Calls Tryz.prog 145 #[.string s, .string ⟨#[48, 49, 50, 51, 52, 53, 54, 55, 56, 57, 97, 98, 99, 100, 101, 102]⟩] w fun e w' => e = .returned (.string (bs (Lib.trimS s.data.toList digs))) ∧ Below w.heap.size w w' :=
  Any.strings_Trim_laid Tryz.lays160 (by kernel_rfl) s ⟨#[48, 49, 50, 51, 52, 53, 54, 55, 56, 57, 97, 98, 99, 100, 101, 102]⟩ w (by omega) (by decide) (ascii_of_all (by decide))
theorem raw_odd (s : ByteArray) (hs : s.size ≤ 140737488351232) (w : World) (h : ¬ s.size % 2 = 0) : Calls Tryz.prog 113 #[.string s] w (RawPost s.data.toList w) := by
  have hN := Lib.hid (rawL_odd (l := s.data.toList) (by rw [size_list]; exact h))
  have hsi : (s.size : Int) ≤ 140737488351232 := by omega
  have h1 : (((s.size : Int) % 2) != 0) = true := by rw [bne_iff_ne]; omega
  clear h
  go_enter Tryz.func113, Tryz.ntmps113
  go_wp2_with fail
  go_ret2
  exact rawPost_none hN.out (Below.refl _ _)
theorem raw_notD (s : ByteArray) (hs : s.size ≤ 140737488351232) (w : World) (h : s.size % 2 = 0) (hd : allD s.data.toList = false) : Calls Tryz.prog 113 #[.string s] w (RawPost s.data.toList w) := by
  have hN := Lib.hid (rawL_notD hd)
  have hsi : (s.size : Int) ≤ 140737488351232 := by omega
  have h1 : (((s.size : Int) % 2) != 0) = false := by rw [bne_eq_false_iff_eq]; omega
  have C := trim_any s hs w
  have hne : Lib.trimS s.data.toList digs ≠ [] := fun e => by rw [(trim_empty _).1 e] at hd; cases hd
  obtain ⟨x, r, hx⟩ := List.exists_cons_of_ne_nil hne
  have hz : (bs (Lib.trimS s.data.toList digs)).toList = x :: r := by rw [ByteArray.toList_eq, bs_data, hx]
  generalize bs (Lib.trimS s.data.toList digs) = t at *
  have hz1 : t.toList.isEmpty = false := by rw [hz]; rfl
  have hz2 : ¬ t.toList = [] := by rw [hz]; simp
  have CH := Lib.hid C
  clear C hne hx hd h hz
  go_enter Tryz.func113, Tryz.ntmps113
  go_wp2_with fail
  refine (CH.out).mono ?_
  rintro e w1 ⟨rfl, hb⟩
  replace hb := Lib.hid hb
  go_wp2_with fail
  go_ret2
  exact rawPost_none hN.out hb.out
theorem index_dig (a : UInt8) (x : Nat) (h : dv a = some x) (W : World) :
    Calls Tryz.prog 146 #[.string ⟨#[48, 49, 50, 51, 52, 53, 54, 55, 56, 57, 97, 98, 99, 100, 101, 102]⟩, .int .u8 (a.toNat : Int)] W fun e w' => e = .returned (.int .i64 (x : Int)) ∧ W = w' := by
  have := Tryz.strings_IndexByte ⟨#[48, 49, 50, 51, 52, 53, 54, 55, 56, 57, 97, 98, 99, 100, 101, 102]⟩ (a.toNat : Int) W
  rw [show ((a.toNat : Int)).toNat.toUInt8 = a from by simp, show (⟨#[48, 49, 50, 51, 52, 53, 54, 55, 56, 57, 97, 98, 99, 100, 101, 102]⟩ : ByteArray).data.toList = digs from rfl, digs_index a x h] at this
  exact this.mono fun e w' ⟨h1, h2⟩ => ⟨h1, h2.symm⟩
theorem byte_val {x y : Nat} (hx : x < 16) (hy : y < 16) : IntKind.u8.wrap (bits .or .i64 (IntKind.i64.wrap ((x : Int) * 16)) (y : Int)) = (((UInt8.ofNat (16 * x + y)).toNat : Nat) : Int) := by
  have : ∀ x y : Fin 16, IntKind.u8.wrap (bits .or .i64 (IntKind.i64.wrap ((x.val : Int) * 16)) (y.val : Int)) = (((UInt8.ofNat (16 * x.val + y.val)).toNat : Nat) : Int) := by decide +kernel
  exact this ⟨x, hx⟩ ⟨y, hy⟩
theorem rawL_at : ∀ (l r : List UInt8), rawL l = some r → ∀ j, j < r.length → ∃ x y, dv (l.getD (2 * j) 0) = some x ∧ dv (l.getD (2 * j + 1) 0) = some y ∧ r.getD j 0 = UInt8.ofNat (16 * x + y)
  | [], r, h, j, hj => by cases h; simp at hj
  | [_], r, h, j, hj => by cases h
  | a :: b :: l, r, h, j, hj => by
    rw [rawL_two] at h
    split at h
    · rename_i c r' h1 h2
      cases h
      cases j with
      | zero =>
        unfold pair at h1
        split at h1
        · rename_i x y hx hy
          exact ⟨x, y, hx, hy, (Option.some.inj h1).symm⟩
        · cases h1
      | succ j =>
        obtain ⟨x, y, h3, h4, h5⟩ := rawL_at l r' h2 j (by simpa using hj)
        refine ⟨x, y, ?_, ?_, ?_⟩
        · rw [show 2 * (j + 1) = 2 * j + 1 + 1 from by omega]; simpa using h3
        · rw [show 2 * (j + 1) + 1 = 2 * j + 1 + 1 + 1 from by omega]; simpa using h4
        · simpa using h5
    · cases h
set_option maxRecDepth 100000 in
set_option maxHeartbeats 2000000 in
theorem raw_good (s : ByteArray) (hs : s.size ≤ 140737488351232) (w : World) (h : s.size % 2 = 0) (hd : allD s.data.toList = true) : Calls Tryz.prog 113 #[.string s] w (RawPost s.data.toList w) := by
  obtain ⟨r, hr⟩ := rawL_some hd (by rw [size_list]; exact h)
  have hN := Lib.hid hr
  have hlen : s.size = 2 * r.length := by have := rawL_len _ _ hr; rwa [size_list] at this
  have hat := Lib.hid (rawL_at _ _ hr)
  have hsi : (s.size : Int) ≤ 140737488351232 := by omega
  have h1 : (((s.size : Int) % 2) != 0) = false := by rw [bne_eq_false_iff_eq]; omega
  have C := trim_any s hs w
  rw [(trim_empty _).2 hd] at C
  have CH := Lib.hid C
  obtain ⟨m, hm⟩ : ∃ m, m = r.length := ⟨_, rfl⟩
  rw [← hm] at hlen
  replace hm := Lib.hid hm
  have hmm : m ≤ 70368744175616 := by omega
  have hsm : (s.size : Int) = 2 * (m : Int) := by omega
  replace hsm := Lib.hid hsm
  replace hlen := Lib.hid hlen
  obtain ⟨i8, hi8, hz8, hs8, hb8⟩ := info8
  clear C hr hd h
  go_enter Tryz.func113, Tryz.ntmps113
  go_wp2_with fail
  refine (CH.out).mono ?_
  rintro e w1 ⟨rfl, hb⟩
  replace hb := Lib.hid hb
  have hown0 := Lib.hid (own_nil w1 w1.heap.size)
  rw [show bs [] = ⟨#[]⟩ from rfl]
  go_wp2_with fail
  go_loopg [4, 5] m (fun g v i W => ∃ j p : Nat, g = m - j ∧ j ≤ m ∧ p = 2 * j ∧ i = .int .i64 p ∧ W.ownsRow w1.heap.size 5 1 v j (bc (r.take j)) ∧ Tch (fun _ => False) w1 W)
  case atStart => exact ⟨0, 0, rfl, by omega, rfl, rfl, hown0.out, Tch.refl _ _⟩
  case round =>
    clear hown0
    obtain ⟨j, p, hgj, hj, hp, rfl, ho, ht⟩ := hrel
    subst hgj
    replace hp := Lib.hid hp
    by_cases hjl : j < m
    · have hji : (p : Int) < (s.size : Int) := by have := hsm.out; have := hp.out; omega
      have hji1 : (p : Int) + 1 < (s.size : Int) := by have := hsm.out; have := hp.out; omega
      have hix := fun (W : World) => str_idx (P := Tryz.prog) Tryz.underlying9 s p (by omega) W
      have hix1 := fun (W : World) => str_idx (P := Tryz.prog) Tryz.underlying9 s (p + 1) (by omega) W
      rw [show ((p + 1 : Nat) : Int) = (p : Int) + 1 from by omega] at hix1
      obtain ⟨x, y, hx, hy, hxy⟩ := hat.out j (by rw [← hm.out]; exact hjl)
      rw [← hp.out] at hx hy
      have hwp : IntKind.i64.wrap ((p : Int) + 1) = (p : Int) + 1 := IntWalk.i64_in _ (by omega)
      generalize s.data.toList.getD p 0 = a at *
      generalize s.data.toList.getD (p + 1) 0 = b at *
      have CA := Lib.hid (index_dig a x hx)
      have CB := Lib.hid (index_dig b y hy)
      have hx16 := dv_lt hx
      have hy16 := dv_lt hy
      have hnx : ∀ (w2 : World) (v : Value) (news : List Value), w2.ownsRow w1.heap.size 5 1 v (j + 1) (bc (r.take j) ++ news) → news = [.int .u8 (IntKind.u8.wrap (bits .or .i64 (IntKind.i64.wrap ((x : Int) * 16)) (y : Int)))] →
          w2.ownsRow w1.heap.size 5 1 v (j + 1) (bc (r.take (j + 1))) := by
        intro w2 v news h1 h2
        subst h2
        rw [byte_val hx16 hy16, ← hxy] at h1
        rw [List.take_add_one, List.getElem?_eq_getElem (by rw [← hm.out]; exact hjl), bc_append]
        rw [List.getD_eq_getElem?_getD, List.getElem?_eq_getElem (by rw [← hm.out]; exact hjl)] at h1
        exact h1
      have hfin := Lib.hid hnx
      clear hnx hx hy hxy
      have hoH := Lib.hid ho
      have htH := Lib.hid ht
      clear ho ht
      go_wp2_with fail
      go_region_held3 (fun W => True) (exact trivial)
        ((first
          | (go_at_call 146; with_reducible refine (CA.out _).mono ?_; rintro e w' ⟨rfl, rfl⟩)
          | (go_at_call 146; with_reducible refine (CB.out _).mono ?_; rintro e w' ⟨rfl, rfl⟩)
          | (refine step_append_lies _ (by rfl) _ _ _ (by rfl) w1.heap.size 5 i8 _ 1 1 Tryz.underlying69 hi8 hz8 hs8 hb8 rfl (by omega) u4 j _ (by rfl) (hoH.out.alloc _).drew ⟨wr.heap.size, 0, none⟩ 1 1 _ (by rfl) (by rfl) (World.news_of_block (heap_alloc_at wr _)) (by simp [Value.oneCell']) (by omega) (by unfold maxLen; omega) (by omega) (by have := htH.out.size; simp; omega) (wr.heap.size + 1) (by simp) ?_; intro g cap2 w2 hown1 hgrow hat2 hlt)))
      all_goals (try go_wp2_with fail)
      all_goals go_roundg (m - (j + 1))
      all_goals first | omega | exact ⟨j + 1, p + 2, rfl, by omega, by have := hp.out; omega, by go_num, hfin.out _ _ _ hown1 rfl, own_tch (htH.out.alloc _) (hoH.out.alloc _) (Nat.le_refl _) (undrew hgrow)⟩
    · have hjm : j = m := by omega
      subst hjm
      have hji : ¬ (p : Int) < (s.size : Int) := by have := hsm.out; have := hp.out; omega
      rw [List.take_of_length_le (by rw [← hm.out]; exact Nat.le_refl _)] at ho
      have hcv := own_conv _ _ _ r (by rw [← hm.out]; exact ho)
      have htH := Lib.hid ht
      clear ho ht
      generalize hout : (⟨r.toArray⟩ : ByteArray) = out at hcv
      replace hout := Lib.hid hout
      go_wp2_with fail
      go_ret2
      rw [← hout.out]
      exact rawPost_some hN.out (hb.out.trans (htH.out.below hb.out.size (fun _ h => h.elim)))
theorem raw_any (s : ByteArray) (hs : s.size ≤ 140737488351232) (w : World) : Calls Tryz.prog 113 #[.string s] w (RawPost s.data.toList w) := by
  by_cases h : s.size % 2 = 0
  · cases hd : allD s.data.toList with
    | true => exact raw_good s hs w h hd
    | false => exact raw_notD s hs w h hd
  · exact raw_odd s hs w h
def rightOf (l : List UInt8) : Bool := (rawL l).isSome && decide (((rawL l).getD []).length = 32)
theorem right_same (l : List UInt8) : rightOf l = rightL l := by
  unfold rightOf rightL
  cases h : rawL l with
  | none => simp
  | some r =>
    have := rawL_len l r h
    simp only [Option.isSome_some, Option.getD_some, Bool.true_and, Bool.and_true]
    by_cases h2 : r.length = 32
    · rw [decide_eq_true h2, decide_eq_true (by omega)]
    · rw [decide_eq_false h2, decide_eq_false (by omega)]
theorem right_any (s : ByteArray) (hs : s.size ≤ 140737488351232) (w : World) : Calls Tryz.prog 75 #[.string s] w fun e w' => e = .returned (.bool (rightL s.data.toList)) ∧ Below w.heap.size w w' := by
  rw [← right_same]
  have C := Lib.hid (raw_any s hs w)
  unfold RawPost rawR rightOf at *
  cases h : rawL s.data.toList with
  | none =>
    rw [h] at C
    unfold outR rawE at C
    clear h
    go_enter Tryz.func75, Tryz.ntmps75
    go_wp2_with fail
    refine (C.out).mono ?_
    rintro e w1 ⟨rfl, hb⟩
    replace hb := Lib.hid hb
    go_wp2_with fail
    go_ret
    exact ⟨rfl, hb.out⟩
  | some r =>
    rw [h] at C
    unfold outR rawE at C
    simp only [List.nil_append] at C
    have e : ((some r).isSome && decide (((some r).getD []).length = 32)) = decide ((bs r).size = 32) := by simp [bs_size]
    rw [e]
    clear e
    generalize bs r = t at *
    clear h
    by_cases h32 : t.size = 32
    · have q : ((t.size : Int) == 32) = true := by rw [beq_iff_eq]; omega
      rw [decide_eq_true h32]
      clear h32
      go_enter Tryz.func75, Tryz.ntmps75
      go_wp2_with fail
      refine (C.out).mono ?_
      rintro e w1 ⟨rfl, hb⟩
      replace hb := Lib.hid hb
      go_wp2_with fail
      go_ret
      exact ⟨rfl, hb.out⟩
    · have q : ((t.size : Int) == 32) = false := by rw [beq_eq_false_iff_ne]; omega
      rw [decide_eq_false h32]
      clear h32
      go_enter Tryz.func75, Tryz.ntmps75
      go_wp2_with fail
      refine (C.out).mono ?_
      rintro e w1 ⟨rfl, hb⟩
      replace hb := Lib.hid hb
      go_wp2_with fail
      go_ret
      exact ⟨rfl, hb.out⟩
end Go.Proofs.YtbiioaggilaebaaGreatDoor.Dig
set_option linter.unusedVariables false
set_option linter.unusedSimpArgs false
namespace Go.Proofs.YtbiioaggilaebaaGreatDoor.Tm
open Go Go.RowKit Go.Proofs.YtbiioaggilaebaaGreatDoor.B Go.Proofs.YtbiioaggilaebaaGreatDoorW.PrintWords
theorem digs_f (n : Nat) : ∀ k, n ≤ 9223372036854775807 → n + 1 ≤ k → PNumber.tambourref04_Digits.f k (n : Int) = some ⟨(Lib.decDigits n).toArray⟩ := by
  induction n using Nat.strongRecOn with
  | _ n ih =>
    intro k hn hk
    obtain ⟨k, rfl⟩ : ∃ m, k = m + 1 := ⟨k - 1, by omega⟩
    unfold PNumber.tambourref04_Digits.f
    rw [if_neg (by omega), Option.bind_some]
    have e1 : wrap64 (48 + Int.tmod (n : Int) 10) % 256 = ((UInt8.ofNat (48 + n % 10)).toNat : Int) := by
      rw [UInt8.toNat_ofNat', show Int.tmod (n : Int) 10 = ((n % 10 : Nat) : Int) from by rw [Int.tmod_eq_emod_of_nonneg (by omega)]; omega]
      unfold wrap64
      omega
    rw [e1]
    have e2 : strOfNums [((UInt8.ofNat (48 + n % 10)).toNat : Int)] = ⟨#[UInt8.ofNat (48 + n % 10)]⟩ := Dig.strOfNums_nums [UInt8.ofNat (48 + n % 10)]
    rw [e2, Lib.decDigits]
    by_cases h10 : n < 10
    · rw [if_pos (by omega), dif_pos h10, Nat.mod_eq_of_lt h10]
    · rw [if_neg (by omega), dif_neg h10]
      have e3 : wrap64 (Int.tdiv (n : Int) 10) = ((n / 10 : Nat) : Int) := by
        rw [Int.tdiv_eq_ediv_of_nonneg (by omega)]
        unfold wrap64
        omega
      rw [e3, ih (n / 10) (by omega) k (by omega) (by omega), Option.bind_some]
      have hl := Lib.itoa_length_le ((n / 10 : Nat) : Int) (by omega) (by omega)
      rw [Lib.itoa_nonneg] at hl
      have hs : (ByteArray.mk (Lib.decDigits (n / 10)).toArray).size = (Lib.decDigits (n / 10)).length := by show (Lib.decDigits (n / 10)).toArray.size = _; simp
      have h1 : (ByteArray.mk #[UInt8.ofNat (48 + n % 10)]).size = 1 := rfl
      rw [if_pos (by omega)]
      congr 1
theorem digs_int (n : Int) (h0 : -9223372036854775808 ≤ n) (h1 : n ≤ 9223372036854775807) : ∃ k, PNumber.tambourref04_Digits.f k n = some ⟨(Lib.itoa n).toArray⟩ := by
  by_cases hn : 0 ≤ n
  · obtain ⟨m, rfl⟩ : ∃ m : Nat, n = (m : Int) := ⟨n.toNat, by omega⟩
    exact ⟨m + 1, by rw [digs_f m (m + 1) (by omega) (Nat.le_refl _), Lib.itoa_nonneg]⟩
  · obtain ⟨m, rfl, hm⟩ : ∃ m : Nat, n = -(m : Int) ∧ 1 ≤ m := ⟨(-n).toNat, by omega, by omega⟩
    rw [Lib.itoa_neg m hm]
    refine ⟨m + 2, ?_⟩
    unfold PNumber.tambourref04_Digits.f
    rw [if_pos (by omega)]
    by_cases hb : m = 9223372036854775808
    · rw [if_pos (by omega), hb]
      have e : Lib.decDigits 9223372036854775808 = [57, 50, 50, 51, 51, 55, 50, 48, 51, 54, 56, 53, 52, 55, 55, 53, 56, 48, 56] := by
        simp [Lib.decDigits]
      rw [e]
    · rw [if_neg (by omega)]
      have e3 : wrap64 (-(-(m : Int))) = (m : Int) := by unfold wrap64; omega
      rw [e3, digs_f m (m + 1) (by omega) (Nat.le_refl _), Option.bind_some]
      have hl := Lib.itoa_length_le (m : Int) (by omega) (by omega)
      rw [Lib.itoa_nonneg] at hl
      have hs : (ByteArray.mk (Lib.decDigits m).toArray).size = (Lib.decDigits m).length := by show (Lib.decDigits m).toArray.size = _; simp
      rw [if_pos (by omega)]
      congr 1
theorem digits_c (n : Int) (h0 : -9223372036854775808 ≤ n) (h1 : n ≤ 9223372036854775807) (w : World) :
    Calls Tryz.prog 129 #[.int .i64 n] w fun e w' => e = .returned (.string ⟨(Lib.itoa n).toArray⟩) ∧ Below w.heap.size w w' := by
  obtain ⟨k, hk⟩ := digs_int n h0 h1
  exact PNumber.tambourref04_Digits.calls k n _ w hk
end Go.Proofs.YtbiioaggilaebaaGreatDoor.Tm
set_option linter.unusedVariables false
set_option linter.unusedSimpArgs false
namespace Go.Proofs.YtbiioaggilaebaaGreatDoor.Tm
open Go Go.RowKit Go.Proofs.YtbiioaggilaebaaGreatDoor.B Go.Proofs.YtbiioaggilaebaaGreatDoor.Bld
theorem FC.append {ok : Nat → Prop} {w : World} {l' : List F} {cs' : List Value} (h' : FC ok w l' cs') : ∀ {l : List F} {cs : List Value}, FC ok w l cs → FC ok w (l ++ l') (cs ++ cs')
  | [], cs, h => by
    cases h
    exact h'
  | f :: l, cs, ⟨c0, c1, c2, r, h1, h2, h3⟩ => ⟨c0, c1, c2, r ++ cs', by rw [h1]; rfl, h2, FC.append h' h3⟩
theorem FC.len {ok : Nat → Prop} {w : World} : ∀ {l : List F} {cs : List Value}, FC ok w l cs → cs.length = l.length * 3
  | [], cs, h => by cases h; rfl
  | f :: l, cs, ⟨c0, c1, c2, r, h1, h2, h3⟩ => by
    rw [h1]
    simp only [List.length_cons, FC.len h3]
    omega
theorem FC.one {ok : Nat → Prop} {w : World} : ∀ {l : List F} {cs : List Value}, FC ok w l cs → ∀ u ∈ cs, u.oneCell' = true
  | [], cs, h, u, hu => by cases h; cases hu
  | f :: l, cs, ⟨c0, c1, c2, r, h1, h2, h3⟩, u, hu => by
    subst h1
    obtain ⟨e0, e1, e2⟩ := h2.cells
    simp only [List.mem_cons] at hu
    rcases hu with rfl | rfl | rfl | hu
    · exact e0
    · exact e1
    · exact e2
    · exact FC.one h3 u hu
theorem Bag.pushG {base : Nat} {w w' : World} {v : Value} {L G : List F} {cs cs' : List Value} {g cap : Nat} (h2 : FC (fun b => base ≤ b ∧ b < w.heap.size ∧ some b ≠ v.ownBlock) w L cs)
    (hf : FC (fun b => base ≤ b ∧ b < w.heap.size ∧ some b ≠ v.ownBlock) w G cs')
    (ho : w'.ownsRow base 74 3 (.slice (some ⟨g, 0, none⟩) (L.length + G.length) cap) (L.length + G.length) (cs ++ cs')) (hg : w.grownBy w' v.ownBlock) (hv : v.ownBlock = some g ∨ w.heap.size ≤ g) :
    Bag base w' (.slice (some ⟨g, 0, none⟩) (L.length + G.length) cap) (L ++ G) := by
  have hm : ∀ b, (base ≤ b ∧ b < w.heap.size ∧ some b ≠ v.ownBlock) → (base ≤ b ∧ b < w'.heap.size ∧ some b ≠ (Value.slice (some ⟨g, 0, none⟩) (L.length + G.length) cap).ownBlock) ∧ w'.heap[b]? = w.heap[b]? := by
    intro b ⟨h1, h2, h3⟩
    refine ⟨⟨h1, Nat.lt_of_lt_of_le h2 hg.size, ?_⟩, hg.block b h2 h3⟩
    show some b ≠ some g
    intro e
    injection e with e
    subst e
    rcases hv with hv | hv
    · exact h3 hv.symm
    · omega
  have e : (L ++ G).length = L.length + G.length := by simp
  exact ⟨cs ++ cs', by rw [e]; exact ho, FC.append (FC.move hm hf) (FC.move hm h2)⟩
def Grew (v : Value) (w w' : World) : Prop := w.heap.size ≤ w'.heap.size ∧ w'.os = w.os ∧ w'.tape = w.tape ∧ w'.output = w.output ∧ ∀ b, b < w.heap.size → some b ≠ v.ownBlock → w'.heap[b]? = w.heap[b]?
theorem Grew.cell {v : Value} {w w' : World} (h : Grew v w w') {p : Addr} {u : Value} (hc : w.cell? p = some u) (hne : some p.block ≠ v.ownBlock) : w'.cell? p = some u :=
  (World.cell?_of_block (h.2.2.2.2 _ (World.block_lt_of_cell? w p hc) hne)).trans hc
theorem Grew.heap {v : Value} {w w' : World} (h : Grew v w w') {b : Nat} {o : Obj} (hc : w.heap[b]? = some o) (hne : some b ≠ v.ownBlock) : w'.heap[b]? = some o := (h.2.2.2.2 _ (heap_lt hc) hne).trans hc
theorem Grew.tch {S : Nat → Prop} {v : Value} {w0 w w' : World} (h : Grew v w w') (ht : Tch S w0 w) (hv : ∀ k, v.ownBlock = some k → w0.heap.size ≤ k) : Tch S w0 w' :=
  ⟨h.2.1.trans ht.os, h.2.2.1.trans ht.tape, h.2.2.2.1.trans ht.output, Nat.le_trans ht.size h.1, fun k hk hs => (h.2.2.2.2 k (Nat.lt_of_lt_of_le hk ht.size) (fun e => by have := hv k e.symm; omega)).trans (ht.block k hk hs)⟩
theorem Grew.below {B : Nat} {v : Value} {w0 w w' : World} (h : Grew v w w') (hb : Below B w0 w) (hB : B ≤ w.heap.size) (hv : ∀ k, v.ownBlock = some k → B ≤ k) : Below B w0 w' :=
  ⟨h.2.1.trans hb.os, h.2.2.1.trans hb.tape, h.2.2.2.1.trans hb.output, Nat.le_trans hb.size h.1, fun k hk => (h.2.2.2.2 k (by omega) (fun e => by have := hv k e.symm; omega)).trans (hb.block k hk)⟩
theorem bag_app {ops : Array Oper} {rest : List Oper} {o : Oper} {a : Act} {Q : Exit → Act → World → Prop} {base : Nat} {w : World} {v : Value} {L G : List F} {cs' : List Value} {arr : Array Value} (hgd : o.guard = none) (s x : Operand) (t : TypeId)
    (ho : o.op = .call { callee := .builtin .append, args := #[s, x], argTypes := #[t, t] }) (ht : Tryz.prog.underlying t = some (.slice 74))
    (hs : a.eval s = v) (n m c : Nat) (hx : a.eval x = .slice (some ⟨w.heap.size, 0, none⟩) m c) (harr : arr.toList = cs') (hbag : Bag base w v L)
    (hG : FC (fun b => base ≤ b ∧ b < w.heap.size ∧ some b ≠ v.ownBlock) w G cs') (hn : L.length = n) (hm : G.length = m) (hm0 : 0 < m) (hb : n + m ≤ 1000000000) (hbase : base ≤ w.heap.size)
    (h : ∀ g cap w', Bag base w' (.slice (some ⟨g, 0, none⟩) (n + m) cap) (L ++ G) → Grew v w w' → wpList Tryz.prog ops Q rest (a.put o.dst (.slice (some ⟨g, 0, none⟩) (n + m) cap)) w') :
    wpList Tryz.prog ops Q (o :: rest) a (w.alloc (.cells arr 74)) := by
  subst hn hm harr
  obtain ⟨iF, hiF, hzF, hsF, hbF⟩ := infoF
  have hbag' := hbag
  obtain ⟨cs, hown, hFC⟩ := hbag
  refine wpList_append_lies _ hgd s x t ho base 74 iF _ 3 48 ht hiF hzF hsF hbF rfl (by omega) v L.length cs hs (hown.alloc _) ⟨w.heap.size, 0, none⟩ G.length c arr.toList hx hG.len (World.news_of_block (heap_alloc_at w _)) hG.one hm0 (by unfold maxLen; omega) (by omega) (by simp; omega) (w.heap.size + 1) (by simp) ?_
  intro g cap w' hown' hgrow hat hlt
  have hsz := hgrow.size
  rw [size_alloc] at hsz
  have hgr : w.grownBy w' v.ownBlock := ⟨hgrow.os, hgrow.tape, hgrow.output, by omega, fun k h1 h2 => (hgrow.block k (by rw [size_alloc]; omega) h2).trans (heap_alloc_lt w _ _ h1)⟩
  refine h g cap w' (Bag.pushG hFC hG hown' hgr ?_) ⟨hgr.size, hgr.os, hgr.tape, hgr.output, hgr.block⟩
  rcases hat with h | h
  · exact .inl h
  · right; omega
theorem FC.texts {ok : Nat → Prop} {w : World} (s : ByteArray) : FC ok w [txt s.data.toList] [.bool false, .string s, .slice none 0 0] := ⟨_, _, _, [], rfl, FK.text _ _ _, rfl⟩
end Go.Proofs.YtbiioaggilaebaaGreatDoor.Tm
