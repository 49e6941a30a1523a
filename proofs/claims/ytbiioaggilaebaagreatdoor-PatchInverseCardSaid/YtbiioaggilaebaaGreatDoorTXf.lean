/- What LawPatchInverse lean on, part f of 29: the texts Base, Shelf, TmP, RefA, Sh2, Err, CardW. -/
import Derived.Test.YtbiioaggilaebaaGreatDoorTX0
import Derived.WalkKit
import Derived.WalkSpells
import Derived.Below
import Derived.BigQuiet
import Derived.Deep.QuietTactic
import Derived.Deep.Draws
import Derived.BigRegion
import Derived.KernelRfl
import Derived.Lib.Hide
import Derived.Shelf.Strings.Builder1
import Derived.Shelf.Strings.Builder2
import Derived.Shelf.Strings.Trim
import Derived.Shelf.Small.Utf8
import Derived.Shelf.Small.Bits
import Derived.Shelf.Small.Strs
import Derived.Shelf.Strings.BuilderF
import Derived.Shelf.Strings.BuilderK
import Derived.Shelf.Strings.Builder2Cap
import Derived.Shelf.Strconv.Atoi
import Derived.Shelf.Strconv.Itoa0
import Derived.Shelf.Strconv.Itoa1
import Derived.Shelf.LaysM
import Derived.Shelf.Strconv.Itoa2
import Derived.Shelf.Strconv.Itoa3
import Derived.Shelf.Strconv.AtoiErrFast
import Derived.Shelf.Strconv.ParseIntEmpty
import Derived.Shelf.Strconv.AtoiFail
import Derived.Shelf.Strconv.Clone
import Derived.Shelf.Strconv.SyntaxError
import Derived.Shelf.LaysC
import Derived.Shelf.Strconv.ToError
import Derived.Shelf.Strconv.AtoiErr
import Derived.Shelf.Strconv.ErrVar
import Derived.Shelf.Strconv.Lower
import Derived.Shelf.Strconv.ParseUint10
import Derived.Shelf.Strconv.ParseUint10Empty
import Derived.Shelf.Strconv.ParseUint10Any
import Derived.Shelf.Strconv.ParseInt10
import Derived.Shelf.Strconv.AtoiLong
import Derived.Shelf.Strconv.AtoiInnerAll
import Derived.Shelf.Strconv.RangeError
import Derived.Shelf.Strconv.ToErrorRange
import Derived.Shelf.Strconv.AtoiAll
import Derived.Shelf.Strconv.ErrVarAll
import Derived.Shelf.Strconv.ParseUintEmpty
import Derived.Shelf.Strconv.ParseUint10b64
import Derived.Shelf.Strconv.ParseUint10b32
import Derived.Shelf.Strconv.ParseUint10b16
import Derived.Shelf.Strconv.ParseUint10b8
import Derived.Shelf.Strconv.ParseUint10At
import Derived.Shelf.Strconv.ParseInt10At64
import Derived.Shelf.Strconv.ParseInt10At32
import Derived.Shelf.Strconv.ParseInt10At16
import Derived.Shelf.Strconv.ParseInt10At8
import Derived.Shelf.Strconv.ParseInt10All
import Derived.Shelf.Strings.Search1
import Derived.Shelf.Strings.Search2
import Derived.Shelf.Strings.Search3
import Derived.Shelf.Strings.Shaped
import Derived.Shelf.Strings.Prefix
import Derived.Shelf.Strings.Runes
import Derived.Shelf.Strings.AsciiSet
import Derived.Shelf.Bits.Mul64
import Derived.Shelf.Strings.Repeat
import Derived.Shelf.Unicode.DecodeSlow
import Derived.Shelf.Strings.BuilderCap
import Derived.Test.YtbiioaggilaebaaGreatDoorProg
import Derived.Lib.ItoaLen
import Derived.Shelf.Sort.Plain
import Derived.Shelf.Slices.CompactS
import Derived.Shelf.Slices.In.SortNone
import Derived.Test.YtbiioaggilaebaaGreatDoorChecked
import Derived.LaidEql
import Derived.Stop.Asserts
import Derived.RowKitTokens
import Derived.SizedLaws
import Derived.HandedShaped
set_option linter.all false
set_option maxRecDepth 100000
set_option maxHeartbeats 16000000
namespace Go.Proofs.YtbiioaggilaebaaGreatDoor.B
open Go.RowKit
structure Tch (S : Nat -> Prop) (w w' : World) : Prop where
 os : w'.os = w.os
 tape : w'.tape = w.tape
 output : w'.output = w.output
 size : w.heap.size <= w'.heap.size
 block : ∀ k, k < w.heap.size -> ¬ S k -> w'.heap[k]? = w.heap[k]?
theorem heap_set (w : World) (b off : Nat) (v : Value) (cs : Array Value) (t : TypeId) (fz : Nat × Nat) (h : w.heap[b]? = some (.cells cs t fz)) :
 (w.setCell ⟨b, off, none⟩ v).heap[b]? = some (.cells (cs.setIfInBounds off v) t fz) := by
 simp [World.setCell, Array.getElem?_modify, h]
theorem heap_set_ne (w : World) (a : Addr) (v : Value) (k : Nat) (h : k ≠ a.block) : (w.setCell a v).heap[k]? = w.heap[k]? := Below.heap_setCell w a v k h
theorem heap_alloc_lt (w : World) (o : Obj) (k : Nat) (h : k < w.heap.size) : (w.alloc o).heap[k]? = w.heap[k]? := Below.heap_alloc w o k h
theorem heap_alloc_at (w : World) (o : Obj) : (w.alloc o).heap[w.heap.size]? = some o := by
 show (w.heap.push o)[w.heap.size]? = _
 rw [Array.getElem?_push, if_pos rfl]
theorem heap_lt {w : World} {b : Nat} {o : Obj} (h : w.heap[b]? = some o) : b < w.heap.size := (Array.getElem?_eq_some_iff.1 h).1
theorem size_set (w : World) (a : Addr) (v : Value) : (w.setCell a v).heap.size = w.heap.size := by simp [World.setCell]
theorem cell_of {w : World} {b : Nat} {cs : Array Value} {t : TypeId} {fz : Nat × Nat} (h : w.heap[b]? = some (.cells cs t fz)) (i : Nat) : w.cell? ⟨b, i, none⟩ = cs[i]? := by
 simp [World.cell?, h]
theorem fr_of {w : World} {b : Nat} {cs : Array Value} {t : TypeId} (h : w.heap[b]? = some (.cells cs t (0, 0))) (i : Nat) : w.frozen? ⟨b, i, none⟩ = false := by
 simp [World.frozen?, h]
theorem add0 (g j : Nat) : (⟨g, 0, none⟩ : Addr).add j = ⟨g, j, none⟩ := by unfold Addr.add; split <;> simp_all
theorem heap_set_some {w : World} {b : Nat} {cs : Array Value} {t : TypeId} {fz : Nat × Nat} (h : w.heap[b]? = some (.cells cs t fz)) (off : Nat) (v : Value) :
 (w.setCell ⟨b, off, none⟩ v).heap[b]? = some (.cells (cs.setIfInBounds off v) t fz) := heap_set w b off v cs t fz h
namespace Tch
variable {S S' : Nat -> Prop} {w w' w'' : World}
theorem refl (S : Nat -> Prop) (w : World) : Tch S w w := ⟨rfl, rfl, rfl, Nat.le_refl _, fun _ _ _ => rfl⟩
theorem trans (h : Tch S w w') (k : Tch S w' w'') : Tch S w w'' :=
 ⟨k.os.trans h.os, k.tape.trans h.tape, k.output.trans h.output, Nat.le_trans h.size k.size, fun i hi hs => (k.block i (Nat.lt_of_lt_of_le hi h.size) hs).trans (h.block i hi hs)⟩
theorem mono (h : Tch S w w') (hs : ∀ k, S k -> S' k) : Tch S' w w' := ⟨h.os, h.tape, h.output, h.size, fun i hi hn => h.block i hi fun e => hn (hs i e)⟩
theorem drew (h : Tch S w w') : Tch S w w'.drew := ⟨h.os, h.tape, h.output, h.size, h.block⟩
theorem drewN (h : Tch S w w') (n : Nat) : Tch S w (w'.drewN n) := ⟨h.os, h.tape, h.output, h.size, h.block⟩
theorem alloc (h : Tch S w w') (o : Obj) : Tch S w (w'.alloc o) :=
 h.trans ⟨rfl, rfl, rfl, by simp, fun k hk _ => Below.heap_alloc _ _ _ hk⟩
theorem setCell (h : Tch S w w') (a : Addr) (ha : a.block < w'.heap.size -> S a.block) (v : Value) : Tch S w (w'.setCell a v) :=
 h.trans ⟨rfl, rfl, rfl, by simp [World.setCell], fun k hk hs => Below.heap_setCell _ _ _ _ fun e => hs (e ▸ ha (e ▸ hk))⟩
theorem setNew (h : Tch S w w') (a : Addr) (ha : w.heap.size <= a.block) (v : Value) : Tch S w (w'.setCell a v) :=
 ⟨h.os, h.tape, h.output, by rw [size_set]; exact h.size, fun k hk hs => (Below.heap_setCell _ _ _ _ (by omega)).trans (h.block k hk hs)⟩
theorem of_below {B : Nat} (h : Below B w w') (hB : ∀ k, B <= k -> k < w.heap.size -> S k) : Tch S w w' :=
 ⟨h.os, h.tape, h.output, h.size, fun k hk hs => h.block k (Nat.lt_of_not_le fun e => hs (hB k e hk))⟩
theorem of_new (h : Below w.heap.size w w') : Tch S w w' := of_below h fun k h1 h2 => absurd h2 (by omega)
theorem below (h : Tch S w w') {B : Nat} (hB : B <= w.heap.size) (hs : ∀ k, S k -> k < w.heap.size -> B <= k) : Below B w w' :=
 ⟨h.os, h.tape, h.output, h.size, fun k hk => h.block k (by omega) fun e => absurd (hs k e (by omega)) (by omega)⟩
theorem cell (h : Tch S w w') {p : Addr} {v : Value} (hc : w.cell? p = some v) (hs : ¬ S p.block) : w'.cell? p = some v :=
 (World.cell?_of_block (h.block _ (World.block_lt_of_cell? w p hc) hs)).trans hc
theorem heap (h : Tch S w w') {b : Nat} {o : Obj} (hc : w.heap[b]? = some o) (hs : ¬ S b) : w'.heap[b]? = some o :=
 (h.block _ (heap_lt hc) hs).trans hc
end Tch
end Go.Proofs.YtbiioaggilaebaaGreatDoor.B
namespace Go.Proofs
open Go.Shelf
def Tryz.lays160_ren : Go.Shelf.Ren := ⟨fun | 160 => 145 | 232 => 163 | 231 => 162 | 227 => 164 | 234 => 166 | 233 => 165 | 236 => 168 | 235 => 167 | 228 => 184 | 271 => 187 | 151 => 186 | 197 => 185 | 120 => 201 | 152 => 200 | 260 => 199 | 137 => 146 | 119 => 207 | 224 => 190 | 225 => 189 | 217 => 169 | 266 => 188 | n => n, fun | 9 => 9 | 4 => 4 | 3 => 3 | 5 => 5 | 117 => 226 | 116 => 225 | 0 => 0 | 124 => 229 | 21 => 21 | 105 => 246 | 46 => 68 | 119 => 265 | 139 => 268 | 138 => 267 | n => n, fun | 3 => 5 | 4 => 6 | n => n⟩
theorem Tryz.lays160 : Go.Proofs.Lays.n160 Tryz.prog Tryz.lays160_ren := {
 mixed := by kernel_rfl
 f119 := Tryz.func207.trans (congrArg some (by kernel_rfl))
 f120 := Tryz.func201.trans (congrArg some (by kernel_rfl))
 f137 := Tryz.func146.trans (congrArg some (by kernel_rfl))
 f151 := Tryz.func186.trans (congrArg some (by kernel_rfl))
 f152 := Tryz.func200.trans (congrArg some (by kernel_rfl))
 f160 := Tryz.func145.trans (congrArg some (by kernel_rfl))
 f197 := Tryz.func185.trans (congrArg some (by kernel_rfl))
 f217 := Tryz.func169.trans (congrArg some (by kernel_rfl))
 f224 := Tryz.func190.trans (congrArg some (by kernel_rfl))
 f225 := Tryz.func189.trans (congrArg some (by kernel_rfl))
 f227 := Tryz.func164.trans (congrArg some (by kernel_rfl))
 f228 := Tryz.func184.trans (congrArg some (by kernel_rfl))
 f231 := Tryz.func162.trans (congrArg some (by kernel_rfl))
 f232 := Tryz.func163.trans (congrArg some (by kernel_rfl))
 f233 := Tryz.func165.trans (congrArg some (by kernel_rfl))
 f234 := Tryz.func166.trans (congrArg some (by kernel_rfl))
 f235 := Tryz.func167.trans (congrArg some (by kernel_rfl))
 f236 := Tryz.func168.trans (congrArg some (by kernel_rfl))
 f260 := Tryz.func199.trans (congrArg some (by kernel_rfl))
 f266 := Tryz.func188.trans (congrArg some (by kernel_rfl))
 f271 := Tryz.func187.trans (congrArg some (by kernel_rfl))
 t0 := Tryz.underlying0
 a0 := Tryz.isAgg0
 z0 := Tryz.sizeOf0
 v0 := Tryz.zeroValue0
 t3 := Tryz.underlying3
 a3 := Tryz.isAgg3
 z3 := Tryz.sizeOf3
 v3 := Tryz.zeroValue3
 t4 := Tryz.underlying4
 a4 := Tryz.isAgg4
 z4 := Tryz.sizeOf4
 v4 := Tryz.zeroValue4
 t5 := Tryz.underlying5
 a5 := Tryz.isAgg5
 z5 := Tryz.sizeOf5
 v5 := Tryz.zeroValue5
 t9 := Tryz.underlying9
 a9 := Tryz.isAgg9
 z9 := Tryz.sizeOf9
 v9 := Tryz.zeroValue9
 t21 := Tryz.underlying21
 a21 := Tryz.isAgg21
 z21 := Tryz.sizeOf21
 v21 := Tryz.zeroValue21
 t46 := Tryz.underlying68
 a46 := Tryz.isAgg68
 z46 := Tryz.sizeOf68
 v46 := Tryz.zeroValue68
 t105 := Tryz.underlying246
 a105 := Tryz.isAgg246
 z105 := Tryz.sizeOf246
 v105 := Tryz.zeroValue246
 t116 := Tryz.underlying225
 a116 := Tryz.isAgg225
 z116 := Tryz.sizeOf225
 t117 := Tryz.underlying226
 a117 := Tryz.isAgg226
 z117 := Tryz.sizeOf226
 v117 := Tryz.zeroValue226
 t119 := Tryz.underlying265
 a119 := Tryz.isAgg265
 z119 := Tryz.sizeOf265
 t124 := Tryz.underlying229
 a124 := Tryz.isAgg229
 z124 := Tryz.sizeOf229
 v124 := Tryz.zeroValue229
 t138 := Tryz.underlying267
 a138 := Tryz.isAgg267
 z138 := Tryz.sizeOf267
 v138 := Tryz.zeroValue267
 t139 := Tryz.underlying268
 a139 := Tryz.isAgg268
 z139 := Tryz.sizeOf268
 v139 := Tryz.zeroValue268
 g3 := by kernel_rfl
 g4 := by kernel_rfl }
def Tryz.lays137_ren : Go.Shelf.Ren := ⟨fun | 137 => 146 | 217 => 169 | 266 => 188 | n => n, fun | 9 => 9 | 5 => 5 | 3 => 3 | n => n, fun | n => n⟩
theorem Tryz.lays137 : Go.Proofs.Lays.n137 Tryz.prog Tryz.lays137_ren := {
 mixed := by kernel_rfl
 f137 := Tryz.func146.trans (congrArg some (by kernel_rfl))
 f217 := Tryz.func169.trans (congrArg some (by kernel_rfl))
 f266 := Tryz.func188.trans (congrArg some (by kernel_rfl))
 t3 := Tryz.underlying3
 a3 := Tryz.isAgg3
 z3 := Tryz.sizeOf3
 v3 := Tryz.zeroValue3
 t5 := Tryz.underlying5
 a5 := Tryz.isAgg5
 z5 := Tryz.sizeOf5
 v5 := Tryz.zeroValue5
 t9 := Tryz.underlying9
 a9 := Tryz.isAgg9
 z9 := Tryz.sizeOf9
 v9 := Tryz.zeroValue9 }
open Go.RowKit in
theorem Tryz.strings_IndexByte (s : ByteArray) (c : Int) (w : World) :
 Calls Tryz.prog 146 #[.string s, .int .u8 c] w fun e w' => e = .returned (.int .i64 (Lib.indexByte s.data.toList c.toNat.toUInt8)) /\ w' = w := Any.strings_IndexByte Tryz.lays137 s c w
def Tryz.laysM171_ren : Go.Shelf.Ren := ⟨fun | 171 => 77 | 243 => 121 | 246 => 149 | 283 => 171 | 284 => 172 | 285 => 173 | 286 => 174 | 129 => 110 | 317 => 192 | 318 => 193 | 319 => 194 | 320 => 195 | 337 => 203 | 338 => 204 | n => n, fun | 3 => 3 | 9 => 9 | 2 => 2 | 4 => 4 | 171 => 230 | 0 => 0 | 53 => 137 | 37 => 69 | 5 => 5 | 173 => 232 | 212 => 251 | 51 => 138 | 20 => 20 | 213 => 252 | 46 => 68 | 232 => 270 | 233 => 271 | n => n, fun | 17 => 2 | 18 => 7 | 19 => 8 | n => n⟩
theorem Tryz.laysM171 : Go.Proofs.LaysM.n171 Tryz.prog Tryz.laysM171_ren := {
 mixed := by kernel_rfl
 f129 := Tryz.func110.trans (congrArg some (by kernel_rfl))
 f171 := Tryz.func77.trans (congrArg some (by kernel_rfl))
 f243 := Tryz.func121.trans (congrArg some (by kernel_rfl))
 f246 := Tryz.func149.trans (congrArg some (by kernel_rfl))
 f283 := Tryz.func171.trans (congrArg some (by kernel_rfl))
 f284 := Tryz.func172.trans (congrArg some (by kernel_rfl))
 f285 := Tryz.func173.trans (congrArg some (by kernel_rfl))
 f286 := Tryz.func174.trans (congrArg some (by kernel_rfl))
 f317 := Tryz.func192.trans (congrArg some (by kernel_rfl))
 f318 := Tryz.func193.trans (congrArg some (by kernel_rfl))
 f319 := Tryz.func194.trans (congrArg some (by kernel_rfl))
 f320 := Tryz.func195.trans (congrArg some (by kernel_rfl))
 f337 := Tryz.func203.trans (congrArg some (by kernel_rfl))
 f338 := Tryz.func204.trans (congrArg some (by kernel_rfl))
 t0 := Tryz.underlying0
 a0 := Tryz.isAgg0
 z0 := Tryz.sizeOf0
 v0 := Tryz.zeroValue0
 t2 := Tryz.underlying2
 a2 := Tryz.isAgg2
 z2 := Tryz.sizeOf2
 v2 := Tryz.zeroValue2
 t3 := Tryz.underlying3
 a3 := Tryz.isAgg3
 z3 := Tryz.sizeOf3
 v3 := Tryz.zeroValue3
 t4 := Tryz.underlying4
 a4 := Tryz.isAgg4
 z4 := Tryz.sizeOf4
 v4 := Tryz.zeroValue4
 t5 := Tryz.underlying5
 a5 := Tryz.isAgg5
 z5 := Tryz.sizeOf5
 v5 := Tryz.zeroValue5
 t9 := Tryz.underlying9
 a9 := Tryz.isAgg9
 z9 := Tryz.sizeOf9
 v9 := Tryz.zeroValue9
 t20 := Tryz.underlying20
 a20 := Tryz.isAgg20
 z20 := Tryz.sizeOf20
 v20 := Tryz.zeroValue20
 t37 := Tryz.underlying69
 a37 := Tryz.isAgg69
 z37 := Tryz.sizeOf69
 v37 := Tryz.zeroValue69
 t46 := Tryz.underlying68
 a46 := Tryz.isAgg68
 z46 := Tryz.sizeOf68
 v46 := Tryz.zeroValue68
 t51 := Tryz.underlying138
 a51 := Tryz.isAgg138
 z51 := Tryz.sizeOf138
 v51 := Tryz.zeroValue138
 t53 := Tryz.underlying137
 a53 := Tryz.isAgg137
 z53 := Tryz.sizeOf137
 v53 := Tryz.zeroValue137
 t171 := Tryz.underlying230
 a171 := Tryz.isAgg230
 z171 := Tryz.sizeOf230
 v171 := Tryz.zeroValue230
 t173 := Tryz.underlying232
 a173 := Tryz.isAgg232
 z173 := Tryz.sizeOf232
 v173 := Tryz.zeroValue232
 t212 := Tryz.underlying251
 a212 := Tryz.isAgg251
 z212 := Tryz.sizeOf251
 v212 := Tryz.zeroValue251
 t213 := Tryz.underlying252
 a213 := Tryz.isAgg252
 z213 := Tryz.sizeOf252
 t232 := Tryz.underlying270
 a232 := Tryz.isAgg270
 z232 := Tryz.sizeOf270
 v232 := Tryz.zeroValue270
 t233 := Tryz.underlying271
 a233 := Tryz.isAgg271
 z233 := Tryz.sizeOf271
 v233 := Tryz.zeroValue271
 g17 := by kernel_rfl
 g18 := by kernel_rfl
 g19 := by kernel_rfl
 i0 := by kernel_rfl
 i2 := by kernel_rfl
 i3 := by kernel_rfl
 i4 := by kernel_rfl
 i5 := by kernel_rfl
 i9 := by kernel_rfl
 i20 := by kernel_rfl
 i37 := by kernel_rfl
 i46 := by kernel_rfl
 i51 := by kernel_rfl
 i53 := by kernel_rfl
 i171 := by kernel_rfl
 i173 := by kernel_rfl
 i212 := by kernel_rfl
 i232 := by kernel_rfl
 i233 := by kernel_rfl
 m17 := by kernel_rfl
 m18 := by kernel_rfl
 m19 := by kernel_rfl }
open Go.RowKit Go.Sort Go.Lib in
theorem Tryz.strconv_Itoa (n : Int) (h0 : -9223372036854775808 <= n) (h1 : n <= 9223372036854775807) (w : World) (htab : Lib.TabIs Tryz.prog w "internal/strconv.uint64pow10" .u64 Lib.pow10Tab) :
 Calls Tryz.prog 77 #[.int .i64 n] w fun e w' => e = .returned (.string ⟨(Lib.itoa n).toArray⟩) /\ ∃ k os, w' = grow (w.drewN k) os := Any.strconv_Itoa Tryz.laysM171 n h0 h1 w htab
def Tryz.laysC172_ren : Go.Shelf.Ren := ⟨fun | 172 => 134 | 244 => 155 | 245 => 156 | 247 => 178 | 279 => 179 | 280 => 180 | 281 => 181 | 282 => 182 | 287 => 196 | 316 => 197 | 171 => 77 | 205 => 198 | 321 => 205 | 322 => 206 | 243 => 121 | 246 => 149 | 283 => 171 | 284 => 172 | 285 => 173 | 286 => 174 | 129 => 110 | 317 => 192 | 318 => 193 | 319 => 194 | 320 => 195 | 337 => 203 | 338 => 204 | n => n, fun | 9 => 9 | 3 => 3 | 75 => 29 | 76 => 145 | 4 => 4 | 5 => 5 | 167 => 238 | 37 => 69 | 0 => 0 | 85 => 239 | 2 => 2 | 168 => 241 | 53 => 137 | 175 => 254 | 46 => 68 | 210 => 257 | 127 => 190 | 145 => 264 | 143 => 262 | 21 => 21 | 171 => 230 | 173 => 232 | 212 => 251 | 51 => 138 | 20 => 20 | 213 => 252 | 232 => 270 | 233 => 271 | 80 => 132 | n => n, fun | 15 => 3 | 16 => 4 | 17 => 2 | 18 => 7 | 19 => 8 | n => n⟩
theorem Tryz.laysC172 : Go.Proofs.LaysC.n172 Tryz.prog Tryz.laysC172_ren := {
 mixed := by kernel_rfl
 f129 := Tryz.func110.trans (congrArg some (by kernel_rfl))
 f171 := Tryz.func77.trans (congrArg some (by kernel_rfl))
 f172 := Tryz.func134.trans (congrArg some (by kernel_rfl))
 f205 := Tryz.func198.trans (congrArg some (by kernel_rfl))
 f243 := Tryz.func121.trans (congrArg some (by kernel_rfl))
 f244 := Tryz.func155.trans (congrArg some (by kernel_rfl))
 f245 := Tryz.func156.trans (congrArg some (by kernel_rfl))
 f246 := Tryz.func149.trans (congrArg some (by kernel_rfl))
 f247 := Tryz.func178.trans (congrArg some (by kernel_rfl))
 f279 := Tryz.func179.trans (congrArg some (by kernel_rfl))
 f280 := Tryz.func180.trans (congrArg some (by kernel_rfl))
 f281 := Tryz.func181.trans (congrArg some (by kernel_rfl))
 f282 := Tryz.func182.trans (congrArg some (by kernel_rfl))
 f283 := Tryz.func171.trans (congrArg some (by kernel_rfl))
 f284 := Tryz.func172.trans (congrArg some (by kernel_rfl))
 f285 := Tryz.func173.trans (congrArg some (by kernel_rfl))
 f286 := Tryz.func174.trans (congrArg some (by kernel_rfl))
 f287 := Tryz.func196.trans (congrArg some (by kernel_rfl))
 f316 := Tryz.func197.trans (congrArg some (by kernel_rfl))
 f317 := Tryz.func192.trans (congrArg some (by kernel_rfl))
 f318 := Tryz.func193.trans (congrArg some (by kernel_rfl))
 f319 := Tryz.func194.trans (congrArg some (by kernel_rfl))
 f320 := Tryz.func195.trans (congrArg some (by kernel_rfl))
 f321 := Tryz.func205.trans (congrArg some (by kernel_rfl))
 f322 := Tryz.func206.trans (congrArg some (by kernel_rfl))
 f337 := Tryz.func203.trans (congrArg some (by kernel_rfl))
 f338 := Tryz.func204.trans (congrArg some (by kernel_rfl))
 t0 := Tryz.underlying0
 a0 := Tryz.isAgg0
 z0 := Tryz.sizeOf0
 v0 := Tryz.zeroValue0
 t2 := Tryz.underlying2
 a2 := Tryz.isAgg2
 z2 := Tryz.sizeOf2
 v2 := Tryz.zeroValue2
 t3 := Tryz.underlying3
 a3 := Tryz.isAgg3
 z3 := Tryz.sizeOf3
 v3 := Tryz.zeroValue3
 t4 := Tryz.underlying4
 a4 := Tryz.isAgg4
 z4 := Tryz.sizeOf4
 v4 := Tryz.zeroValue4
 t5 := Tryz.underlying5
 a5 := Tryz.isAgg5
 z5 := Tryz.sizeOf5
 v5 := Tryz.zeroValue5
 t9 := Tryz.underlying9
 a9 := Tryz.isAgg9
 z9 := Tryz.sizeOf9
 v9 := Tryz.zeroValue9
 t20 := Tryz.underlying20
 a20 := Tryz.isAgg20
 z20 := Tryz.sizeOf20
 v20 := Tryz.zeroValue20
 t21 := Tryz.underlying21
 a21 := Tryz.isAgg21
 z21 := Tryz.sizeOf21
 v21 := Tryz.zeroValue21
 t37 := Tryz.underlying69
 a37 := Tryz.isAgg69
 z37 := Tryz.sizeOf69
 v37 := Tryz.zeroValue69
 t46 := Tryz.underlying68
 a46 := Tryz.isAgg68
 z46 := Tryz.sizeOf68
 v46 := Tryz.zeroValue68
 t51 := Tryz.underlying138
 a51 := Tryz.isAgg138
 z51 := Tryz.sizeOf138
 v51 := Tryz.zeroValue138
 t53 := Tryz.underlying137
 a53 := Tryz.isAgg137
 z53 := Tryz.sizeOf137
 v53 := Tryz.zeroValue137
 t75 := Tryz.underlying29
 a75 := Tryz.isAgg29
 z75 := Tryz.sizeOf29
 v75 := Tryz.zeroValue29
 t76 := Tryz.underlying145
 a76 := Tryz.isAgg145
 z76 := Tryz.sizeOf145
 v76 := Tryz.zeroValue145
 t85 := Tryz.underlying239
 a85 := Tryz.isAgg239
 z85 := Tryz.sizeOf239
 v85 := Tryz.zeroValue239
 t127 := Tryz.underlying190
 a127 := Tryz.isAgg190
 z127 := Tryz.sizeOf190
 v127 := Tryz.zeroValue190
 t143 := Tryz.underlying262
 a143 := Tryz.isAgg262
 z143 := Tryz.sizeOf262
 v143 := Tryz.zeroValue262
 t145 := Tryz.underlying264
 a145 := Tryz.isAgg264
 z145 := Tryz.sizeOf264
 v145 := Tryz.zeroValue264
 t167 := Tryz.underlying238
 a167 := Tryz.isAgg238
 z167 := Tryz.sizeOf238
 v167 := Tryz.zeroValue238
 t168 := Tryz.underlying241
 a168 := Tryz.isAgg241
 z168 := Tryz.sizeOf241
 v168 := Tryz.zeroValue241
 t171 := Tryz.underlying230
 a171 := Tryz.isAgg230
 z171 := Tryz.sizeOf230
 v171 := Tryz.zeroValue230
 t173 := Tryz.underlying232
 a173 := Tryz.isAgg232
 z173 := Tryz.sizeOf232
 v173 := Tryz.zeroValue232
 t175 := Tryz.underlying254
 a175 := Tryz.isAgg254
 z175 := Tryz.sizeOf254
 v175 := Tryz.zeroValue254
 t210 := Tryz.underlying257
 a210 := Tryz.isAgg257
 z210 := Tryz.sizeOf257
 v210 := Tryz.zeroValue257
 t212 := Tryz.underlying251
 a212 := Tryz.isAgg251
 z212 := Tryz.sizeOf251
 v212 := Tryz.zeroValue251
 t213 := Tryz.underlying252
 a213 := Tryz.isAgg252
 z213 := Tryz.sizeOf252
 t232 := Tryz.underlying270
 a232 := Tryz.isAgg270
 z232 := Tryz.sizeOf270
 v232 := Tryz.zeroValue270
 t233 := Tryz.underlying271
 a233 := Tryz.isAgg271
 z233 := Tryz.sizeOf271
 v233 := Tryz.zeroValue271
 g15 := by kernel_rfl
 g16 := by kernel_rfl
 g17 := by kernel_rfl
 g18 := by kernel_rfl
 g19 := by kernel_rfl
 t80 := Tryz.underlying132
 a80 := Tryz.isAgg132
 z80 := Tryz.sizeOf132
 v80 := Tryz.zeroValue132
 i0 := by kernel_rfl
 i2 := by kernel_rfl
 i3 := by kernel_rfl
 i4 := by kernel_rfl
 i5 := by kernel_rfl
 i9 := by kernel_rfl
 i20 := by kernel_rfl
 i21 := by kernel_rfl
 i37 := by kernel_rfl
 i46 := by kernel_rfl
 i51 := by kernel_rfl
 i53 := by kernel_rfl
 i75 := by kernel_rfl
 i76 := by kernel_rfl
 i80 := by kernel_rfl
 i85 := by kernel_rfl
 i127 := by kernel_rfl
 i143 := by kernel_rfl
 i145 := by kernel_rfl
 i167 := by kernel_rfl
 i168 := by kernel_rfl
 i171 := by kernel_rfl
 i173 := by kernel_rfl
 i175 := by kernel_rfl
 i210 := by kernel_rfl
 i212 := by kernel_rfl
 i232 := by kernel_rfl
 i233 := by kernel_rfl
 m15 := by kernel_rfl
 m16 := by kernel_rfl
 m17 := by kernel_rfl
 m18 := by kernel_rfl
 m19 := by kernel_rfl
 c0 := by kernel_rfl
 c2 := by kernel_rfl
 c3 := by kernel_rfl
 c4 := by kernel_rfl
 c5 := by kernel_rfl
 c9 := by kernel_rfl
 c20 := by kernel_rfl
 c21 := by kernel_rfl
 c37 := by kernel_rfl
 c46 := by kernel_rfl
 c51 := by kernel_rfl
 c53 := by kernel_rfl
 c75 := by kernel_rfl
 c76 := by kernel_rfl
 c80 := by kernel_rfl
 c85 := by kernel_rfl
 c127 := by kernel_rfl
 c143 := by kernel_rfl
 c145 := by kernel_rfl
 c167 := by kernel_rfl
 c168 := by kernel_rfl
 c171 := by kernel_rfl
 c173 := by kernel_rfl
 c175 := by kernel_rfl
 c210 := by kernel_rfl
 c212 := by kernel_rfl
 c213 := by kernel_rfl
 c232 := by kernel_rfl
 c233 := by kernel_rfl }
open Go.RowKit in
theorem Tryz.strconv_Atoi_ok (s : ByteArray) (hmax : s.size <= 9223372036854775806) (v : Int) (h : Lib.atoiAll s.data.toList = .ok v) (w : World) :
 Calls Tryz.prog 134 #[.string s] w fun e w' => e = .returned (.tuple #[.int .i64 v, .nilIface]) /\ (w' = w \/ ∃ t, w' = Lib.bytesWorld w 5 t) := Any.strconv_Atoi_ok Tryz.laysC172 s hmax v h w
open Go.RowKit in
theorem Tryz.strconv_Atoi_range (s : ByteArray) (hlim : s.size <= 281474976710656) (h : Lib.atoiAll s.data.toList = .range) (ev : Value) (w : World) (hv : w.cell? ⟨4, 0, none⟩ = some ev) (hev : ev = .nilIface \/ ∃ te pe, ev = .iface te pe) :
 Calls Tryz.prog 134 #[.string s] w fun e w' => ∃ N, e = .returned (.tuple #[.int .i64 (Lib.atoiSat s.data.toList), .iface 241 (.pointer (some ⟨N, 0, none⟩))]) /\ w.heap.size <= N /\ w'.heap[N]? = some (.cells #[.string ⟨#[65, 116, 111, 105]⟩, .string s, ev] 257 (0, 0)) /\ Below w.heap.size w w' := Any.strconv_Atoi_range Tryz.laysC172 s hlim h ev w hv hev
def Tryz.lays144_ren : Go.Shelf.Ren := ⟨fun | 144 => 116 | 143 => 147 | 219 => 170 | 217 => 169 | 225 => 189 | 224 => 190 | 267 => 191 | 266 => 188 | 314 => 202 | n => n, fun | 9 => 9 | 4 => 4 | 3 => 3 | 5 => 5 | 46 => 68 | 146 => 219 | 51 => 138 | n => n, fun | 1 => 1 | n => n⟩
theorem Tryz.lays144 : Go.Proofs.Lays.n144 Tryz.prog Tryz.lays144_ren := {
 mixed := by kernel_rfl
 f143 := Tryz.func147.trans (congrArg some (by kernel_rfl))
 f144 := Tryz.func116.trans (congrArg some (by kernel_rfl))
 f217 := Tryz.func169.trans (congrArg some (by kernel_rfl))
 f219 := Tryz.func170.trans (congrArg some (by kernel_rfl))
 f224 := Tryz.func190.trans (congrArg some (by kernel_rfl))
 f225 := Tryz.func189.trans (congrArg some (by kernel_rfl))
 f266 := Tryz.func188.trans (congrArg some (by kernel_rfl))
 f267 := Tryz.func191.trans (congrArg some (by kernel_rfl))
 f314 := Tryz.func202.trans (congrArg some (by kernel_rfl))
 t3 := Tryz.underlying3
 a3 := Tryz.isAgg3
 z3 := Tryz.sizeOf3
 v3 := Tryz.zeroValue3
 t4 := Tryz.underlying4
 a4 := Tryz.isAgg4
 z4 := Tryz.sizeOf4
 v4 := Tryz.zeroValue4
 t5 := Tryz.underlying5
 a5 := Tryz.isAgg5
 z5 := Tryz.sizeOf5
 v5 := Tryz.zeroValue5
 t9 := Tryz.underlying9
 a9 := Tryz.isAgg9
 z9 := Tryz.sizeOf9
 v9 := Tryz.zeroValue9
 t46 := Tryz.underlying68
 a46 := Tryz.isAgg68
 z46 := Tryz.sizeOf68
 v46 := Tryz.zeroValue68
 t51 := Tryz.underlying138
 a51 := Tryz.isAgg138
 z51 := Tryz.sizeOf138
 v51 := Tryz.zeroValue138
 t146 := Tryz.underlying219
 a146 := Tryz.isAgg219
 z146 := Tryz.sizeOf219
 v146 := Tryz.zeroValue219
 g1 := by kernel_rfl }
open Go.RowKit Go.Lib in
theorem Tryz.strings_Contains_one (s : ByteArray) (c : UInt8) (w : World) :
 Calls Tryz.prog 116 #[.string s, .string ⟨#[c]⟩] w fun e w' => e = .returned (.bool (decide (0 <= Lib.indexByte s.data.toList c))) /\ w' = w := Any.strings_Contains_one Tryz.lays144 s c w
def Tryz.lays99_ren : Go.Shelf.Ren := ⟨fun | 99 => 132 | 206 => 154 | n => n, fun | 9 => 9 | 4 => 4 | 3 => 3 | n => n, fun | n => n⟩
theorem Tryz.lays99 : Go.Proofs.Lays.n99 Tryz.prog Tryz.lays99_ren := {
 mixed := by kernel_rfl
 f99 := Tryz.func132.trans (congrArg some (by kernel_rfl))
 f206 := Tryz.func154.trans (congrArg some (by kernel_rfl))
 t3 := Tryz.underlying3
 a3 := Tryz.isAgg3
 z3 := Tryz.sizeOf3
 v3 := Tryz.zeroValue3
 t4 := Tryz.underlying4
 a4 := Tryz.isAgg4
 z4 := Tryz.sizeOf4
 v4 := Tryz.zeroValue4
 t9 := Tryz.underlying9
 a9 := Tryz.isAgg9
 z9 := Tryz.sizeOf9
 v9 := Tryz.zeroValue9 }
open Go.RowKit Go.Lib in
theorem Tryz.strings_HasPrefix (s p : ByteArray) (w : World) :
 Calls Tryz.prog 132 #[.string s, .string p] w fun e w' => e = .returned (.bool (Lib.hasPrefix s.data.toList p.data.toList)) /\ w' = w := Any.strings_HasPrefix Tryz.lays99 s p w
def Tryz.lays105_ren : Go.Shelf.Ren := ⟨fun | 105 => 112 | 212 => 143 | 99 => 132 | 165 => 144 | 166 => 122 | 170 => 79 | 169 => 80 | 263 => 159 | 264 => 160 | 206 => 154 | 240 => 150 | 241 => 161 | 276 => 175 | 277 => 183 | n => n, fun | 9 => 9 | 3 => 3 | 4 => 4 | 20 => 20 | 0 => 0 | 46 => 68 | 109 => 206 | 5 => 5 | 72 => 127 | 76 => 145 | 51 => 138 | 146 => 219 | 53 => 137 | 148 => 221 | 70 => 125 | 37 => 69 | 75 => 29 | 127 => 190 | 164 => 101 | 80 => 132 | n => n, fun | n => n⟩
theorem Tryz.lays105 : Go.Proofs.Lays.n105 Tryz.prog Tryz.lays105_ren := {
 mixed := by kernel_rfl
 f99 := Tryz.func132.trans (congrArg some (by kernel_rfl))
 f105 := Tryz.func112.trans (congrArg some (by kernel_rfl))
 f165 := Tryz.func144.trans (congrArg some (by kernel_rfl))
 f166 := Tryz.func122.trans (congrArg some (by kernel_rfl))
 f169 := Tryz.func80.trans (congrArg some (by kernel_rfl))
 f170 := Tryz.func79.trans (congrArg some (by kernel_rfl))
 f206 := Tryz.func154.trans (congrArg some (by kernel_rfl))
 f212 := Tryz.func143.trans (congrArg some (by kernel_rfl))
 f240 := Tryz.func150.trans (congrArg some (by kernel_rfl))
 f241 := Tryz.func161.trans (congrArg some (by kernel_rfl))
 f263 := Tryz.func159.trans (congrArg some (by kernel_rfl))
 f264 := Tryz.func160.trans (congrArg some (by kernel_rfl))
 f276 := Tryz.func175.trans (congrArg some (by kernel_rfl))
 f277 := Tryz.func183.trans (congrArg some (by kernel_rfl))
 t0 := Tryz.underlying0
 a0 := Tryz.isAgg0
 z0 := Tryz.sizeOf0
 v0 := Tryz.zeroValue0
 t3 := Tryz.underlying3
 a3 := Tryz.isAgg3
 z3 := Tryz.sizeOf3
 v3 := Tryz.zeroValue3
 t4 := Tryz.underlying4
 a4 := Tryz.isAgg4
 z4 := Tryz.sizeOf4
 v4 := Tryz.zeroValue4
 t5 := Tryz.underlying5
 a5 := Tryz.isAgg5
 z5 := Tryz.sizeOf5
 v5 := Tryz.zeroValue5
 t9 := Tryz.underlying9
 a9 := Tryz.isAgg9
 z9 := Tryz.sizeOf9
 v9 := Tryz.zeroValue9
 t20 := Tryz.underlying20
 a20 := Tryz.isAgg20
 z20 := Tryz.sizeOf20
 v20 := Tryz.zeroValue20
 t37 := Tryz.underlying69
 a37 := Tryz.isAgg69
 z37 := Tryz.sizeOf69
 v37 := Tryz.zeroValue69
 t46 := Tryz.underlying68
 a46 := Tryz.isAgg68
 z46 := Tryz.sizeOf68
 v46 := Tryz.zeroValue68
 t51 := Tryz.underlying138
 a51 := Tryz.isAgg138
 z51 := Tryz.sizeOf138
 v51 := Tryz.zeroValue138
 t53 := Tryz.underlying137
 a53 := Tryz.isAgg137
 z53 := Tryz.sizeOf137
 v53 := Tryz.zeroValue137
 t70 := Tryz.underlying125
 a70 := Tryz.isAgg125
 z70 := Tryz.sizeOf125
 v70 := Tryz.zeroValue125
 t72 := Tryz.underlying127
 a72 := Tryz.isAgg127
 z72 := Tryz.sizeOf127
 v72 := Tryz.zeroValue127
 t75 := Tryz.underlying29
 a75 := Tryz.isAgg29
 z75 := Tryz.sizeOf29
 v75 := Tryz.zeroValue29
 t76 := Tryz.underlying145
 a76 := Tryz.isAgg145
 z76 := Tryz.sizeOf145
 v76 := Tryz.zeroValue145
 t109 := Tryz.underlying206
 a109 := Tryz.isAgg206
 z109 := Tryz.sizeOf206
 v109 := Tryz.zeroValue206
 t127 := Tryz.underlying190
 a127 := Tryz.isAgg190
 z127 := Tryz.sizeOf190
 v127 := Tryz.zeroValue190
 t146 := Tryz.underlying219
 a146 := Tryz.isAgg219
 z146 := Tryz.sizeOf219
 v146 := Tryz.zeroValue219
 t148 := Tryz.underlying221
 a148 := Tryz.isAgg221
 z148 := Tryz.sizeOf221
 v148 := Tryz.zeroValue221
 t164 := Tryz.underlying101
 a164 := Tryz.isAgg101
 z164 := Tryz.sizeOf101
 v164 := Tryz.zeroValue101 }
theorem Tryz.Builder_Extra_105 : Builder.Extra Tryz.prog Tryz.lays105_ren := {
 sizeBuilder := by kernel_rfl
 liesBuilder := by kernel_rfl
 t5 := Tryz.underlying5
 a5 := Tryz.isAgg5
 z5 := Tryz.sizeOf5
 v5 := Tryz.zeroValue5
 infoByte := by kernel_rfl
 cellsByte := by kernel_rfl
 sizeByte := by kernel_rfl
 neB5 := by decide }
open Go.RowKit Go.Lib in
theorem Tryz.strings_Repeat (s : ByteArray) (c : Nat) (w : World) (hc : c <= 9223372036854775807) (hlen : s.size * c <= 140737488355328) :
 Calls Tryz.prog 112 #[.string s, .int .i64 c] w fun e w' => e = .returned (.string ⟨(Lib.repeatL s.data.toList c).toArray⟩) /\ Below w.heap.size w w' := Any.strings_Repeat Tryz.lays105 Tryz.Builder_Extra_105 s c w hc hlen
end Go.Proofs
namespace Go.Proofs.YtbiioaggilaebaaGreatDoor.Tm
open Go Go.Lib
inductive F where
 | mk (list : Bool) (text : List UInt8) (items : List F)
mutual
def F.right : F -> Bool
 | .mk true t l => t.isEmpty && rights l
 | .mk false t l => l.isEmpty
def rights : List F -> Bool
 | [] => true
 | f :: l => f.right && rights l
end
mutual
def F.depth : F -> Nat
 | .mk true t l => depths l + 1
 | .mk false t l => 0
def depths : List F -> Nat
 | [] => 0
 | f :: l => max f.depth (depths l)
end
mutual
def F.bytes : F -> List UInt8
 | .mk true t l => 40 :: (bytess l ++ [41])
 | .mk false t l => decDigits t.length ++ 58 :: t
def bytess : List F -> List UInt8
 | [] => []
 | f :: l => f.bytes ++ bytess l
end
def txt (t : List UInt8) : F := .mk false t []
def lst (l : List F) : F := .mk true [] l
theorem dec_digit (n : Nat) : ∀ c ∈ decDigits n, 48 <= c.toNat /\ c.toNat <= 57 := by
 induction n using Nat.strongRecOn with
 | _ n ih =>
  intro c hc
  rw [decDigits] at hc
  split at hc
  . simp only [List.mem_singleton] at hc
    subst hc
    rw [UInt8.toNat_ofNat']
    omega
  . rcases List.mem_append.1 hc with hc | hc
    . exact ih (n / 10) (by omega) c hc
    . simp only [List.mem_singleton] at hc
      subst hc
      rw [UInt8.toNat_ofNat']
      omega
theorem dec_ne (n : Nat) : decDigits n ≠ [] := by
 rw [decDigits]
 split <;> simp
def val (l : List UInt8) : Nat := l.foldl (fun a c => 10 * a + (c.toNat - 48)) 0
theorem val_snoc (l : List UInt8) (c : UInt8) : val (l ++ [c]) = 10 * val l + (c.toNat - 48) := by simp [val, List.foldl_append]
theorem val_dec (n : Nat) : val (decDigits n) = n := by
 induction n using Nat.strongRecOn with
 | _ n ih =>
  rw [decDigits]
  split
  . show 10 * 0 + _ = _
    rw [UInt8.toNat_ofNat']
    omega
  . rw [val_snoc, ih (n / 10) (by omega), UInt8.toNat_ofNat']
    omega
theorem text_head (t : List UInt8) : ∃ c r, (F.mk false t []).bytes = c :: r /\ 48 <= c.toNat /\ c.toNat <= 57 := by
 unfold F.bytes
 obtain ⟨c, r, h⟩ := List.exists_cons_of_ne_nil (dec_ne t.length)
 rw [h]
 exact ⟨c, _, rfl, dec_digit t.length c (by rw [h]; simp)⟩
theorem form_head (f : F) (h : f.right = true) : ∃ c r, f.bytes = c :: r /\ (c = 40 \/ 48 <= c.toNat /\ c.toNat <= 57) := by
 match f, h with
 | .mk true t l, _ => exact ⟨40, _, by rw [F.bytes], .inl rfl⟩
 | .mk false t l, h =>
  unfold F.right at h
  have : l = [] := by simpa using h
  subst this
  obtain ⟨c, r, h1, h2⟩ := text_head t
  exact ⟨c, r, h1, .inr h2⟩
end Go.Proofs.YtbiioaggilaebaaGreatDoor.Tm
namespace Go.Proofs.YtbiioaggilaebaaGreatDoor.Ref
def val : List Nat -> Nat
 | [] => 0
 | x :: l => x + 65536 * val l
theorem val_append : ∀ a b : List Nat, val (a ++ b) = val a + 65536 ^ a.length * val b
 | [], b => by simp [val]
 | x :: a, b => by
  rw [List.cons_append, val, val, val_append a b, List.length_cons, Nat.pow_succ, Nat.mul_add, Nat.add_assoc]
  congr 2
  rw [<- Nat.mul_assoc, Nat.mul_comm 65536]
theorem val_set : ∀ (l : List Nat) (k y : Nat), k < l.length -> val (l.set k y) + l.getD k 0 * 65536 ^ k = val l + y * 65536 ^ k
 | [], k, y, h => absurd h (by simp)
 | x :: l, 0, y, _ => by simp [val]; omega
 | x :: l, k + 1, y, h => by
  have ih := val_set l k y (by simpa using h)
  simp only [List.set_cons_succ, val, List.getD_cons_succ, Nat.pow_succ]
  have e1 : l.getD k 0 * (65536 ^ k * 65536) = 65536 * (l.getD k 0 * 65536 ^ k) := by rw [<- Nat.mul_assoc, Nat.mul_comm]
  have e2 : y * (65536 ^ k * 65536) = 65536 * (y * 65536 ^ k) := by rw [<- Nat.mul_assoc, Nat.mul_comm]
  rw [e1, e2]
  omega
theorem val_zeros : ∀ n, val (List.replicate n 0) = 0
 | 0 => rfl
 | n + 1 => by rw [List.replicate_succ, val, val_zeros n]
theorem val_take_succ (l : List Nat) (k : Nat) (h : k < l.length) : val (l.take (k + 1)) = val (l.take k) + l.getD k 0 * 65536 ^ k := by
 rw [List.take_add_one, val_append, List.getD_eq_getElem?_getD, List.getElem?_eq_getElem h, List.length_take, Nat.min_eq_left (by omega)]
 simp [val, Nat.mul_comm]
theorem val_lt : ∀ l : List Nat, (∀ x ∈ l, x < 65536) -> val l < 65536 ^ l.length
 | [], _ => by simp [val]
 | x :: l, h => by
  have := val_lt l (fun y hy => h y (List.mem_cons_of_mem _ hy))
  have hx := h x (List.mem_cons_self)
  rw [val, List.length_cons, Nat.pow_succ]
  omega
theorem val_split (l : List Nat) (k : Nat) (h : k <= l.length) : val l = val (l.take k) + 65536 ^ k * val (l.drop k) := by
 have := val_append (l.take k) (l.drop k)
 rwa [List.take_append_drop, List.length_take, Nat.min_eq_left h] at this
theorem getD_set (l : List Nat) (i j y : Nat) (h : i < l.length) : (l.set i y).getD j 0 = if i = j then y else l.getD j 0 := by
 simp only [List.getD_eq_getElem?_getD, List.getElem?_set]
 by_cases e : i = j
 . subst e; simp [h]
 . simp [e]
structure Tim (a b : List Nat) (i j c : Nat) (o : List Nat) : Prop where
 len : o.length = a.length + b.length
 small : ∀ k, o.getD k 0 < 65536
 zero : ∀ k, i + b.length <= k -> o.getD k 0 = 0
 carry : c < 65536
 eq : val o + c * 65536 ^ (i + j) = val (a.take i) * val b + a.getD i 0 * 65536 ^ i * val (b.take j)
variable {a b : List Nat} {i j c : Nat} {o : List Nat}
theorem Tim.start (a b : List Nat) : Tim a b 0 0 0 (List.replicate (a.length + b.length) 0) := by
 have hz : ∀ k, (List.replicate (a.length + b.length) 0).getD k 0 = 0 := fun k => by
  rw [List.getD_eq_getElem?_getD, List.getElem?_replicate]; split <;> rfl
 exact ⟨by simp, fun k => by rw [hz]; omega, fun k _ => hz k, by omega, by simp [val_zeros, val]⟩
theorem Tim.step (h : Tim a b i j c o) (hi : i < a.length) (hj : j < b.length) (ha : a.getD i 0 < 65536) (hb : b.getD j 0 < 65536) :
 Tim a b i (j + 1) ((o.getD (i + j) 0 + a.getD i 0 * b.getD j 0 + c) / 65536) (o.set (i + j) ((o.getD (i + j) 0 + a.getD i 0 * b.getD j 0 + c) % 65536)) := by
 have hl := h.len
 have hx := h.small (i + j)
 have hc := h.carry
 have hm : a.getD i 0 * b.getD j 0 <= 65535 * 65535 := Nat.mul_le_mul (by omega) (by omega)
 have hs := val_set o (i + j) ((o.getD (i + j) 0 + a.getD i 0 * b.getD j 0 + c) % 65536) (by omega)
 have he := h.eq
 refine ⟨by simp [hl], fun k => ?_, fun k hk => ?_, ?_, ?_⟩
 . rw [getD_set _ _ _ _ (by omega)]; split
   . omega
   . exact h.small k
 . rw [getD_set _ _ _ _ (by omega), if_neg (by omega)]; exact h.zero k hk
 . omega
 . rw [val_take_succ b j hj, Nat.mul_add]
   have e3 : a.getD i 0 * 65536 ^ i * (b.getD j 0 * 65536 ^ j) = a.getD i 0 * b.getD j 0 * 65536 ^ (i + j) := by
    rw [Nat.pow_add, Nat.mul_mul_mul_comm]
   have e4 : ((o.getD (i + j) 0 + a.getD i 0 * b.getD j 0 + c) / 65536) * 65536 ^ (i + (j + 1)) = (o.getD (i + j) 0 + a.getD i 0 * b.getD j 0 + c) / 65536 * 65536 * 65536 ^ (i + j) := by
    rw [show i + (j + 1) = (i + j) + 1 from by omega, Nat.pow_succ, Nat.mul_assoc, Nat.mul_comm (65536 ^ (i + j))]
   rw [e3, e4]
   have e5 : (o.getD (i + j) 0 + a.getD i 0 * b.getD j 0 + c) / 65536 * 65536 * 65536 ^ (i + j) + (o.getD (i + j) 0 + a.getD i 0 * b.getD j 0 + c) % 65536 * 65536 ^ (i + j) = o.getD (i + j) 0 * 65536 ^ (i + j) + a.getD i 0 * b.getD j 0 * 65536 ^ (i + j) + c * 65536 ^ (i + j) := by
    rw [<- Nat.add_mul, <- Nat.add_mul, <- Nat.add_mul]; congr 1; omega
   omega
theorem Tim.row (h : Tim a b i b.length c o) (hi : i < a.length) : Tim a b (i + 1) 0 0 (o.set (i + b.length) (o.getD (i + b.length) 0 + c)) := by
 have hl := h.len
 have hz := h.zero (i + b.length) (Nat.le_refl _)
 have hs := val_set o (i + b.length) (o.getD (i + b.length) 0 + c) (by omega)
 have hc := h.carry
 have he := h.eq
 rw [hz] at hs ⊢
 refine ⟨by simp [hl], fun k => ?_, fun k hk => ?_, by omega, ?_⟩
 . rw [getD_set _ _ _ _ (by omega)]; split
   . omega
   . exact h.small k
 . rw [getD_set _ _ _ _ (by omega), if_neg (by omega)]; exact h.zero k (by omega)
 . rw [List.take_of_length_le (Nat.le_refl _)] at he
   rw [val_take_succ a i hi, Nat.add_mul]
   simp only [List.take_zero, val, Nat.mul_zero, Nat.add_zero, Nat.zero_mul] at hs ⊢
   simp only [Nat.zero_add] at hs ⊢
   omega
theorem Tim.done (h : Tim a b a.length 0 c o) (hc : c = 0) : val o = val a * val b := by
 have he := h.eq
 subst hc
 simpa [val] using he
end Go.Proofs.YtbiioaggilaebaaGreatDoor.Ref
namespace Go.Proofs
open Go.Shelf
def Tryz.lays190_ren : Go.Shelf.Ren := ⟨fun | 190 => 32 | 125 => 72 | 258 => 71 | 128 => 109 | 129 => 110 | 302 => 100 | 303 => 101 | 304 => 102 | 305 => 103 | 306 => 104 | 307 => 105 | 308 => 106 | 309 => 107 | 310 => 108 | 333 => 135 | 329 => 136 | 330 => 137 | 334 => 138 | 335 => 139 | 336 => 140 | 344 => 157 | n => n, fun | 31 => 22 | 9 => 9 | 3 => 3 | 46 => 68 | 0 => 0 | 51 => 138 | 53 => 137 | 4 => 4 | 183 => 171 | 182 => 170 | 131 => 176 | 5 => 5 | 218 => 197 | 222 => 201 | 228 => 217 | 229 => 149 | n => n, fun | n => n⟩
theorem Tryz.lays190 : Go.Proofs.Lays.n190 Tryz.prog Tryz.lays190_ren := {
 mixed := by kernel_rfl
 f125 := Tryz.func72.trans (congrArg some (by kernel_rfl))
 f128 := Tryz.func109.trans (congrArg some (by kernel_rfl))
 f129 := Tryz.func110.trans (congrArg some (by kernel_rfl))
 f190 := Tryz.func32.trans (congrArg some (by kernel_rfl))
 f258 := Tryz.func71.trans (congrArg some (by kernel_rfl))
 f302 := Tryz.func100.trans (congrArg some (by kernel_rfl))
 f303 := Tryz.func101.trans (congrArg some (by kernel_rfl))
 f304 := Tryz.func102.trans (congrArg some (by kernel_rfl))
 f305 := Tryz.func103.trans (congrArg some (by kernel_rfl))
 f306 := Tryz.func104.trans (congrArg some (by kernel_rfl))
 f307 := Tryz.func105.trans (congrArg some (by kernel_rfl))
 f308 := Tryz.func106.trans (congrArg some (by kernel_rfl))
 f309 := Tryz.func107.trans (congrArg some (by kernel_rfl))
 f310 := Tryz.func108.trans (congrArg some (by kernel_rfl))
 f329 := Tryz.func136.trans (congrArg some (by kernel_rfl))
 f330 := Tryz.func137.trans (congrArg some (by kernel_rfl))
 f333 := Tryz.func135.trans (congrArg some (by kernel_rfl))
 f334 := Tryz.func138.trans (congrArg some (by kernel_rfl))
 f335 := Tryz.func139.trans (congrArg some (by kernel_rfl))
 f336 := Tryz.func140.trans (congrArg some (by kernel_rfl))
 f344 := Tryz.func157.trans (congrArg some (by kernel_rfl))
 t0 := Tryz.underlying0
 a0 := Tryz.isAgg0
 z0 := Tryz.sizeOf0
 v0 := Tryz.zeroValue0
 t3 := Tryz.underlying3
 a3 := Tryz.isAgg3
 z3 := Tryz.sizeOf3
 v3 := Tryz.zeroValue3
 t4 := Tryz.underlying4
 a4 := Tryz.isAgg4
 z4 := Tryz.sizeOf4
 v4 := Tryz.zeroValue4
 t5 := Tryz.underlying5
 a5 := Tryz.isAgg5
 z5 := Tryz.sizeOf5
 v5 := Tryz.zeroValue5
 t9 := Tryz.underlying9
 a9 := Tryz.isAgg9
 z9 := Tryz.sizeOf9
 v9 := Tryz.zeroValue9
 t31 := Tryz.underlying22
 a31 := Tryz.isAgg22
 z31 := Tryz.sizeOf22
 v31 := Tryz.zeroValue22
 t46 := Tryz.underlying68
 a46 := Tryz.isAgg68
 z46 := Tryz.sizeOf68
 v46 := Tryz.zeroValue68
 t51 := Tryz.underlying138
 a51 := Tryz.isAgg138
 z51 := Tryz.sizeOf138
 v51 := Tryz.zeroValue138
 t53 := Tryz.underlying137
 a53 := Tryz.isAgg137
 z53 := Tryz.sizeOf137
 v53 := Tryz.zeroValue137
 t131 := Tryz.underlying176
 a131 := Tryz.isAgg176
 z131 := Tryz.sizeOf176
 v131 := Tryz.zeroValue176
 t182 := Tryz.underlying170
 a182 := Tryz.isAgg170
 z182 := Tryz.sizeOf170
 v182 := Tryz.zeroValue170
 t183 := Tryz.underlying171
 a183 := Tryz.isAgg171
 z183 := Tryz.sizeOf171
 v183 := Tryz.zeroValue171
 t218 := Tryz.underlying197
 a218 := Tryz.isAgg197
 z218 := Tryz.sizeOf197
 v218 := Tryz.zeroValue197
 t222 := Tryz.underlying201
 a222 := Tryz.isAgg201
 z222 := Tryz.sizeOf201
 v222 := Tryz.zeroValue201
 t228 := Tryz.underlying217
 a228 := Tryz.isAgg217
 z228 := Tryz.sizeOf217
 v228 := Tryz.zeroValue217
 t229 := Tryz.underlying149
 a229 := Tryz.isAgg149
 z229 := Tryz.sizeOf149
 v229 := Tryz.zeroValue149 }
open Go.Sort Go.RowKit in
theorem Tryz.slices_Sort_string (blk off cap : Nat) (ss : List (List UInt8)) (w : World) (hH : Holds encStr w blk off ss.toArray) (hblk : blk < w.heap.size) (hsz : ss.length < 4611686018427387904) :
 Calls Tryz.prog 32 #[.slice (some ⟨blk, off, none⟩) ss.length cap] w fun e w' =>
  e = .returned (.tuple #[]) /\ ∃ n os, w' = grow (putRow encStr (Sort.ahead w n) blk off (ss.mergeSort fun x y => decide (x <= y)).toArray) os := Any.slices_Sort_string Tryz.lays190 blk off cap ss w hH hblk hsz
def Tryz.lays194_ren : Go.Shelf.Ren := ⟨fun | 194 => 33 | n => n, fun | 31 => 22 | 9 => 9 | 3 => 3 | 4 => 4 | 0 => 0 | n => n, fun | n => n⟩
theorem Tryz.lays194 : Go.Proofs.Lays.n194 Tryz.prog Tryz.lays194_ren := {
 mixed := by kernel_rfl
 f194 := Tryz.func33.trans (congrArg some (by kernel_rfl))
 t0 := Tryz.underlying0
 a0 := Tryz.isAgg0
 z0 := Tryz.sizeOf0
 v0 := Tryz.zeroValue0
 t3 := Tryz.underlying3
 a3 := Tryz.isAgg3
 z3 := Tryz.sizeOf3
 v3 := Tryz.zeroValue3
 t4 := Tryz.underlying4
 a4 := Tryz.isAgg4
 z4 := Tryz.sizeOf4
 v4 := Tryz.zeroValue4
 t9 := Tryz.underlying9
 a9 := Tryz.isAgg9
 z9 := Tryz.sizeOf9
 v9 := Tryz.zeroValue9
 t31 := Tryz.underlying22
 a31 := Tryz.isAgg22
 z31 := Tryz.sizeOf22
 v31 := Tryz.zeroValue22 }
open Go.RowKit Go.Lib Go.Sort in
theorem Tryz.slices_Compact_string (blk off cap : Nat) (zs : List (List UInt8)) (w : World) (hH : Holds encStr w blk off zs.toArray) (hsz : zs.length <= 9223372036854775807) (hcap : zs.length <= cap) :
 Calls Tryz.prog 33 #[.slice (some ⟨blk, off, none⟩) zs.length cap] w fun e w' => e = .returned (.slice (some ⟨blk, off, none⟩) (Lib.compact zs).length cap) /\ ∃ q, w' = putRow encStr (Sort.ahead w q) blk off (Lib.compact zs ++ List.replicate (zs.length - (Lib.compact zs).length) []).toArray := Any.slices_Compact_string Tryz.lays194 blk off cap zs w hH hsz hcap
open Go.RowKit Go.Lib Go.Sort in
theorem Tryz.slices_Compact_string_empty (a : Option Addr) (cap : Nat) (w : World) :
 Calls Tryz.prog 33 #[.slice a 0 cap] w fun e w' => e = .returned (.slice a 0 cap) /\ w' = w := Any.slices_Compact_string_empty Tryz.lays194 a cap w
open Go.RowKit Go.Sort in
theorem Tryz.slices_Sort_string_none (p : Option Addr) (cap : Nat) (w : World) :
 Calls Tryz.prog 32 #[.slice p 0 cap] w fun e w' => e = .returned (.tuple #[]) /\ w' = w := Any.slices_Sort_string_none Tryz.lays190 p cap w
end Go.Proofs
namespace Go.Proofs.YtbiioaggilaebaaGreatDoor.Err
open Go.RowKit Go.Extern.Stop Go.Stop Go.Extern
theorem R_valueOf27 (t : Addr) (w : World) : (ReflectliteValue.unpack (.iface 83 (.pointer (some t)))).run Tryz.prog w
 = .ok (.agg #[.pointer (some ⟨9, 83, none⟩), .pointer (some ⟨w.heap.size, 0, none⟩), .int .u64 150]) (w.alloc (.cells #[.pointer (some t)] 83)) := by kernel_rfl
theorem R_type27 (a : Addr) (w : World) : (ReflectliteValue.methodAny (ReflectliteValue.valueError "reflectlite.Value.Type" 0) (fun t _ _ _ => ReflectliteType.toType t) #[.agg #[.pointer (some ⟨9, 83, none⟩), .pointer (some a), .int .u64 150]]).run Tryz.prog w
 = .ok (.iface 154 (.agg #[.pointer (some ⟨9, 83, none⟩)])) w := by kernel_rfl
theorem R_methodKind (h : Value) (w : World) : (Go.method 398 154 (.agg #[h]) "Kind").run Tryz.prog w = .ok (222, h) w := by kernel_rfl
theorem R_kind27 (w : World) : ((ReflectliteType.abiMethod fun t => (fun a : Nat => Value.int IntKind.u8 (a : Int)) <$> Rtype.kind t) #[.pointer (some ⟨9, 83, none⟩)]).run Tryz.prog w = .ok (.int .u8 22) w := by kernel_rfl
theorem R_kind25 (w : World) : ((ReflectliteType.abiMethod fun t => (fun a : Nat => Value.int IntKind.u8 (a : Int)) <$> Rtype.kind t) #[.pointer (some ⟨9, 54, none⟩)]).run Tryz.prog w = .ok (.int .u8 2) w := by kernel_rfl
theorem rlm (z : Sem Value) (f : TypeId -> Addr -> Nat -> Nat -> Sem Value) (v : Value) :
 ReflectliteValue.method z f #[v] = (do match <- ReflectliteValue.parts v with | none => z | some (t, a, fl) => f t a fl (fl % 32)) := rfl
theorem R_parts27 (a : Addr) (w : World) : (ReflectliteValue.parts (.agg #[.pointer (some ⟨9, 83, none⟩), .pointer (some a), .int .u64 150])).run Tryz.prog w = .ok (some (83, a, 150)) w := by kernel_rfl
theorem R_isNil27 (a p : Addr) (W : World) (ha : W.cell? a = some (.pointer (some p))) :
 (ReflectliteValue.method (ReflectliteValue.valueError "reflectlite.Value.IsNil" 0) ReflectliteValue.isNil #[.agg #[.pointer (some ⟨9, 83, none⟩), .pointer (some a), .int .u64 150]]).run Tryz.prog W = .ok (.bool false) W := by
 rw [rlm]
 simp only [Sem.run_bind, R_parts27, Result.andThen]
 simp [ReflectliteValue.isNil, loadVar, isAgg, underlying, Tryz.underlying83, ha, Result.andThen]
theorem R_methodElem (h : Value) (w : World) : (Go.method 398 154 (.agg #[h]) "Elem").run Tryz.prog w = .ok (235, .agg #[h]) w := by kernel_rfl
theorem R_methodImplements (h : Value) (w : World) : (Go.method 398 154 (.agg #[h]) "Implements").run Tryz.prog w = .ok (236, .agg #[h]) w := by kernel_rfl
theorem R_methodAssignableTo (h : Value) (w : World) : (Go.method 398 154 (.agg #[h]) "AssignableTo").run Tryz.prog w = .ok (233, .agg #[h]) w := by kernel_rfl
theorem R_elem27 (w : World) : (ReflectliteType.method ReflectliteType.elem #[.agg #[.pointer (some ⟨9, 83, none⟩)]]).run Tryz.prog w = .ok (.iface 154 (.agg #[.pointer (some ⟨9, 54, none⟩)])) w := by kernel_rfl
theorem R_implements25 (w : World) : (ReflectliteType.relation "Implements" ReflectliteType.implements_ #[.agg #[.pointer (some ⟨9, 54, none⟩)], .iface 154 (.agg #[.pointer (some ⟨9, 29, none⟩)])]).run Tryz.prog w = .ok (.bool true) w := by kernel_rfl
theorem R_typeOf25 (v : Value) (w : World) : (ReflectliteType.typeOf #[.iface 54 v]).run Tryz.prog w = .ok (.iface 154 (.agg #[.pointer (some ⟨9, 54, none⟩)])) w := by kernel_rfl
theorem R_assignable25 (w : World) : (ReflectliteType.relation "AssignableTo" ReflectliteType.assignableTo #[.agg #[.pointer (some ⟨9, 54, none⟩)], .iface 154 (.agg #[.pointer (some ⟨9, 54, none⟩)])]).run Tryz.prog w = .ok (.bool true) w := by kernel_rfl
theorem R_valueOf25 (e : Int) (w : World) : (ReflectliteValue.unpack (.iface 54 (.int .i64 e))).run Tryz.prog w
 = .ok (.agg #[.pointer (some ⟨9, 54, none⟩), .pointer (some ⟨w.heap.size, 0, none⟩), .int .u64 130]) (w.alloc (.cells #[.int .i64 e] 54)) := by kernel_rfl
theorem R_elemOf27 (w : World) : (Rtype.elem? 83).run Tryz.prog w = .ok (some 54) w := by kernel_rfl
theorem R_mk25 (p : Addr) (w : World) : (ReflectliteValue.mk 54 p ReflectliteValue.flagAddr).run Tryz.prog w = .ok (.agg #[.pointer (some ⟨9, 54, none⟩), .pointer (some p), .int .u64 386]) w := by kernel_rfl
theorem R_elemV27 (a p : Addr) (W : World) (ha : W.cell? a = some (.pointer (some p))) :
 (ReflectliteValue.method (ReflectliteValue.valueError "reflectlite.Value.Elem" 0) ReflectliteValue.elem #[.agg #[.pointer (some ⟨9, 83, none⟩), .pointer (some a), .int .u64 150]]).run Tryz.prog W
  = .ok (.agg #[.pointer (some ⟨9, 54, none⟩), .pointer (some p), .int .u64 386]) W := by
 rw [rlm]
 simp only [Sem.run_bind, R_parts27, Result.andThen]
 simp [ReflectliteValue.elem, loadVar, isAgg, underlying, Tryz.underlying83, ha, Result.andThen, R_elemOf27, R_mk25]
theorem rls (v x : Value) : ReflectliteValue.set #[v, x] = (do
 let (some (dst, a, fl), some (src, b, _)) := (<- ReflectliteValue.parts v, <- ReflectliteValue.parts x)
  | unsupported (.noEntry "extern/(internal/reflectlite.Value).Set.zeroValue")
 if fl / ReflectliteValue.flagAddr % 2 == 0 then unsupported (.noEntry "extern/(internal/reflectlite.Value).Set.unaddressable")
 let val <- loadVar src b
 if <- Rtype.directlyAssignable dst src then storeVar dst a val
 else if <- Rtype.implements dst src then
  if (<- Rtype.kind src) == 20 then
   match val with
   | .nilIface => unsupported (.noEntry "extern/reflectlite: a nil value of one interface type handed on as a value of another")
   | _ => storeVar dst a val
  else storeVar dst a (.iface src val)
 else panicString ("reflectlite.Set: value of type " ++ (<- Rtype.spelt src) ++ " is not assignable to type " ++ (<- Rtype.spelt dst))
 pure (.tuple #[])) := rfl
theorem R_parts25a (a : Addr) (w : World) : (ReflectliteValue.parts (.agg #[.pointer (some ⟨9, 54, none⟩), .pointer (some a), .int .u64 386])).run Tryz.prog w = .ok (some (54, a, 386)) w := by kernel_rfl
theorem R_parts25 (a : Addr) (w : World) : (ReflectliteValue.parts (.agg #[.pointer (some ⟨9, 54, none⟩), .pointer (some a), .int .u64 130])).run Tryz.prog w = .ok (some (54, a, 130)) w := by kernel_rfl
theorem R_direct25 (w : World) : (Rtype.directlyAssignable 54 54).run Tryz.prog w = .ok true w := by kernel_rfl
theorem R_set25 (ta b : Addr) (e : Int) (old : Value) (W : World) (hb : W.cell? b = some (.int .i64 e)) (ht : W.cell? ta = some old) (hf : W.frozen? ta = false) :
 (ReflectliteValue.set #[.agg #[.pointer (some ⟨9, 54, none⟩), .pointer (some ta), .int .u64 386], .agg #[.pointer (some ⟨9, 54, none⟩), .pointer (some b), .int .u64 130]]).run Tryz.prog W
  = .ok (.tuple #[]) (W.setCell ta (.int .i64 e)) := by
 rw [rls]
 simp only [Sem.run_bind, R_parts25a, R_parts25, Result.andThen]
 simp [ReflectliteValue.flagAddr, loadVar, isAgg, underlying, Tryz.underlying54, hb, Result.andThen, R_direct25, storeVar, Value.cells, storeCells, Addr.add]
 rw [run_store Tryz.prog W ta _ _ (by rfl)]
 simp [ht, hf]
theorem as_hit (e : Int) (t : Addr) (old : Value) (w : World) (hg : w.cell? ⟨0, 0, none⟩ = some (.iface 154 (.agg #[.pointer (some ⟨9, 29, none⟩)]))) (ht0 : w.cell? t = some old) (hf0 : w.frozen? t = false) :
 Calls Tryz.prog 25 #[.iface 54 (.int .i64 e), .iface 83 (.pointer (some t))] w fun ev w' => ev = .returned (.bool true) /\ w' = ((((w.alloc (.cells #[.pointer (some t)] 83)).alloc (.cells #[.pointer (some ⟨9, 83, none⟩), .pointer (some ⟨w.heap.size, 0, none⟩), .int .u64 150] 104)).alloc (.cells #[.pointer (some ⟨9, 83, none⟩), .pointer (some ⟨w.heap.size, 0, none⟩), .int .u64 150] 104)).alloc (.cells #[.int .i64 e] 54)).setCell t (.int .i64 e) := by
 have h6 := @run_callFunc_extern Tryz.prog 62 _ (fun args => ReflectliteValue.unpack (args.getD 0 (.tuple #[]))) Tryz.func62 (by kernel_rfl) (by kernel_rfl) (by kernel_rfl) (by kernel_rfl)
 have h7 := @run_callFunc_extern Tryz.prog 63 _ (ReflectliteValue.methodAny (ReflectliteValue.valueError "reflectlite.Value.Type" 0) (fun t _ _ _ => ReflectliteType.toType t)) Tryz.func63 (by kernel_rfl) (by kernel_rfl) (by kernel_rfl) (by kernel_rfl)
 have h8 := @run_callFunc_extern Tryz.prog 64 _ (ReflectliteValue.method (ReflectliteValue.valueError "reflectlite.Value.IsNil" 0) ReflectliteValue.isNil) Tryz.func64 (by kernel_rfl) (by kernel_rfl) (by kernel_rfl) (by kernel_rfl)
 have h27 := @run_callFunc_extern Tryz.prog 222 _ (ReflectliteType.abiMethod fun t => do pure (.int .u8 (<- Rtype.kind t))) Tryz.func222 (by kernel_rfl) (by kernel_rfl) (by kernel_rfl) (by kernel_rfl)
 have h37 := @run_callFunc_extern Tryz.prog 235 _ (ReflectliteType.method ReflectliteType.elem) Tryz.func235 (by kernel_rfl) (by kernel_rfl) (by kernel_rfl) (by kernel_rfl)
 have h38 := @run_callFunc_extern Tryz.prog 236 _ (ReflectliteType.relation "Implements" ReflectliteType.implements_) Tryz.func236 (by kernel_rfl) (by kernel_rfl) (by kernel_rfl) (by kernel_rfl)
 have h10 := @run_callFunc_extern Tryz.prog 66 _ ReflectliteType.typeOf Tryz.func66 (by kernel_rfl) (by kernel_rfl) (by kernel_rfl) (by kernel_rfl)
 have h35 := @run_callFunc_extern Tryz.prog 233 _ (ReflectliteType.relation "AssignableTo" ReflectliteType.assignableTo) Tryz.func233 (by kernel_rfl) (by kernel_rfl) (by kernel_rfl) (by kernel_rfl)
 have h11 := @run_callFunc_extern Tryz.prog 98 _ (ReflectliteValue.method (ReflectliteValue.valueError "reflectlite.Value.Elem" 0) ReflectliteValue.elem) Tryz.func98 (by kernel_rfl) (by kernel_rfl) (by kernel_rfl) (by kernel_rfl)
 have h12 := @run_callFunc_extern Tryz.prog 99 _ ReflectliteValue.set Tryz.func99 (by kernel_rfl) (by kernel_rfl) (by kernel_rfl) (by kernel_rfl)
 have tO := R_typeOf25
 have mA := R_methodAssignableTo
 have a25 := R_assignable25
 have v25 := R_valueOf25
 have f6 := R_valueOf27
 have f7 := R_type27
 have mK := R_methodKind
 have mE := R_methodElem
 have mI := R_methodImplements
 have k27 := R_kind27
 have k25 := R_kind25
 have e27 := R_elem27
 have i25 := R_implements25
 have n8 := R_isNil27 ⟨w.heap.size, 0, none⟩ t ((w.alloc (.cells #[.pointer (some t)] 83)).alloc (.cells #[.pointer (some ⟨9, 83, none⟩), .pointer (some ⟨w.heap.size, 0, none⟩), .int .u64 150] 104)) (by simp)
 have hlt : 0 < w.heap.size := World.block_lt_of_cell? w _ hg
 have hg2 : ((w.alloc (.cells #[.pointer (some t)] 83)).alloc (.cells #[.pointer (some ⟨9, 83, none⟩), .pointer (some ⟨w.heap.size, 0, none⟩), .int .u64 150] 104)).cell? ⟨0, 0, none⟩ = some (.iface 154 (.agg #[.pointer (some ⟨9, 29, none⟩)])) := by
  rw [World.cell?_alloc_lt _ _ ⟨0, 0, none⟩ (by simp), World.cell?_alloc_lt _ _ ⟨0, 0, none⟩ hlt]; exact hg
 have htl : t.block < w.heap.size := by
  rcases Nat.lt_or_ge t.block w.heap.size with h | h
  . exact h
  . simp [World.cell?, Array.getElem?_eq_none h] at ht0
 have el := R_elemV27 ⟨w.heap.size, 0, none⟩ t (((w.alloc (.cells #[.pointer (some t)] 83)).alloc (.cells #[.pointer (some ⟨9, 83, none⟩), .pointer (some ⟨w.heap.size, 0, none⟩), .int .u64 150] 104)).alloc (.cells #[.pointer (some ⟨9, 83, none⟩), .pointer (some ⟨w.heap.size, 0, none⟩), .int .u64 150] 104)) (by rw [World.cell?_alloc_lt _ _ ⟨w.heap.size, 0, none⟩ (by simp; omega)]; simp)
 have st := R_set25 t ⟨w.heap.size + 1 + 1 + 1, 0, none⟩ e old ((((w.alloc (.cells #[.pointer (some t)] 83)).alloc (.cells #[.pointer (some ⟨9, 83, none⟩), .pointer (some ⟨w.heap.size, 0, none⟩), .int .u64 150] 104)).alloc (.cells #[.pointer (some ⟨9, 83, none⟩), .pointer (some ⟨w.heap.size, 0, none⟩), .int .u64 150] 104)).alloc (.cells #[.int .i64 e] 54))
  (by rw [World.cell?_alloc_at _ _ _ _ (by simp)]; rfl)
  (by rw [World.cell?_alloc_lt _ _ t (by simp; omega), World.cell?_alloc_lt _ _ t (by simp; omega), World.cell?_alloc_lt _ _ t (by simp; omega), World.cell?_alloc_lt _ _ t htl]; exact ht0)
  (by rw [World.frozen?_alloc_old _ _ t (by simp; omega), World.frozen?_alloc_old _ _ t (by simp; omega), World.frozen?_alloc_old _ _ t (by simp; omega), World.frozen?_alloc_old _ _ t (Nat.ne_of_lt htl)]; exact hf0)
 go_enter Tryz.func25, Tryz.ntmps25
 go_wp2
 refine wp_loop_rounds 1 ?_
 rw [rounds_succ]
 go_wp2
 go_ret
 exact ⟨rfl, rfl⟩
end Go.Proofs.YtbiioaggilaebaaGreatDoor.Err
namespace Go.Proofs.YtbiioaggilaebaaGreatDoor.CardW
open Go
variable {H : Type} {enc : TypeId × Value -> H}
theorem returns_laid_shaped {a : Assume} {C : Checked} {os : Os} {f : FuncId} {fn : Func} {s : ChangeSpec} {conds : List PathCond} {apart fresh handsOn again : Bool} {X : World -> Array Value -> Prop}
 (hX : ∀ (w w' : World) (args : Array Value), w.heap = w'.heap -> X w args -> X w' args)
 (own : ownKnob C.prog.godebug = none) (started : os.Started) (noInit : C.prog.inits.idxOf? f = none) (hfn : C.prog.funcs[f]? = some fn)
 (witness : ∃ (w : World) (tape : Tape) (i : Input), w.os = os /\ (w.forCall tape i).Shaped C.prog /\ i.vars = [] /\ Input.okWide C.prog (w.forCall tape i) .any w.heap.size f i /\
  ((s.pre enc C.prog fn conds apart (w.forCall tape i).memory i.args /\ X (w.forCall tape i).memory i.args) /\ sizedMet enc C.prog fn (OpenSpec.ofChange s) apart (w.forCall tape i).memory i.args) /\ a.holds C.prog (lone (Frame.enter C.prog f i.args .normal) [] (w.forCall tape i)))
 (contract : ∀ (W : World) (base : Nat) (args : Array Value) (ds gs : List (DataW H)) (before : List MemPlace),
  (∀ (j : Nat) t v, fn.params[j]? = some t -> args[j]? = some v -> Value.okWide C.prog W .any base t v) ->
  DataW.Whole enc C.prog fn.params.toList s.vars apart W args.toList ds gs before ->
  conds.all (PathCond.test C.prog ⟨fn.params.toList, ds, s.plain.varTypes C.prog, gs⟩) = true ->
  (DataW.weightsEach C.prog (fn.params.toList ++ s.plain.varTypes C.prog) (ds ++ gs)).all (· <= reachBytes) = true -> X W args -> W.ShapedOpen C.prog ->
  a.holds C.prog (lone (Frame.enter C.prog f args .normal) [] W) ->
  Calls C.prog f args W fun e W' => ∃ v, e = .returned v /\ s.post enc C.prog fn apart fresh handsOn again W args v W') :
 ReturnsInHanded a C os f .any (fun w args => (s.pre enc C.prog fn conds apart w args /\ X w args) /\ sizedMet enc C.prog fn (OpenSpec.ofChange s) apart w args) (s.post enc C.prog fn apart fresh handsOn again) := by
 refine returnsInHanded_of_calls own started noInit witness ?_
 intro w tape i h1 hshape h3 hok hpre hholds
 obtain ⟨k1, k2, k3, g, hg, k4, k5, k6, k7, hval⟩ := hok
 obtain rfl : g = fn := Option.some.inj (hg.symm.trans hfn)
 obtain ⟨⟨⟨ds, gs, before, hw, hc⟩, hx⟩, hz⟩ := hpre
 have goal := contract (w.forCall tape i) w.heap.size i.args ds gs before hval (DataW.Whole.of_heap (w' := w.forCall tape i) (by rfl) hw) hc (hz.weights hw) (hX _ _ _ (by rfl) hx) hshape hholds
 refine goal.mono ?_
 rintro e W' ⟨v, rfl, hp⟩
 exact ChangeSpec.post_blind hp
end Go.Proofs.YtbiioaggilaebaaGreatDoor.CardW
