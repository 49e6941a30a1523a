/- What LawPatchWrites lean on, part o of 29: the texts RefR, DigP, TmS, LinM. -/
import Derived.Test.YtbiioaggilaebaaGreatDoorTVb
import Derived.Test.YtbiioaggilaebaaGreatDoorTVc
import Derived.Test.YtbiioaggilaebaaGreatDoorTVd
import Derived.Test.YtbiioaggilaebaaGreatDoorTVf
import Derived.Test.YtbiioaggilaebaaGreatDoorTVj
import Derived.Test.YtbiioaggilaebaaGreatDoorTVk
import Derived.Test.YtbiioaggilaebaaGreatDoorTVl
import Derived.Test.YtbiioaggilaebaaGreatDoorTVm
import Derived.Deep.DeepFit
import Derived.Deep.RegionHeld3
import Derived.Deep.QuietTactic
import Derived.BigQuiet
import Derived.Lib.SlTrimSet
import Derived.WalkKit
import Derived.WalkSpells
import Derived.WalkLawsBesides
set_option linter.unusedVariables false
set_option linter.unusedSimpArgs false
namespace Go.Proofs.YtbiioaggilaebaaGreatDoor.Ref
open Go.RowKit Go.Proofs.YtbiioaggilaebaaGreatDoor.B Go.Proofs.YtbiioaggilaebaaGreatDoor.Sha Go.Proofs.YtbiioaggilaebaaGreatDoorW.PrintLast
theorem flat_le (l : List (BitVec 32)) : (l.flatMap ofWord).length ≤ 4 * l.length := by
  induction l with
  | nil => exact Nat.le_refl _
  | cons a l ih => rw [List.flatMap_cons, List.length_append, List.length_cons]; have : (ofWord a).length = 4 := rfl; omega
theorem conv4 (W : World) (x : BitVec 32) :
    (convert 69 9 (.slice (some ⟨W.heap.size, 0, none⟩) 4 4)).run Tryz.prog (W.alloc (.cells #[.int .u8 (nv x / 16777216 % 256), .int .u8 (nv x / 65536 % 256), .int .u8 (nv x / 256 % 256), .int .u8 (nv x % 256)] 5)) = .ok (.string ⟨(ofWord x).toArray⟩) (W.alloc (.cells #[.int .u8 (nv x / 16777216 % 256), .int .u8 (nv x / 65536 % 256), .int .u8 (nv x / 256 % 256), .int .u8 (nv x % 256)] 5)) := by
  rw [show (#[.int .u8 (nv x / 16777216 % 256), .int .u8 (nv x / 65536 % 256), .int .u8 (nv x / 256 % 256), .int .u8 (nv x % 256)] : Array Value) = (bc (ofWord x)).toArray from congrArg List.toArray (word_cells x)]
  refine run_convert_bytes_back _ 69 9 5 _ 4 (ofWord x) Tryz.underlying69 Tryz.underlying5 Tryz.underlying9 fun j hj => ?_
  rw [add0, cell_of (heap_alloc_at _ _), List.getElem?_toArray, bc_get _ j hj]
theorem conv4d (W : World) (x : BitVec 32) :
    (convert 69 9 (.slice (some ⟨W.heap.size, 0, none⟩) 4 4)).run Tryz.prog (W.alloc (.cells #[.int .u8 (nv x / 16777216 % 256), .int .u8 (nv x / 65536 % 256), .int .u8 (nv x / 256 % 256), .int .u8 (nv x % 256)] 5)).drew = .ok (.string ⟨(ofWord x).toArray⟩) (W.alloc (.cells #[.int .u8 (nv x / 16777216 % 256), .int .u8 (nv x / 65536 % 256), .int .u8 (nv x / 256 % 256), .int .u8 (nv x % 256)] 5)).drew := conv4 W.drew x
theorem conv4h (W : World) (x : BitVec 32) :
    (convert 69 9 (.slice (some ⟨W.heap.size, 0, none⟩) 4 4)).run Tryz.prog (W.alloc (.cells #[.int .u8 (IntKind.u8.wrap (nv x / 16777216)), .int .u8 (IntKind.u8.wrap (nv x / 65536)), .int .u8 (IntKind.u8.wrap (nv x / 256)), .int .u8 (IntKind.u8.wrap (nv x))] 5)).drew = .ok (.string ⟨(ofWord x).toArray⟩) (W.alloc (.cells #[.int .u8 (IntKind.u8.wrap (nv x / 16777216)), .int .u8 (IntKind.u8.wrap (nv x / 65536)), .int .u8 (IntKind.u8.wrap (nv x / 256)), .int .u8 (IntKind.u8.wrap (nv x))] 5)).drew := by
  rw [IntKind.wrap_u8, IntKind.wrap_u8, IntKind.wrap_u8, IntKind.wrap_u8]
  exact conv4d W x
theorem uvs_get (l : List (BitVec 32)) (i : Nat) (h : i < l.length) : (uvs l)[i]? = some (.int .u32 (nv (l.getD i 0))) := by
  simp [uvs, uv, List.getD_eq_getElem?_getD, List.getElem?_eq_getElem h]
theorem rowB_of (w : World) (s : ByteArray) (hs : s.size ≤ 140737488355328) : ∃ cap w1, (convert 9 69 (.string s)).run Tryz.prog w = .ok (.slice (some ⟨w.heap.size, 0, none⟩) s.size cap) w1 ∧
    RowB w1 w.heap.size (.slice (some ⟨w.heap.size, 0, none⟩) s.size cap) s.size s.data.toList ∧ Below w.heap.size w w1 := by
  obtain ⟨cap, w1, cells, fz, h1, h2, h3, h4, h5, h6, h7, _, h8, h9⟩ := bytes_of w s
  exact ⟨cap, w1, h1, ⟨_, _, cells, fz, rfl, len_list s, Nat.le_refl _, h4, h5, h6, h9 (by unfold maxLen; omega), h7, .inr (by omega)⟩, h2⟩
theorem RowB.form {w : World} {base n : Nat} {v : Value} {l : List UInt8} (h : RowB w base v n l) : ∃ g cap, v = .slice (some ⟨g, 0, none⟩) n cap := by
  obtain ⟨g, cap, cells, fz, hv, _⟩ := h
  exact ⟨g, cap, hv⟩
theorem RowB.lt {w : World} {base n : Nat} {v : Value} {l : List UInt8} (h : RowB w base v n l) : base < w.heap.size := by
  obtain ⟨g, cap, cells, fz, hv, _, hb, hg, _⟩ := h
  have := heap_lt hg
  omega
theorem cell1 (w : World) (z : Int) (b : UInt8) (h : z = (b.toNat : Int)) : (w.alloc (.cells #[.int .u8 z] 5)).cell? ⟨w.heap.size, 0, none⟩ = some (.int .u8 (b.toNat : Int)) := by
  subst h; rw [cell_of (heap_alloc_at w _)]; rfl
theorem made_uc : madeCells #[Value.int .u32 0] 64 = ucells zeros64 := by
  kernel_rfl
def Mk (w0 w : World) (l : List (BitVec 32)) : Prop := w.heap[w0.heap.size]? = some (.cells (ucells l) 138 (0, 0)) ∧ Below w0.heap.size w0 w
theorem mk_cell {w0 w : World} {l : List (BitVec 32)} {p : Addr} {v : Value} (h : Mk w0 w l) (hc : w0.cell? p = some v) : w.cell? p = some v :=
  (Tch.of_new h.2).cell (S := fun _ => False) hc (fun e => e)
theorem mk_set {w0 w : World} {l : List (BitVec 32)} {v : Int} (h : Mk w0 w l) (i : Nat) (x : BitVec 32) (hv : v = nv x) : Mk w0 (w.setCell ⟨w0.heap.size, i, none⟩ (.int .u32 v)) (l.set i x) := by
  subst hv
  exact ⟨by rw [heap_set_some h.1, ucells_set], h.2.setCell (Nat.le_refl _) _⟩
theorem mk_drew {w0 w : World} {l : List (BitVec 32)} (h : Mk w0 w l) : Mk w0 w.drew l := ⟨h.1, ⟨h.2.os, h.2.tape, h.2.output, h.2.size, h.2.block⟩⟩
theorem mk_at {w0 w : World} {l : List (BitVec 32)} (h : Mk w0 w l) (i : Nat) (hi : i < l.length) : w.cell? ⟨w0.heap.size, i, none⟩ = some (.int .u32 (nv (l.getD i 0))) := by
  rw [cell_of h.1, ucells_get l i hi]
theorem word_val {blk : List UInt8} {t : Nat} (c0 c1 c2 c3 : UInt8) (h0 : blk.getD (4 * t) 0 = c0) (h1 : blk.getD (4 * t + 1) 0 = c1) (h2 : blk.getD (4 * t + 2) 0 = c2) (h3 : blk.getD (4 * t + 3) 0 = c3) :
    bits .or .u32 (bits .or .u32 (bits .or .u32 ((c0.toNat : Int) % 4294967296 * 16777216 % 4294967296) ((c1.toNat : Int) % 4294967296 * 65536 % 4294967296)) ((c2.toNat : Int) % 4294967296 * 256 % 4294967296)) ((c3.toNat : Int) % 4294967296) = nv (word blk t) := by
  have e : ∀ c : UInt8, (c.toNat : Int) % 4294967296 = nv (BitVec.ofNat 32 c.toNat) := fun c => by rw [byte_mod, nv_of _ (by have := c.toNat_lt; omega)]
  have s24 : ∀ x : BitVec 32, nv x * (16777216 : Int) % (4294967296 : Int) = nv (x <<< 24) := fun x => nv_shl x 24
  have s16 : ∀ x : BitVec 32, nv x * (65536 : Int) % (4294967296 : Int) = nv (x <<< 16) := fun x => nv_shl x 16
  have s8 : ∀ x : BitVec 32, nv x * (256 : Int) % (4294967296 : Int) = nv (x <<< 8) := fun x => nv_shl x 8
  rw [e, e, e, e, s24, s16, s8, nv_or, nv_or, nv_or]
  unfold word
  rw [h0, h1, h2, h3]
  congr 1
  simp only [BitVec.shiftLeft_or_distrib, ← BitVec.shiftLeft_add, BitVec.or_assoc]
theorem keep_set {w : World} {b k t n : Nat} {u v : Value} (h : w.cell? ⟨b, k, none⟩ = some u) (hk : ¬ (k = t)) : ((w.drewN n).setCell ⟨b, t, none⟩ v).cell? ⟨b, k, none⟩ = some u := by
  have h' : (w.drewN n).cell? ⟨b, k, none⟩ = some u := h
  rw [← h']
  exact World.cell?_setCell_other (a := ⟨b, t, none⟩) (b := ⟨b, k, none⟩) _ _ (by intro e; injection e with e1 e2; exact hk e2.symm)
theorem sched_val2 (x16 x15 x7 x2 : BitVec 32) : IntKind.u32.wrap (IntKind.u32.wrap (IntKind.u32.wrap (nv x16 + bits .xor .u32 (bits .xor .u32 (nv (ror x15 7)) (nv (ror x15 18))) (nv x15 / 8)) + nv x7) + bits .xor .u32 (bits .xor .u32 (nv (ror x2 17)) (nv (ror x2 19))) (nv x2 / 1024)) = nv (x16 + s0 x15 + x7 + s1 x2) := by
  rw [nv_shr3, nv_shr10, nv_xor, nv_xor, nv_xor, nv_xor, nv_addw, nv_addw, nv_addw]; rfl
theorem own_eight {w : World} {base g c : Nat} {x0 x1 x2 x3 x4 x5 x6 x7 : BitVec 32} (h : w.ownsRow base 138 1 (.slice (some ⟨g, 0, none⟩) 8 c) 8 (uvs [x0, x1, x2, x3, x4, x5, x6, x7])) :
    ∀ j u, ([.int .u32 (nv x0), .int .u32 (nv x1), .int .u32 (nv x2), .int .u32 (nv x3), .int .u32 (nv x4), .int .u32 (nv x5), .int .u32 (nv x6), .int .u32 (nv x7)] : List Value)[j]? = some u → w.cell? ((⟨g, 0, none⟩ : Addr).add j) = some u := by
  intro j u hj
  have hjl := (List.getElem?_eq_some_iff.1 hj).1
  rw [add0, h.cellAt j (by simpa using hjl)]
  exact hj
def RowV (lo : Nat) (w : World) (v : Value) (l : List (BitVec 32)) : Prop := ∃ g cap, v = .slice (some ⟨g, 0, none⟩) 8 cap ∧ lo ≤ g ∧ ∀ k, k < 8 → w.cell? ⟨g, k, none⟩ = some (.int .u32 (nv (l.getD k 0)))
theorem rowV_of {w : World} {base g c : Nat} {x0 x1 x2 x3 x4 x5 x6 x7 : BitVec 32} (h : w.ownsRow base 138 1 (.slice (some ⟨g, 0, none⟩) (0 + 8) c) (0 + 8) ([] ++ uvs [x0, x1, x2, x3, x4, x5, x6, x7])) : RowV base w (.slice (some ⟨g, 0, none⟩) 8 c) [x0, x1, x2, x3, x4, x5, x6, x7] :=
  ⟨g, c, rfl, (h.lt g rfl).1, fun k hk => by rw [h.cellAt k (by omega)]; exact uvs_get _ k hk⟩
theorem own_empty (w : World) : (w.alloc (.cells #[] 138)).ownsRow w.heap.size 138 1 (.slice (some ⟨w.heap.size, 0, none⟩) 0 0) 0 [] :=
  ⟨rfl, .inr ⟨_, 0, #[], rfl, Nat.le_refl _, heap_alloc_at _ _, Nat.le_refl _, by unfold maxLen; omega, rfl, rfl⟩⟩
theorem drewN_add (w : World) (m k : Nat) : (w.drewN m).drewN k = w.drewN (m + k) := by
  simp [World.drewN, Nat.add_assoc]
theorem rturn_q (x : BitVec 32) (n : Int) (hn : Cnt n) (w : World) (m : Nat) :
    Calls Tryz.prog 92 #[.int .u32 (nv x), .int .i64 n] (w.drewN m) fun e w' => e = .returned (.int .u32 (nv (ror x n.toNat))) ∧ ∃ k, w' = w.drewN k :=
  (rturn_any x n hn (w.drewN m)).mono fun _ _ h => ⟨h.1, by obtain ⟨k, hk⟩ := h.2; exact ⟨m + k, by rw [hk]; exact drewN_add w m k⟩⟩
theorem nv_add5 (a b c d e : BitVec 32) : (nv a + nv b + nv c + nv d + nv e) % (4294967296 : Int) = nv (a + b + c + d + e) := by
  rw [← nv_add, ← nv_add, ← nv_add, ← nv_add]; omega
theorem rone_val (y4 y5 y6 y7 kk wk : BitVec 32) : (nv y7 + bits .xor .u32 (bits .xor .u32 (nv (ror y4 6)) (nv (ror y4 11))) (nv (ror y4 25)) + bits .or .u32 (bits .and .u32 (nv y4) (nv y5)) (bits .and .u32 (bits .xor .u32 IntKind.u32.max (nv y4)) (nv y6)) + nv kk + nv wk) % (4294967296 : Int) = nv (y7 + S1 y4 + ch y4 y5 y6 + kk + wk) := by
  rw [nv_not, nv_and, nv_and, nv_or, nv_xor, nv_xor, nv_add5, ch_or]; rfl
theorem rtwo_val (y0 y1 y2 : BitVec 32) : (bits .xor .u32 (bits .xor .u32 (nv (ror y0 2)) (nv (ror y0 13))) (nv (ror y0 22)) + bits .or .u32 (bits .or .u32 (bits .and .u32 (nv y0) (nv y1)) (bits .and .u32 (nv y0) (nv y2))) (bits .and .u32 (nv y1) (nv y2))) % (4294967296 : Int) = nv (S0 y0 + maj y0 y1 y2) := by
  rw [nv_and, nv_and, nv_and, nv_or, nv_or, nv_xor, nv_xor, nv_add, maj_or]; rfl
theorem rowV_new {lo : Nat} (w : World) (vals : Array Value) (l : List (BitVec 32)) (hlo : lo ≤ w.heap.size) (hl : l.length = 8) (h : vals = ucells l) : RowV lo (w.alloc (.cells vals 138)).drew (.slice (some ⟨w.heap.size, 0, none⟩) 8 8) l :=
  ⟨_, 8, rfl, hlo, fun k hk => by show (w.alloc _).cell? _ = _; rw [cell_of (heap_alloc_at w _), h, ucells_get l k (by omega)]⟩
def Hs (w0 w7 w : World) (gh ch gv : Nat) (xs ys : List (BitVec 32)) (j : Nat) : Prop :=
  w.ownsRow w0.heap.size 138 1 (.slice (some ⟨gh, 0, none⟩) 8 ch) 8 (uvs (addTo xs ys j)) ∧ (∀ k, k < 8 → w.cell? ⟨gv, k, none⟩ = some (.int .u32 (nv (ys.getD k 0)))) ∧ Tch (· = gh) w7 w
theorem hs_cell {w0 w7 w : World} {gh ch gv j : Nat} {xs ys : List (BitVec 32)} (h : Hs w0 w7 w gh ch gv xs ys j) (hj : j < 8) : w.cell? ⟨gh, j, none⟩ = some (.int .u32 (nv (xs.getD j 0))) := by
  rw [h.1.cellAt j (by omega), uvs_get _ j (by rw [addTo_length]; exact hj), addTo_at _ _ _ hj]
theorem hs_next {w0 w7 w : World} {gh ch gv j : Nat} {xs ys : List (BitVec 32)} {A : Int} (h : Hs w0 w7 w gh ch gv xs ys j) (hj : j < 8) (hne : ¬ gv = gh) (hA : A = nv (xs.getD j 0 + ys.getD j 0)) (n : Nat) :
    Hs w0 w7 ((w.setCell ⟨gh, j, none⟩ (.int .u32 A)).drewN n) gh ch gv xs ys (j + 1) := by
  subst hA
  refine ⟨?_, fun k hk => ?_, (h.2.2.setCell ⟨gh, j, none⟩ (fun _ => rfl) _).drewN n⟩
  · have := h.1.stored j (.int .u32 (nv (xs.getD j 0 + ys.getD j 0)))
    rw [show (uvs (addTo xs ys j)).set j (.int .u32 (nv (xs.getD j 0 + ys.getD j 0))) = uvs (addTo xs ys (j + 1)) from by rw [← addTo_set xs ys j hj]; simp [uvs, uv, List.map_set]] at this
    exact this.1
  · show (w.setCell _ _).cell? _ = _
    rw [World.cell?_setCell_other (a := ⟨gh, j, none⟩) (b := ⟨gv, k, none⟩) _ _ (by intro e; injection e with e1 e2; exact hne e1.symm)]
    exact h.2.1 k hk
def Blk (wb W w0 : World) (gh ch : Nat) (bs : List UInt8) (i : Nat) (hs : List (BitVec 32)) : Prop :=
  W.ownsRow w0.heap.size 138 1 (.slice (some ⟨gh, 0, none⟩) 8 ch) 8 (uvs hs) ∧ hs.length = 8 ∧ Tch (· = gh) wb W ∧ runs K hs (bs.drop (64 * i)) = runs K H0 bs
theorem blk_next {wb w7 W w0 : World} {gh ch gv i : Nat} {bs blk : List UInt8} {xs ys : List (BitVec 32)} (hl : 64 * i + 64 ≤ bs.length) (hr : runs K xs (bs.drop (64 * i)) = runs K H0 bs) (hb : blk = (bs.drop (64 * i)).take 64)
    (hv : rounds K (sched (words blk) 48) xs 64 = ys) (ht : Tch (· = gh) wb w7) (h : Hs w0 w7 W gh ch gv xs ys 8) : Blk wb W w0 gh ch bs (i + 1) (compress K xs (words blk)) := by
  refine ⟨by have := h.1; rwa [addTo_end K xs (words blk) ys hv] at this, compress_length _ _ _, ht.trans h.2.2, ?_⟩
  rw [← hr, runs_long K xs (bs.drop (64 * i)) (by rw [List.length_drop]; omega), ← hb, List.drop_drop, show 64 * (i + 1) = 64 * i + 64 from by omega]
theorem blk_end {wb W w0 : World} {gh ch i : Nat} {bs : List UInt8} {hs : List (BitVec 32)} (hl : bs.length ≤ 64 * i) (h : Blk wb W w0 gh ch bs i hs) : runs K H0 bs = hs := by
  rw [← h.2.2.2, List.drop_of_length_le hl, runs_short K hs [] (by simp)]
structure Base (w0 w : World) (gh ch gk gb : Nat) (l : List UInt8) : Prop where
  hown : w.ownsRow w0.heap.size 138 1 (.slice (some ⟨gh, 0, none⟩) 8 ch) 8 (uvs H0)
  k : ∀ j, j < 64 → w.cell? ⟨gk, j, none⟩ = some (.int .u32 (nv (K.getD j 0)))
  b : ∀ j, j < l.length → w.cell? ⟨gb, j, none⟩ = some (.int .u8 ((l.getD j 0).toNat : Int))
  tch : Tch (fun _ => False) w0 w
  ne1 : gk ≠ gh
  ne2 : gb ≠ gh
  lo : w0.heap.size ≤ gh
theorem blk_cell {w0 wb W : World} {gh ch gk gb i N j : Nat} {bs blk : List UInt8} (h : Base w0 wb gh ch gk gb bs) (ht : Tch (· = gh) wb W) (hb : blk = (bs.drop (64 * i)).take 64) (hN : bs.length = N) (hi : 64 * i + 64 ≤ N) (hj : j < 64) :
    W.cell? ⟨gb, 64 * i + j, none⟩ = some (.int .u8 ((blk.getD j 0).toNat : Int)) := by
  rw [ht.cell (h.b (64 * i + j) (by omega)) h.ne2, hb]
  congr 3
  simp only [List.getD_eq_getElem?_getD]
  rw [List.getElem?_take, if_pos hj, List.getElem?_drop]
theorem sum_tch {w0 wb W : World} {gh ch gk gb : Nat} {l : List UInt8} (h : Base w0 wb gh ch gk gb l) (ht : Tch (· = gh) wb W) : Tch (fun _ => False) w0 W :=
  ⟨ht.os.trans h.tch.os, ht.tape.trans h.tch.tape, ht.output.trans h.tch.output, Nat.le_trans h.tch.size ht.size, fun k hk _ =>
    (ht.block k (Nat.lt_of_lt_of_le hk h.tch.size) (show ¬ k = gh from by have := h.lo; omega)).trans (h.tch.block k hk id)⟩
theorem base_start {w0 w1 w2 w3 w : World} {gh ch gk ck gb cb B n : Nat} {l : List UInt8} (h1 : gh < w1.heap.size) (h2 : w1.heap.size ≤ gk) (h3 : gk < B) (h0 : w0.heap.size ≤ gh)
    (o1 : w1.ownsRow w0.heap.size 138 1 (.slice (some ⟨gh, 0, none⟩) 8 ch) 8 (uvs H0)) (t1 : Tch (fun _ => False) w0 w1)
    (o2 : w2.ownsRow w1.heap.size 138 1 (.slice (some ⟨gk, 0, none⟩) 64 ck) 64 (uvs K)) (t2 : Tch (fun _ => False) w1 w2) (hB : w2.heap.size = B) (b1 : Below B w2 w3) (b2 : Below B w3 w)
    (hr : RowB w B (.slice (some ⟨gb, 0, none⟩) n cb) n l) : Base w0 w gh ch gk gb l ∧ l.length = n := by
  have t3 : Tch (fun _ => False) w2 w := Tch.of_new (hB ▸ b1.trans b2)
  have hgb : B ≤ gb := by
    obtain ⟨g', cap', cells, fz, hv, hl, hb, _⟩ := hr
    injection hv with e1 e2 e3
    injection e1 with e1
    injection e1 with e1
    omega
  have hln : l.length = n := by
    obtain ⟨g', cap', cells, fz, hv, hl, hb, _⟩ := hr
    exact hl
  refine ⟨⟨own_keep (own_keep o1 t2) t3, fun j hj => ?_, fun j hj => hr.cells j (by omega), (t1.trans t2).trans t3, by omega, by omega, h0⟩, hln⟩
  have ok := own_keep o2 t3
  rw [ok.cellAt j (by omega), uvs_get K j (by show j < 64; exact hj)]
def zs (n : Nat) : Nat := (119 - n % 64) % 64
theorem zs_more (n j : Nat) (h : j < zs n) : (n + 1 + j) % 64 ≠ 56 := by unfold zs at h; omega
theorem zs_end (n : Nat) : (n + 1 + zs n) % 64 = 56 := by unfold zs; omega
def bz (s : List UInt8) (j : Nat) : List UInt8 := s ++ 128 :: List.replicate j 0
theorem bz_next (s : List UInt8) (j : Nat) : bz s (j + 1) = bz s j ++ [0] := by
  unfold bz; rw [List.append_assoc]; congr 1; rw [List.cons_append]; congr 1; exact List.replicate_succ' ..
def bl (s : List UInt8) (j : Nat) : List UInt8 := bz s (zs s.length) ++ (be8 (s.length * 8)).take j
theorem bl_next (s : List UInt8) (j : Nat) (hj : j < 8) : bl s (j + 1) = bl s j ++ [UInt8.ofNat (s.length * 8 / 2 ^ (8 * (7 - j)))] := by
  unfold bl; rw [List.append_assoc]; congr 1
  rw [List.take_add_one]; congr 1
  simp [be8, List.getElem?_range hj]
theorem bl_end (s : List UInt8) : bl s 8 = s ++ padding s.length := by
  unfold bl bz padding zs
  rw [List.take_of_length_le (by simp [be8]), List.append_assoc]
def loops : Code → List Code
  | .loop c => .loop c :: loops c
  | .seq a b => loops a ++ loops b
  | .block _ c => loops c
  | .scope c => loops c
  | .cond _ a b => loops a ++ loops b
  | _ => []
noncomputable def roundsLoop : Code := ((Tryz.f51.body.map loops).getD []).getD 4 .skip
set_option maxRecDepth 1000000 in
set_option maxHeartbeats 4000000 in
theorem rounds_loop (gk ck gw cw wv : Nat) (full : List (BitVec 32)) (x0 x1 x2 x3 x4 x5 x6 x7 : BitVec 32) (w6 : World) (v0 : Value)
    (hlo : wv ≤ w6.heap.size) (hr0 : RowV wv w6 v0 [x0, x1, x2, x3, x4, x5, x6, x7]) (hK : ∀ j, j < 64 → w6.cell? ⟨gk, j, none⟩ = some (.int .u32 (nv (K.getD j 0)))) (hF : ∀ j, j < 64 → w6.cell? ⟨gw, j, none⟩ = some (.int .u32 (nv (full.getD j 0))))
    (u0 u1 u2 u3 u5 u6 u7 u8 u10 u11 u12 u13 u16 u17 u18 u19 u20 u21 u22 u23 u24 u25 u26 u27 u28 u29 u30 u31 u32 u33 u34 u35 u36 u37 u38 u39 u40 u41 u42 u43 u44 u45 u46 u47 u48 u49 u50 u51 u52 u53 u54 u55 u56 u57 u58 u59 u60 u61 u62 u63 u64 u65 u66 u67 u68 u69 u70 u71 u72 u73 u74 u75 u76 u77 u78 u79 u80 u81 u82 u83 u84 u85 u86 u87 u88 u89 u90 u91 u92 u93 u94 u95 u96 u97 u98 u99 u100 u101 u102 u103 u104 u105 u106 u107 u108 u109 u110 u111 u112 u113 u114 u115 u116 u117 u118 u119 u120 u121 u122 u123 u124 u125 u126 u127 u128 u129 u130 u131 u132 u133 u134 u135 u136 u137 u138 u139 u140 u141 u142 u143 u144 u145 u146 u147 u148 u149 u150 u151 u152 u153 u154 u155 u156 u157 u158 u159 u160 u161 u162 u163 u164 u165 u166 u167 u168 u169 u170 u171 u172 u173 u174 u175 u176 u177 u178 u179 u180 u181 u182 u183 u184 u185 u186 u187 u188 u189 u190 u191 u192 u193 u194 u195 u196 u197 u198 u199 u200 u201 u202 u203 u204 u205 u206 u207 u208 u209 u210 u211 u212 u213 u214 u215 u216 u217 u218 u219 u220 u221 u222 u223 u224 u225 u226 u227 u228 u229 u230 u231 u232 u233 u234 u235 u236 u237 u238 u239 u240 u241 u242 u243 u244 u245 u246 u247 u248 u249 u250 u251 u252 u253 u254 u255 u256 u257 u258 u259 u260 u261 u262 u263 u264 u265 u266 u267 u268 u269 u270 u271 u272 u273 u274 u275 u276 u277 u278 u279 u280 u281 u282 u283 u284 u285 u286 u287 u288 u289 u290 u291 u292 : Value) (Q0 : Exit → Act → World → Prop)
    (hexit : ∀ (c16 c17 c18 c19 c145 c146 c147 c148 c149 c150 c151 c152 c153 c154 c155 c156 c157 c158 c159 c160 c161 c162 c163 c164 c165 c166 c167 c168 c169 c170 c171 c172 c173 c174 c175 c176 c177 c178 c179 c180 c181 c182 c183 c184 c185 c186 c187 c188 c189 c190 c191 c192 c193 c194 c195 c196 c197 c198 c199 c200 c201 c202 c203 c204 c205 c206 c207 c208 c209 c210 c211 c212 c213 c214 c215 c216 c217 c218 c219 c220 c221 c222 c223 c224 c225 c226 c227 c228 c229 c230 c231 c232 c233 c234 c235 c236 c237 c238 c239 c240 c241 c242 c243 c244 v1 : Value) (W : World), RowV wv W v1 (rounds K full [x0, x1, x2, x3, x4, x5, x6, x7] 64) → Tch (fun _ => False) w6 W → Q0 (.exit 8) ⟨List.toArray (u0 :: u1 :: u2 :: u3 :: .slice (some ⟨gk, 0, none⟩) 64 ck :: u5 :: u6 :: u7 :: u8 :: .slice (some ⟨gw, 0, none⟩) 64 cw :: u10 :: u11 :: u12 :: u13 :: v1 :: .int .i64 ((64 : Nat) : Int) :: c16 :: c17 :: c18 :: c19 :: u20 :: u21 :: u22 :: u23 :: u24 :: u25 :: u26 :: u27 :: u28 :: u29 :: u30 :: u31 :: u32 :: u33 :: u34 :: u35 :: u36 :: u37 :: u38 :: u39 :: u40 :: u41 :: u42 :: u43 :: u44 :: u45 :: u46 :: u47 :: u48 :: u49 :: u50 :: u51 :: u52 :: u53 :: u54 :: u55 :: u56 :: u57 :: u58 :: u59 :: u60 :: u61 :: u62 :: u63 :: u64 :: u65 :: u66 :: u67 :: u68 :: u69 :: u70 :: u71 :: u72 :: u73 :: u74 :: u75 :: u76 :: u77 :: u78 :: u79 :: u80 :: u81 :: u82 :: u83 :: u84 :: u85 :: u86 :: u87 :: u88 :: u89 :: u90 :: u91 :: u92 :: u93 :: u94 :: u95 :: u96 :: u97 :: u98 :: u99 :: u100 :: u101 :: u102 :: u103 :: u104 :: u105 :: u106 :: u107 :: u108 :: u109 :: u110 :: u111 :: u112 :: u113 :: u114 :: u115 :: u116 :: u117 :: u118 :: u119 :: u120 :: u121 :: u122 :: u123 :: u124 :: u125 :: u126 :: u127 :: u128 :: u129 :: u130 :: u131 :: u132 :: u133 :: u134 :: u135 :: u136 :: u137 :: u138 :: u139 :: u140 :: u141 :: u142 :: u143 :: u144 :: c145 :: c146 :: c147 :: c148 :: c149 :: c150 :: c151 :: c152 :: c153 :: c154 :: c155 :: c156 :: c157 :: c158 :: c159 :: c160 :: c161 :: c162 :: c163 :: c164 :: c165 :: c166 :: c167 :: c168 :: c169 :: c170 :: c171 :: c172 :: c173 :: c174 :: c175 :: c176 :: c177 :: c178 :: c179 :: c180 :: c181 :: c182 :: c183 :: c184 :: c185 :: c186 :: c187 :: c188 :: c189 :: c190 :: c191 :: c192 :: c193 :: c194 :: c195 :: c196 :: c197 :: c198 :: c199 :: c200 :: c201 :: c202 :: c203 :: c204 :: c205 :: c206 :: c207 :: c208 :: c209 :: c210 :: c211 :: c212 :: c213 :: c214 :: c215 :: c216 :: c217 :: c218 :: c219 :: c220 :: c221 :: c222 :: c223 :: c224 :: c225 :: c226 :: c227 :: c228 :: c229 :: c230 :: c231 :: c232 :: c233 :: c234 :: c235 :: c236 :: c237 :: c238 :: c239 :: c240 :: c241 :: c242 :: c243 :: c244 :: u245 :: u246 :: u247 :: u248 :: u249 :: u250 :: u251 :: u252 :: u253 :: u254 :: u255 :: u256 :: u257 :: u258 :: u259 :: u260 :: u261 :: u262 :: u263 :: u264 :: u265 :: u266 :: u267 :: u268 :: u269 :: u270 :: u271 :: u272 :: u273 :: u274 :: u275 :: u276 :: u277 :: u278 :: u279 :: u280 :: u281 :: u282 :: u283 :: u284 :: u285 :: u286 :: u287 :: u288 :: u289 :: u290 :: u291 :: u292 :: []), []⟩ W) :
    Code.wp Tryz.prog roundsLoop Q0 ⟨List.toArray (u0 :: u1 :: u2 :: u3 :: .slice (some ⟨gk, 0, none⟩) 64 ck :: u5 :: u6 :: u7 :: u8 :: .slice (some ⟨gw, 0, none⟩) 64 cw :: u10 :: u11 :: u12 :: u13 :: v0 :: .int .i64 0 :: u16 :: u17 :: u18 :: u19 :: u20 :: u21 :: u22 :: u23 :: u24 :: u25 :: u26 :: u27 :: u28 :: u29 :: u30 :: u31 :: u32 :: u33 :: u34 :: u35 :: u36 :: u37 :: u38 :: u39 :: u40 :: u41 :: u42 :: u43 :: u44 :: u45 :: u46 :: u47 :: u48 :: u49 :: u50 :: u51 :: u52 :: u53 :: u54 :: u55 :: u56 :: u57 :: u58 :: u59 :: u60 :: u61 :: u62 :: u63 :: u64 :: u65 :: u66 :: u67 :: u68 :: u69 :: u70 :: u71 :: u72 :: u73 :: u74 :: u75 :: u76 :: u77 :: u78 :: u79 :: u80 :: u81 :: u82 :: u83 :: u84 :: u85 :: u86 :: u87 :: u88 :: u89 :: u90 :: u91 :: u92 :: u93 :: u94 :: u95 :: u96 :: u97 :: u98 :: u99 :: u100 :: u101 :: u102 :: u103 :: u104 :: u105 :: u106 :: u107 :: u108 :: u109 :: u110 :: u111 :: u112 :: u113 :: u114 :: u115 :: u116 :: u117 :: u118 :: u119 :: u120 :: u121 :: u122 :: u123 :: u124 :: u125 :: u126 :: u127 :: u128 :: u129 :: u130 :: u131 :: u132 :: u133 :: u134 :: u135 :: u136 :: u137 :: u138 :: u139 :: u140 :: u141 :: u142 :: u143 :: u144 :: u145 :: u146 :: u147 :: u148 :: u149 :: u150 :: u151 :: u152 :: u153 :: u154 :: u155 :: u156 :: u157 :: u158 :: u159 :: u160 :: u161 :: u162 :: u163 :: u164 :: u165 :: u166 :: u167 :: u168 :: u169 :: u170 :: u171 :: u172 :: u173 :: u174 :: u175 :: u176 :: u177 :: u178 :: u179 :: u180 :: u181 :: u182 :: u183 :: u184 :: u185 :: u186 :: u187 :: u188 :: u189 :: u190 :: u191 :: u192 :: u193 :: u194 :: u195 :: u196 :: u197 :: u198 :: u199 :: u200 :: u201 :: u202 :: u203 :: u204 :: u205 :: u206 :: u207 :: u208 :: u209 :: u210 :: u211 :: u212 :: u213 :: u214 :: u215 :: u216 :: u217 :: u218 :: u219 :: u220 :: u221 :: u222 :: u223 :: u224 :: u225 :: u226 :: u227 :: u228 :: u229 :: u230 :: u231 :: u232 :: u233 :: u234 :: u235 :: u236 :: u237 :: u238 :: u239 :: u240 :: u241 :: u242 :: u243 :: u244 :: u245 :: u246 :: u247 :: u248 :: u249 :: u250 :: u251 :: u252 :: u253 :: u254 :: u255 :: u256 :: u257 :: u258 :: u259 :: u260 :: u261 :: u262 :: u263 :: u264 :: u265 :: u266 :: u267 :: u268 :: u269 :: u270 :: u271 :: u272 :: u273 :: u274 :: u275 :: u276 :: u277 :: u278 :: u279 :: u280 :: u281 :: u282 :: u283 :: u284 :: u285 :: u286 :: u287 :: u288 :: u289 :: u290 :: u291 :: u292 :: []), []⟩ w6 := by
  unfold roundsLoop
  conv => arg 2; whnf
  have hlo6 := Lib.hid hlo
  replace hr0 := Lib.hid hr0
  have hKc6 := Lib.hid hK
  have hFc6 := Lib.hid hF
  have hexH := Lib.hid hexit
  clear hlo hK hF hexit
  go_loopg [14, 15] 64 (fun g v i' W => ∃ t : Nat, g = 64 - t ∧ t ≤ 64 ∧ i' = .int .i64 t ∧ RowV wv W v (rounds K full [x0, x1, x2, x3, x4, x5, x6, x7] t) ∧ Tch (fun _ => False) w6 W)
  case atStart => exact ⟨0, rfl, by omega, rfl, hr0.out, Tch.refl _ _⟩
  case round =>
    clear hr0
    obtain ⟨t, hg, ht, rfl, hr, htc⟩ := hrel
    subst hg
    obtain ⟨y0, y1, y2, y3, y4, y5, y6, y7, hv⟩ := eight (rounds_length K full [x0, x1, x2, x3, x4, x5, x6, x7] rfl t)
    by_cases htl : t < 64
    · have hnx := Lib.hid (round_next K full [x0, x1, x2, x3, x4, x5, x6, x7] t hv)
      rw [hv] at hr
      obtain ⟨gv, cv, rfl, _, hcv⟩ := hr
      have hc0 := hcv 0 (by omega)
      have hc1 := hcv 1 (by omega)
      have hc2 := hcv 2 (by omega)
      have hc3 := hcv 3 (by omega)
      have hc4 := hcv 4 (by omega)
      have hc5 := hcv 5 (by omega)
      have hc6 := hcv 6 (by omega)
      have hc7 := hcv 7 (by omega)
      simp only [List.getD_cons_zero, List.getD_cons_succ] at hc0 hc1 hc2 hc3 hc4 hc5 hc6 hc7
      have hck := htc.cell (hKc6.out t htl) (fun e => e)
      have hcf := htc.cell (hFc6.out t htl) (fun e => e)
      have hti : (t : Int) < 64 := by omega
      have htcH := Lib.hid htc
      clear hcv hv htc
      generalize full.getD t 0 = wk at *
      generalize K.getD t 0 = kk at *
      go_wp2_with fail
      go_quiet ((go_at_call 92; exact rturn_q _ _ (by unfold Cnt; omega) _ _))
      go_wp2_with fail
      replace hc0 : (wr.drewN nq).cell? ⟨gv, 0, none⟩ = some (.int .u32 (nv y0)) := hc0
      replace hc1 : (wr.drewN nq).cell? ⟨gv, 1, none⟩ = some (.int .u32 (nv y1)) := hc1
      replace hc2 : (wr.drewN nq).cell? ⟨gv, 2, none⟩ = some (.int .u32 (nv y2)) := hc2
      replace hc3 : (wr.drewN nq).cell? ⟨gv, 3, none⟩ = some (.int .u32 (nv y3)) := hc3
      replace hc4 : (wr.drewN nq).cell? ⟨gv, 4, none⟩ = some (.int .u32 (nv y4)) := hc4
      replace hc5 : (wr.drewN nq).cell? ⟨gv, 5, none⟩ = some (.int .u32 (nv y5)) := hc5
      replace hc6 : (wr.drewN nq).cell? ⟨gv, 6, none⟩ = some (.int .u32 (nv y6)) := hc6
      replace hc7 : (wr.drewN nq).cell? ⟨gv, 7, none⟩ = some (.int .u32 (nv y7)) := hc7
      replace htcH := Lib.hid (htcH.out.drewN nq)
      generalize wr.drewN nq = wq at *
      go_quiet ((go_at_call 92; exact rturn_q _ _ (by unfold Cnt; omega) _ _))
      go_wp2_with fail
      replace hc0 : (wq.drewN nq).cell? ⟨gv, 0, none⟩ = some (.int .u32 (nv y0)) := hc0
      replace hc1 : (wq.drewN nq).cell? ⟨gv, 1, none⟩ = some (.int .u32 (nv y1)) := hc1
      replace hc2 : (wq.drewN nq).cell? ⟨gv, 2, none⟩ = some (.int .u32 (nv y2)) := hc2
      replace hc3 : (wq.drewN nq).cell? ⟨gv, 3, none⟩ = some (.int .u32 (nv y3)) := hc3
      replace hc4 : (wq.drewN nq).cell? ⟨gv, 4, none⟩ = some (.int .u32 (nv y4)) := hc4
      replace hc5 : (wq.drewN nq).cell? ⟨gv, 5, none⟩ = some (.int .u32 (nv y5)) := hc5
      replace hc6 : (wq.drewN nq).cell? ⟨gv, 6, none⟩ = some (.int .u32 (nv y6)) := hc6
      replace hc7 : (wq.drewN nq).cell? ⟨gv, 7, none⟩ = some (.int .u32 (nv y7)) := hc7
      replace htcH := Lib.hid (htcH.out.drewN nq)
      generalize wq.drewN nq = wp at *
      rw [rone_val, rtwo_val]
      generalize y7 + S1 y4 + Sha.ch y4 y5 y6 + kk + wk = one at *
      generalize S0 y0 + Sha.maj y0 y1 y2 = two at *
      clear hck hcf
      refine wp_region_still_tail 26 (by kernel_rfl) (by kernel_rfl) ?_
      change wpStill _ _ wp.drew _ _ _
      simp only [List.take_succ_cons, List.take_zero, List.drop_succ_cons, List.drop_zero]
      repeat still_step
      refine wpStill_nil ?_
      change wpList _ _ _ _ _ wp.drew
      go_wp2_with fail
      go_roundg (64 - (t + 1))
      case measure => omega
      case rel =>
        refine ⟨t + 1, rfl, by omega, by go_num, ?_, ?_⟩
        · rw [hnx.out]
          exact rowV_new wp _ _ (Nat.le_trans hlo6.out htcH.out.size) rfl (by rw [nv_add, nv_add]; rfl)
        · exact (htcH.out.alloc _).drew
    · have ht64 : t = 64 := by omega
      subst ht64
      have htcH := Lib.hid htc
      have hrH := Lib.hid hr
      clear hr htc hv
      go_wp2_with fail
      apply hexH.out
      · exact hrH.out
      · exact htcH.out
end Go.Proofs.YtbiioaggilaebaaGreatDoor.Ref
set_option linter.unusedVariables false
set_option linter.unusedSimpArgs false
namespace Go.Proofs.YtbiioaggilaebaaGreatDoor.Dig
open Go Go.RowKit Go.Proofs.YtbiioaggilaebaaGreatDoorW.PrintWords Go.Proofs.YtbiioaggilaebaaGreatDoor.Sha
open Go.Proofs.YtbiioaggilaebaaGreatDoor.Lin (bs bs_data bs_of bs_size size_list wrap_at)
def dv (c : UInt8) : Option Nat := if 48 ≤ c.toNat ∧ c.toNat ≤ 57 then some (c.toNat - 48) else if 97 ≤ c.toNat ∧ c.toNat ≤ 102 then some (c.toNat - 87) else none
theorem dv_lt {c : UInt8} {n : Nat} (h : dv c = some n) : n < 16 := by
  unfold dv at h
  split at h
  · injection h with h; omega
  · split at h
    · injection h with h; omega
    · cases h
def pair (a b : UInt8) : Option UInt8 := match dv a, dv b with
  | some x, some y => some (UInt8.ofNat (16 * x + y))
  | _, _ => none
def rawL : List UInt8 → Option (List UInt8)
  | [] => some []
  | [_] => none
  | a :: b :: l => match pair a b, rawL l with
    | some c, some r => some (c :: r)
    | _, _ => none
theorem rawL_len : ∀ (l : List UInt8) (r : List UInt8), rawL l = some r → l.length = 2 * r.length
  | [], r, h => by cases h; rfl
  | [_], r, h => by cases h
  | a :: b :: l, r, h => by
    unfold rawL at h
    split at h
    · rename_i c r' h1 h2
      cases h
      have := rawL_len l _ h2
      simp only [List.length_cons]
      omega
    · cases h
theorem dv_dig (n : Nat) (h : n < 16) : dv (dig n) = some n := by
  have : ∀ n, n < 16 → dv (dig n) = some n := by decide
  exact this n h
theorem rawL_hexL (l : List UInt8) : rawL (hexL l) = some l := by
  induction l with
  | nil => rfl
  | cons c l ih =>
    have e : hexL (c :: l) = dig (c.toNat / 16) :: dig (c.toNat % 16) :: hexL l := by simp [hexL, List.flatMap_cons]
    have hc := c.toNat_lt
    rw [e]
    unfold rawL
    unfold pair
    rw [dv_dig _ (by omega), dv_dig _ (by omega), ih]
    simp only []
    rw [show 16 * (c.toNat / 16) + c.toNat % 16 = c.toNat from by omega]
    simp
def allD (l : List UInt8) : Bool := l.all fun c => (dv c).isSome
theorem rawL_some {l : List UInt8} (h : allD l = true) (h2 : l.length % 2 = 0) : ∃ r, rawL l = some r := by
  match l, h, h2 with
  | [], _, _ => exact ⟨[], rfl⟩
  | [_], _, h2 => simp at h2
  | a :: b :: l, h, h2 =>
    unfold allD at h
    simp only [List.all_cons, Bool.and_eq_true] at h
    obtain ⟨ha, hb, hl⟩ := h
    obtain ⟨r, hr⟩ := rawL_some (l := l) hl (by simp only [List.length_cons] at h2; omega)
    obtain ⟨x, hx⟩ := Option.isSome_iff_exists.1 ha
    obtain ⟨y, hy⟩ := Option.isSome_iff_exists.1 hb
    exact ⟨_, by unfold rawL; unfold pair; rw [hx, hy, hr]⟩
theorem rawL_all : ∀ {l r : List UInt8}, rawL l = some r → allD l = true
  | [], _, _ => rfl
  | [_], _, h => by cases h
  | a :: b :: l, r, h => by
    unfold rawL at h
    split at h
    · rename_i c r' h1 h2
      have ih := rawL_all h2
      unfold pair at h1
      split at h1
      · rename_i x y hx hy
        unfold allD at ih ⊢
        rw [List.all_cons, List.all_cons, hx, hy, ih]
        rfl
      · cases h1
    · cases h
theorem rawL_even {l r : List UInt8} (h : rawL l = some r) : l.length % 2 = 0 := by have := rawL_len l r h; omega
theorem rawL_odd {l : List UInt8} (h : ¬ l.length % 2 = 0) : rawL l = none := by
  cases e : rawL l with
  | none => rfl
  | some r => exact absurd (rawL_even e) h
theorem rawL_notD {l : List UInt8} (h : allD l = false) : rawL l = none := by
  cases e : rawL l with
  | none => rfl
  | some r => rw [rawL_all e] at h; cases h
theorem digit_k (k : Nat) (a : Int) : PRight.tambourref03_digit.f (k + 1) a = PRight.tambourref03_digit.f 1 a := by
  unfold PRight.tambourref03_digit.f
  simp only [PRight.tambourref03_digit.j0]
def dvI (c : UInt8) : Int := match dv c with | some n => (n : Int) | none => -1
theorem dvI_some {c : UInt8} {n : Nat} (h : dv c = some n) : dvI c = n := by unfold dvI; rw [h]
theorem dvI_none {c : UInt8} (h : dv c = none) : dvI c = -1 := by unfold dvI; rw [h]
theorem digit_f (c : UInt8) (k : Nat) : PRight.tambourref03_digit.f (k + 1) (c.toNat : Int) = some (dvI c) := by
  have : ∀ n : Fin 256, PRight.tambourref03_digit.f 1 (n.val : Int) = some (dvI (UInt8.ofFin n)) := by decide +kernel
  rw [digit_k]
  exact this c.toFin
def nums (l : List UInt8) : List Int := l.map fun c => (c.toNat : Int)
theorem strOfNums_nums (l : List UInt8) : strOfNums (nums l) = bs l := by
  unfold strOfNums nums bs
  rw [List.map_map]
  congr 1
  congr 1
  conv => rhs; rw [← List.map_id l]
  apply List.map_congr_left
  intro c _
  simp
def outR (out : List UInt8) (o : Option (List UInt8)) : ByteArray × Int := match o with
  | some r => (bs (out ++ r), 0)
  | none => (⟨#[]⟩, 4)
def rawR (l : List UInt8) : ByteArray × Int := outR [] (rawL l)
theorem pair_some {a b : UInt8} {x y : Nat} (ha : dv a = some x) (hb : dv b = some y) : pair a b = some (UInt8.ofNat (16 * x + y)) := by unfold pair; rw [ha, hb]
theorem rawL_two (a b : UInt8) (l : List UInt8) : rawL (a :: b :: l) = (match pair a b, rawL l with
    | some c, some r => some (c :: r)
    | _, _ => none) := rfl
theorem rawL_bad {a b : UInt8} {l : List UInt8} (h : pair a b = none) : rawL (a :: b :: l) = none := by rw [rawL_two, h]
theorem rawL_good {a b c : UInt8} {l : List UInt8} (h : pair a b = some c) : rawL (a :: b :: l) = (rawL l).map (c :: ·) := by rw [rawL_two, h]; cases rawL l <;> rfl
theorem outR_step (out : List UInt8) (c : UInt8) (o : Option (List UInt8)) : outR (out ++ [c]) o = outR out (o.map (c :: ·)) := by
  cases o with
  | none => rfl
  | some r => simp [outR, List.append_assoc]
theorem byte_two {x y : Nat} (hx : x < 16) (hy : y < 16) : wrap64 (wrap64 ((x : Int) * 16) + (y : Int)) % 256 = (((UInt8.ofNat (16 * x + y)).toNat : Nat) : Int) := by
  have h1 : wrap64 ((x : Int) * 16) = (x : Int) * 16 := by unfold wrap64; omega
  have h2 : wrap64 ((x : Int) * 16 + (y : Int)) = (x : Int) * 16 + (y : Int) := by unfold wrap64; omega
  rw [h1, h2, UInt8.toNat_ofNat', Nat.mod_eq_of_lt (by omega)]
  omega
theorem drop_two {l : List UInt8} {i : Nat} (h : i + 1 < l.length) : l.drop i = l.getD i 0 :: l.getD (i + 1) 0 :: l.drop (i + 2) := by
  rw [List.drop_eq_getElem_cons (by omega), List.drop_eq_getElem_cons h, List.getD_eq_getElem?_getD, List.getD_eq_getElem?_getD, List.getElem?_eq_getElem h, List.getElem?_eq_getElem (by omega)]
  rfl
theorem raw_l0 (s : ByteArray) (hs : s.size ≤ 140737488351232) (n : Nat) : ∀ (k i : Nat) (out : List UInt8), i + 2 * n = s.size → out.length ≤ i → 2 * n + 3 ≤ k →
    PRight.tambourref03_Raw.l0 k s (nums out) i = some (outR out (rawL (s.data.toList.drop i))) := by
  induction n with
  | zero =>
    intro k i out hi ho hk
    obtain ⟨k, rfl⟩ : ∃ m, k = m + 1 := ⟨k - 1, by omega⟩
    simp only [PRight.tambourref03_Raw.l0]
    rw [if_neg (by omega), List.drop_of_length_le (by rw [size_list]; omega), strOfNums_nums]
    simp [rawL, outR]
  | succ n ih =>
    intro k i out hi ho hk
    obtain ⟨k, rfl⟩ : ∃ m, k = m + 3 := ⟨k - 3, by omega⟩
    have w1 : wrap64 ((i : Int) + 1) = ((i + 1 : Nat) : Int) := by rw [wrap_at (by omega) (by omega)]; omega
    have w2 : wrap64 ((i : Int) + 2) = ((i + 2 : Nat) : Int) := by unfold wrap64; omega
    have hd := drop_two (l := s.data.toList) (i := i) (by rw [size_list]; omega)
    simp only [PRight.tambourref03_Raw.l0]
    rw [if_pos (by omega), if_pos (by omega), Lin.bt_at s i (by omega), digit_f]
    rw [Option.bind_some]
    rw [w1, Lin.bt_at s (i + 1) (by omega), digit_f, hd]
    cases ha : dv (s.data.toList.getD i 0) with
    | none =>
      rw [dvI_none ha, if_pos (by omega)]
      simp only [PRight.tambourref03_Raw.j1, if_true]
      rw [rawL_bad (by unfold pair; rw [ha])]
      rfl
    | some x =>
      have hx := dv_lt ha
      rw [dvI_some ha, if_neg (by omega), if_pos (by omega), if_pos (by omega)]
      rw [Option.bind_some]
      cases hb : dv (s.data.toList.getD (i + 1) 0) with
      | none =>
        rw [dvI_none hb]
        simp only [PRight.tambourref03_Raw.j1]
        rw [if_pos (by decide)]
        rw [rawL_bad (by unfold pair; rw [ha, hb])]
        rfl
      | some y =>
        have hy := dv_lt hb
        rw [dvI_some hb]
        simp only [PRight.tambourref03_Raw.j1]
        rw [if_neg (by simp), if_pos (by omega), if_pos (by omega), Lin.bt_at s i (by omega), digit_f]
        rw [Option.bind_some]
        rw [w1, if_pos (by omega), if_pos (by omega), Lin.bt_at s (i + 1) (by omega), digit_f]
        rw [Option.bind_some]
        rw [dvI_some ha, dvI_some hb]
        rw [if_pos (by unfold nums; rw [List.length_map]; omega), w2]
        have e : nums out ++ [wrap64 (wrap64 ((x : Int) * 16) + (y : Int)) % 256] = nums (out ++ [UInt8.ofNat (16 * x + y)]) := by
          rw [byte_two hx hy]
          unfold nums
          rw [List.map_append]
          rfl
        rw [e, ih (k + 1) (i + 2) _ (by omega) (by rw [List.length_append, List.length_singleton]; omega) (by omega), outR_step, rawL_good (pair_some ha hb)]
theorem raw_f (s : ByteArray) (hs : s.size ≤ 140737488351232) : PRight.tambourref03_Raw.f (s.size + 3) s = some (rawR s.data.toList) := by
  have h0 := fun h1 h2 => raw_l0 s hs (s.size / 2) (s.size + 3) 0 [] h1 h2 (by omega)
  generalize s.size + 3 = k at *
  unfold PRight.tambourref03_Raw.f rawR
  by_cases h : s.size % 2 = 0
  · rw [if_pos (by omega)]
    exact h0 (by omega) (by simp)
  · rw [if_neg (by omega), rawL_odd (by rw [size_list]; exact h)]
    rfl
def rightL (l : List UInt8) : Bool := decide (l.length = 64) && (rawL l).isSome
theorem rawR_ok (l : List UInt8) : ((rawR l).2 == 0) = (rawL l).isSome := by
  unfold rawR
  cases rawL l <;> rfl
theorem right_f (s : ByteArray) (hs : s.size ≤ 140737488351232) : PRight.tambourref03_Right.f (s.size + 3) s = some (rightL s.data.toList) := by
  have h0 := raw_f s hs
  generalize s.size + 3 = k at *
  unfold PRight.tambourref03_Right.f
  rw [h0, Option.bind_some, rawR_ok]
  unfold rightL
  rw [size_list]
  by_cases h : s.size = 64
  · rw [if_pos (by omega), decide_eq_true h, Bool.true_and]
  · rw [if_neg (by omega), decide_eq_false h, Bool.false_and]
theorem rightRef (s : ByteArray) (w : World) (hs : s.size ≤ 140737488351232) : Calls Tryz.prog 81 #[.string s] w fun e w' => e = .returned (.bool (rightL s.data.toList)) ∧ Below w.heap.size w w' :=
  PRight.tambourref03_Right.calls (s.size + 3) s _ w (right_f s hs)
end Go.Proofs.YtbiioaggilaebaaGreatDoor.Dig
set_option linter.unusedVariables false
set_option linter.unusedSimpArgs false
namespace Go.Proofs.YtbiioaggilaebaaGreatDoor.Tm
open Go Go.RowKit Go.Proofs.YtbiioaggilaebaaGreatDoor.B Go.Proofs.YtbiioaggilaebaaGreatDoor.Bld
def ReadPost (s : ByteArray) (w : World) (ev : Ending) (w' : World) : Prop :=
  ∃ f c0 c1 c2 er, ev = .returned (.tuple #[.agg #[c0, c1, c2], er]) ∧ FK (fun b => w.heap.size ≤ b ∧ b < w'.heap.size) w' f [c0, c1, c2] ∧ (f.small = true ∧ (er = .nilIface ∨ er = errno 5)) ∧
    (∀ f', f'.right = true → f'.depth ≤ 8 → s.data.toList = f'.bytes → er = .nilIface ∧ f = f') ∧ Below w.heap.size w w'
theorem blk1 {X : World} {b : Nat} {x : Value} {t : TypeId} (h : X.heap[b]? = some (.cells #[x] t (0, 0))) : X.cell? ⟨b, 0, none⟩ = some x := by rw [cell_of h]; rfl
set_option maxRecDepth 100000 in
set_option maxHeartbeats 4000000 in
theorem read_c (s : ByteArray) (w : World) (hs : s.size ≤ 65536) : Calls Tryz.prog 52 #[.string s] w (ReadPost s w) := by
  have hsi : ¬ (65536 : Int) < (s.size : Int) := by omega
  obtain ⟨w0, hw0⟩ : ∃ w0, w0 = w.alloc (.cells #[.bool false, .string ⟨#[]⟩, .slice none 0 0] 74) := ⟨_, rfl⟩
  have hs0 : w0.heap.size = w.heap.size + 1 := by rw [hw0]; simp
  have hr0 : w0.heap[w.heap.size]? = some (.cells #[.bool false, .string ⟨#[]⟩, .slice none 0 0] 74 (0, 0)) := by rw [hw0]; exact heap_alloc_at _ _
  have hb0 : Below w.heap.size w w0 := by rw [hw0]; exact (Below.refl _ _).alloc (Nat.le_refl _) _
  obtain ⟨w1, hw1⟩ : ∃ w1, w1 = w0.alloc (.cells #[.string s] 142) := ⟨_, rfl⟩
  have hs1 : w1.heap.size = w.heap.size + 2 := by rw [hw1]; simp [hs0]
  have hg1 : RdAt w1 (w.heap.size + 1) s := by unfold RdAt; rw [hw1, ← hs0]; exact heap_alloc_at _ _
  have hr1 : w1.heap[w.heap.size]? = some (.cells #[.bool false, .string ⟨#[]⟩, .slice none 0 0] 74 (0, 0)) := by rw [hw1, heap_alloc_lt _ _ _ (heap_lt hr0)]; exact hr0
  have hb1 : Below w.heap.size w w1 := by rw [hw1]; exact hb0.alloc (by omega) _
  have CI := Lib.hid (show Calls Tryz.prog 93 #[.pointer (some ⟨w.heap.size + 1, 0, none⟩), .int .i64 0] w1 (ItemPost (w.heap.size + 1) 0 s w1) from item_c _ 8 0 rfl s w1 hg1 hs)
  have hs0H := Lib.hid hs0
  replace hs1 := Lib.hid hs1
  replace hr1 := Lib.hid hr1
  replace hb1 := Lib.hid hb1
  clear hs0 hr0 hb0 hg1
  go_enter Tryz.func52, Tryz.ntmps52
  go_upto_region 1 with fail
  rw [← hw0]
  replace hw0 := Lib.hid hw0
  go_upto_region 4 with fail
  rw [hs0H.out, ← hw1]
  replace hw1 := Lib.hid hw1
  go_wp2_with fail
  refine (CI.out).mono ?_
  rintro ev w3 ⟨f, x0, x1, x2, ok, r3, rfl, hFK, hg3, hsp3, hT3⟩
  have hb3 := hT3.heap hr1.out (show ¬ w.heap.size = w.heap.size + 1 by omega)
  have hbw := Lib.hid (hb1.out.trans (hT3.below (B := w.heap.size) (by rw [hs1.out]; omega) (fun k hk _ => by subst hk; omega)))
  obtain ⟨fb, ft, fl⟩ := f
  have hFK2 := hFK
  unfold FK at hFK2
  obtain ⟨A2, c2, hcs, _⟩ := hFK2
  simp only [List.cons.injEq, and_true] at hcs
  obtain ⟨rfl, rfl, rfl⟩ := hcs
  obtain ⟨nl, hnl⟩ : ∃ nl, nl = fl.length := ⟨_, rfl⟩
  rw [← hnl] at hFK ⊢
  obtain ⟨w4, hw4⟩ : ∃ w4, w4 = w3.alloc (.cells #[.bool fb, .string ⟨ft.toArray⟩, .slice A2 nl c2] 74) := ⟨_, rfl⟩
  have hx4 : w4.heap[w3.heap.size]? = some (.cells #[.bool fb, .string ⟨ft.toArray⟩, .slice A2 nl c2] 74 (0, 0)) := by rw [hw4]; exact heap_alloc_at _ _
  have hb4 : w4.heap[w.heap.size]? = some (.cells #[.bool false, .string ⟨#[]⟩, .slice none 0 0] 74 (0, 0)) := by rw [hw4, heap_alloc_lt _ _ _ (heap_lt hb3)]; exact hb3
  have hg4 : RdAt w4 (w.heap.size + 1) r3 := by unfold RdAt; rw [hw4, heap_alloc_lt _ _ _ (heap_lt hg3)]; exact hg3
  have hB4 := Lib.hid (show Below w.heap.size w w4 by rw [hw4]; exact hbw.out.alloc (Nat.le_of_lt (heap_lt hb3)) _)
  have hF4 : FK (fun b => w1.heap.size ≤ b ∧ b < w3.heap.size) w4 (.mk fb ft fl) [.bool fb, .string ⟨ft.toArray⟩, .slice A2 nl c2] := FK.move (fun b hb => ⟨hb, by rw [hw4]; exact heap_alloc_lt _ _ _ hb.2⟩) _ _ hFK
  have hF4H := Lib.hid hF4
  have hs4 := Lib.hid (show w3.heap.size < w4.heap.size from heap_lt hx4)
  obtain ⟨y0, y1, y2, _, yz⟩ := blk3 hx4
  obtain ⟨k0, k1, k2, hsh, hfz⟩ := blk3 hb4
  have g4 := blk1 hg4
  replace hnl := Lib.hid hnl
  have hb4H := Lib.hid hb4
  have hspH := Lib.hid hsp3
  have fin : ∀ er, (er = errno 5) → (ok = false ∨ ¬ r3.data.toList = []) → ReadPost s w (.returned (.tuple #[.agg #[.bool false, .string ⟨#[]⟩, .slice none 0 0], er])) (((w4.setCell ⟨w.heap.size, 0, none⟩ (.bool false)).setCell ⟨w.heap.size, 1, none⟩ (.string ⟨#[]⟩)).setCell ⟨w.heap.size, 2, none⟩ (.slice none 0 0)) := by
    intro er he h
    refine ⟨.mk false [] [], _, _, _, er, rfl, FK.text _ _ ⟨#[]⟩, ⟨rfl, .inr he⟩, fun f' h1 h2 h3 => ?_, ((hB4.out.setCell (Nat.le_refl _) _).setCell (Nat.le_refl _) _).setCell (Nat.le_refl _) _⟩
    obtain ⟨e1, _, e2⟩ := hspH.out.2.2 f' [] h1 (by omega) (by rw [h3, List.append_nil])
    rcases h with h | h
    · rw [h] at e1; cases e1
    · exact absurd e2 h
  have finH := Lib.hid fin
  clear fin hx4 hb4 hg4 hF4 hFK hg3 hsp3 hT3 hb3
  cases ok with
  | false =>
    go_upto_region 5 with fail
    rw [← hw4]
    replace hw4 := Lib.hid hw4
    go_wp2_with fail
    (try simp only [Exit.inBlock, Exit.then])
    refine bodyPost_ret (results_cell_tmp rfl _ _ w.heap.size 74 #[.bool false, .string ⟨#[]⟩, .slice none 0 0] (0, 0) _ rfl (set3 hb4H.out) Tryz.underlying74 rfl (by kernel_rfl) _ rfl) rfl ?_
    exact finH.out _ rfl (.inl (by first | trivial | rfl))
  | true =>
    by_cases hr : r3.data.toList = []
    · have hr1 : r3.toList = [] := by rw [ByteArray.toList_eq]; exact hr
      replace hr := Lib.hid hr
      go_upto_region 5 with fail
      rw [← hw4]
      replace hw4 := Lib.hid hw4
      go_wp2_with fail
      (try simp only [Exit.inBlock, Exit.then])
      refine bodyPost_ret (results_cell_tmp rfl _ _ w.heap.size 74 #[.bool fb, .string ⟨ft.toArray⟩, .slice A2 nl c2] (0, 0) _ rfl (set3 hb4H.out) Tryz.underlying74 rfl (by kernel_rfl) _ rfl) rfl ?_
      refine ⟨.mk fb ft fl, _, _, _, .nilIface, rfl, ?_, ⟨hspH.out.1.2 rfl, .inl rfl⟩, fun f' h1 h2 h3 => ?_, ((hB4.out.setCell (Nat.le_refl _) _).setCell (Nat.le_refl _) _).setCell (Nat.le_refl _) _⟩
      · refine FK.move (fun b hb => ⟨⟨by have := hs1.out; omega, by rw [size_set, size_set, size_set]; have := hs4.out; omega⟩, set3_ne (by have := hs1.out; omega) _ _ _⟩) _ _ hF4H.out
      · exact ⟨rfl, (hspH.out.2.2 f' [] h1 (by omega) (by rw [h3, List.append_nil])).2.1⟩
    · have hr1 : ¬ r3.toList = [] := by rw [ByteArray.toList_eq]; exact hr
      have hr2 : r3.toList.isEmpty = false := by simpa using hr1
      replace hr := Lib.hid hr
      go_upto_region 5 with fail
      rw [← hw4]
      replace hw4 := Lib.hid hw4
      go_wp2_with fail
      (try simp only [Exit.inBlock, Exit.then])
      refine bodyPost_ret (results_cell_tmp rfl _ _ w.heap.size 74 #[.bool false, .string ⟨#[]⟩, .slice none 0 0] (0, 0) _ rfl (set3 hb4H.out) Tryz.underlying74 rfl (by kernel_rfl) _ rfl) rfl ?_
      exact finH.out _ rfl (.inr hr.out)
end Go.Proofs.YtbiioaggilaebaaGreatDoor.Tm
set_option linter.unusedVariables false
set_option linter.unusedSimpArgs false
namespace Go.Proofs.YtbiioaggilaebaaGreatDoor.Lin
open Go Go.RowKit Go.Proofs.YtbiioaggilaebaaGreatDoor.B Go.Proofs.YtbiioaggilaebaaGreatDoorW.PrintWords
def mrk (l : List UInt8) : Bool := (List.replicate 7 62).isPrefixOf l || (List.replicate 7 61).isPrefixOf l || (List.replicate 7 60).isPrefixOf l
theorem long_form {l : List UInt8} (h : 7 ≤ l.length) : ∃ a b c d e f g r, l = a :: b :: c :: d :: e :: f :: g :: r := by
  match l, h with
  | a :: b :: c :: d :: e :: f :: g :: r, _ => exact ⟨a, b, c, d, e, f, g, r, rfl⟩
theorem byte_eq (a b : UInt8) : ((a.toNat : Int) = b.toNat) ↔ a = b := by
  constructor
  · intro h; apply UInt8.toNat_inj.1; omega
  · rintro rfl; rfl
theorem byte_is (a : UInt8) (n : Nat) (h : n < 256) : ((a.toNat : Int) = (n : Int)) ↔ a = UInt8.ofNat n := by
  rw [← byte_eq a (UInt8.ofNat n), UInt8.toNat_ofNat', Nat.mod_eq_of_lt h]
theorem Marker_any (s : ByteArray) (w : World) : Calls Tryz.prog 117 #[.string s] w fun e w' => e = .returned (.bool (mrk s.data.toList)) ∧ w' = w := by
  have C : ∀ p : ByteArray, Calls Tryz.prog 132 #[.string s, .string p] w fun e w' => e = .returned (.bool (p.data.toList.isPrefixOf s.data.toList)) ∧ w' = w := fun p => Tryz.strings_HasPrefix s p w
  have e1 : (⟨#[62, 62, 62, 62, 62, 62, 62]⟩ : ByteArray).data.toList = List.replicate 7 62 := rfl
  have e2 : (⟨#[61, 61, 61, 61, 61, 61, 61]⟩ : ByteArray).data.toList = List.replicate 7 61 := rfl
  have e3 : (⟨#[60, 60, 60, 60, 60, 60, 60]⟩ : ByteArray).data.toList = List.replicate 7 60 := rfl
  have C1 := C ⟨#[62, 62, 62, 62, 62, 62, 62]⟩
  have C2 := C ⟨#[61, 61, 61, 61, 61, 61, 61]⟩
  have C3 := C ⟨#[60, 60, 60, 60, 60, 60, 60]⟩
  rw [e1] at C1
  rw [e2] at C2
  rw [e3] at C3
  have hm : mrk s.data.toList = ((List.replicate 7 62).isPrefixOf s.data.toList || (List.replicate 7 61).isPrefixOf s.data.toList || (List.replicate 7 60).isPrefixOf s.data.toList) := rfl
  generalize (List.replicate 7 (62 : UInt8)).isPrefixOf s.data.toList = p1 at *
  generalize (List.replicate 7 (61 : UInt8)).isPrefixOf s.data.toList = p2 at *
  generalize (List.replicate 7 (60 : UInt8)).isPrefixOf s.data.toList = p3 at *
  rw [hm]
  clear hm C e1 e2 e3
  replace C1 := Lib.hid C1
  replace C2 := Lib.hid C2
  replace C3 := Lib.hid C3
  cases p1
  · cases p2
    · cases p3
      all_goals
        go_enter Tryz.func117, Tryz.ntmps117
        go_wp2_with fail
        refine (C1.out).mono ?_; rintro e w' ⟨rfl, rfl⟩
        go_wp2_with fail
        refine (C2.out).mono ?_; rintro e w' ⟨rfl, rfl⟩
        go_wp2_with fail
        refine (C3.out).mono ?_; rintro e w' ⟨rfl, rfl⟩
        go_wp2_with fail
        go_ret
        exact ⟨rfl, rfl⟩
    · go_enter Tryz.func117, Tryz.ntmps117
      go_wp2_with fail
      refine (C1.out).mono ?_; rintro e w' ⟨rfl, rfl⟩
      go_wp2_with fail
      refine (C2.out).mono ?_; rintro e w' ⟨rfl, rfl⟩
      go_wp2_with fail
      go_ret
      exact ⟨rfl, rfl⟩
  · go_enter Tryz.func117, Tryz.ntmps117
    go_wp2_with fail
    refine (C1.out).mono ?_; rintro e w' ⟨rfl, rfl⟩
    go_wp2_with fail
    go_ret
    exact ⟨rfl, rfl⟩
end Go.Proofs.YtbiioaggilaebaaGreatDoor.Lin
