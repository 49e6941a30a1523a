/- For the walk of the reference's Sum: helpers, and the loop of the rounds. -/
import Derived.Test.YtpecclcihefbaaaDoorRefH
import Derived.Test.YtpecclcihefbaaaDoorShaS
import Derived.Deep.DeepFit
import Derived.Test.YtpecclcihefbaaaDoorWLast
import Derived.Deep.RegionHeld3
import Derived.Deep.QuietTactic
import Derived.BigQuiet
set_option linter.unusedVariables false
set_option linter.unusedSimpArgs false
namespace Go.Proofs.YtpecclcihefbaaaDoor.Ref
open Go.RowKit Go.Proofs.YtpecclcihefbaaaDoor.B Go.Proofs.YtpecclcihefbaaaDoor.Sha Go.Proofs.YtpecclcihefbaaaDoorW.PrintLast

theorem flat_le (l : List (BitVec 32)) : (l.flatMap ofWord).length ≤ 4 * l.length := by
  induction l with
  | nil => exact Nat.le_refl _
  | cons a l ih => rw [List.flatMap_cons, List.length_append, List.length_cons]; have : (ofWord a).length = 4 := rfl; omega
theorem conv4 (W : World) (x : BitVec 32) :
    (convert 48 9 (.slice (some ⟨W.heap.size, 0, none⟩) 4 4)).run Tryd.prog (W.alloc (.cells #[.int .u8 (nv x / 16777216 % 256), .int .u8 (nv x / 65536 % 256), .int .u8 (nv x / 256 % 256), .int .u8 (nv x % 256)] 5)) = .ok (.string ⟨(ofWord x).toArray⟩) (W.alloc (.cells #[.int .u8 (nv x / 16777216 % 256), .int .u8 (nv x / 65536 % 256), .int .u8 (nv x / 256 % 256), .int .u8 (nv x % 256)] 5)) := by
  rw [show (#[.int .u8 (nv x / 16777216 % 256), .int .u8 (nv x / 65536 % 256), .int .u8 (nv x / 256 % 256), .int .u8 (nv x % 256)] : Array Value) = (bc (ofWord x)).toArray from congrArg List.toArray (word_cells x)]
  refine run_convert_bytes_back _ 48 9 5 _ 4 (ofWord x) Tryd.underlying48 Tryd.underlying5 Tryd.underlying9 fun j hj => ?_
  rw [add0, cell_of (heap_alloc_at _ _), List.getElem?_toArray, bc_get _ j hj]
theorem conv4d (W : World) (x : BitVec 32) :
    (convert 48 9 (.slice (some ⟨W.heap.size, 0, none⟩) 4 4)).run Tryd.prog (W.alloc (.cells #[.int .u8 (nv x / 16777216 % 256), .int .u8 (nv x / 65536 % 256), .int .u8 (nv x / 256 % 256), .int .u8 (nv x % 256)] 5)).drew = .ok (.string ⟨(ofWord x).toArray⟩) (W.alloc (.cells #[.int .u8 (nv x / 16777216 % 256), .int .u8 (nv x / 65536 % 256), .int .u8 (nv x / 256 % 256), .int .u8 (nv x % 256)] 5)).drew := conv4 W.drew x
theorem conv4h (W : World) (x : BitVec 32) :
    (convert 48 9 (.slice (some ⟨W.heap.size, 0, none⟩) 4 4)).run Tryd.prog (W.alloc (.cells #[.int .u8 (IntKind.u8.wrap (nv x / 16777216)), .int .u8 (IntKind.u8.wrap (nv x / 65536)), .int .u8 (IntKind.u8.wrap (nv x / 256)), .int .u8 (IntKind.u8.wrap (nv x))] 5)).drew = .ok (.string ⟨(ofWord x).toArray⟩) (W.alloc (.cells #[.int .u8 (IntKind.u8.wrap (nv x / 16777216)), .int .u8 (IntKind.u8.wrap (nv x / 65536)), .int .u8 (IntKind.u8.wrap (nv x / 256)), .int .u8 (IntKind.u8.wrap (nv x))] 5)).drew := by
  rw [IntKind.wrap_u8, IntKind.wrap_u8, IntKind.wrap_u8, IntKind.wrap_u8]
  exact conv4d W x
theorem uvs_get (l : List (BitVec 32)) (i : Nat) (h : i < l.length) : (uvs l)[i]? = some (.int .u32 (nv (l.getD i 0))) := by
  simp [uvs, uv, List.getD_eq_getElem?_getD, List.getElem?_eq_getElem h]
theorem rowB_of (w : World) (s : ByteArray) (hs : s.size ≤ 140737488355328) : ∃ cap w1, (convert 9 48 (.string s)).run Tryd.prog w = .ok (.slice (some ⟨w.heap.size, 0, none⟩) s.size cap) w1 ∧
    RowB w1 w.heap.size (.slice (some ⟨w.heap.size, 0, none⟩) s.size cap) s.size s.data.toList ∧ Below w.heap.size w w1 := by
  obtain ⟨cap, w1, cells, fz, h1, h2, h3, h4, h5, h6, h7, _, h8, h9⟩ := bytes_of w s
  exact ⟨cap, w1, h1, ⟨_, _, cells, fz, rfl, len_list s, Nat.le_refl _, h4, h5, h6, h9 (by unfold maxLen; omega), h7, .inr (by omega)⟩, h2⟩
theorem RowB.form {w : World} {base n : Nat} {v : Value} {l : List UInt8} (h : RowB w base v n l) : ∃ g cap, v = .slice (some ⟨g, 0, none⟩) n cap := by
  obtain ⟨g, cap, cells, fz, hv, _⟩ := h
  exact ⟨g, cap, hv⟩
theorem RowB.lt {w : World} {base n : Nat} {v : Value} {l : List UInt8} (h : RowB w base v n l) : base < w.heap.size := by
  obtain ⟨g, cap, cells, fz, hv, _, hb, hg, _⟩ := h
  have := heap_lt hg
  omega
theorem cell1 (w : World) (z : Int) (b : UInt8) (h : z = (b.toNat : Int)) : (w.alloc (.cells #[.int .u8 z] 5)).cell? ⟨w.heap.size, 0, none⟩ = some (.int .u8 (b.toNat : Int)) := by
  subst h; rw [cell_of (heap_alloc_at w _)]; rfl
theorem made_uc : madeCells #[Value.int .u32 0] 64 = ucells zeros64 := by
  kernel_rfl
/-- The schedule while it is made. -/
def Mk (w0 w : World) (l : List (BitVec 32)) : Prop := w.heap[w0.heap.size]? = some (.cells (ucells l) 42 (0, 0)) ∧ Below w0.heap.size w0 w
theorem mk_cell {w0 w : World} {l : List (BitVec 32)} {p : Addr} {v : Value} (h : Mk w0 w l) (hc : w0.cell? p = some v) : w.cell? p = some v :=
  (Tch.of_new h.2).cell (S := fun _ => False) hc (fun e => e)
theorem mk_set {w0 w : World} {l : List (BitVec 32)} {v : Int} (h : Mk w0 w l) (i : Nat) (x : BitVec 32) (hv : v = nv x) : Mk w0 (w.setCell ⟨w0.heap.size, i, none⟩ (.int .u32 v)) (l.set i x) := by
  subst hv
  exact ⟨by rw [heap_set_some h.1, ucells_set], h.2.setCell (Nat.le_refl _) _⟩
theorem mk_drew {w0 w : World} {l : List (BitVec 32)} (h : Mk w0 w l) : Mk w0 w.drew l := ⟨h.1, ⟨h.2.os, h.2.tape, h.2.output, h.2.size, h.2.block⟩⟩
theorem mk_at {w0 w : World} {l : List (BitVec 32)} (h : Mk w0 w l) (i : Nat) (hi : i < l.length) : w.cell? ⟨w0.heap.size, i, none⟩ = some (.int .u32 (nv (l.getD i 0))) := by
  rw [cell_of h.1, ucells_get l i hi]
theorem word_val {blk : List UInt8} {t : Nat} (c0 c1 c2 c3 : UInt8) (h0 : blk.getD (4 * t) 0 = c0) (h1 : blk.getD (4 * t + 1) 0 = c1) (h2 : blk.getD (4 * t + 2) 0 = c2) (h3 : blk.getD (4 * t + 3) 0 = c3) :
    bits .or .u32 (bits .or .u32 (bits .or .u32 ((c0.toNat : Int) % 4294967296 * 16777216 % 4294967296) ((c1.toNat : Int) % 4294967296 * 65536 % 4294967296)) ((c2.toNat : Int) % 4294967296 * 256 % 4294967296)) ((c3.toNat : Int) % 4294967296) = nv (word blk t) := by
  have e : ∀ c : UInt8, (c.toNat : Int) % 4294967296 = nv (BitVec.ofNat 32 c.toNat) := fun c => by rw [byte_mod, nv_of _ (by have := c.toNat_lt; omega)]
  have s24 : ∀ x : BitVec 32, nv x * (16777216 : Int) % (4294967296 : Int) = nv (x <<< 24) := fun x => nv_shl x 24
  have s16 : ∀ x : BitVec 32, nv x * (65536 : Int) % (4294967296 : Int) = nv (x <<< 16) := fun x => nv_shl x 16
  have s8 : ∀ x : BitVec 32, nv x * (256 : Int) % (4294967296 : Int) = nv (x <<< 8) := fun x => nv_shl x 8
  rw [e, e, e, e, s24, s16, s8, nv_or, nv_or, nv_or]
  unfold word
  rw [h0, h1, h2, h3]
  congr 1
  simp only [BitVec.shiftLeft_or_distrib, ← BitVec.shiftLeft_add, BitVec.or_assoc]
theorem keep_set {w : World} {b k t n : Nat} {u v : Value} (h : w.cell? ⟨b, k, none⟩ = some u) (hk : ¬ (k = t)) : ((w.drewN n).setCell ⟨b, t, none⟩ v).cell? ⟨b, k, none⟩ = some u := by
  have h' : (w.drewN n).cell? ⟨b, k, none⟩ = some u := h
  rw [← h']
  exact World.cell?_setCell_other (a := ⟨b, t, none⟩) (b := ⟨b, k, none⟩) _ _ (by intro e; injection e with e1 e2; exact hk e2.symm)
theorem sched_val2 (x16 x15 x7 x2 : BitVec 32) : IntKind.u32.wrap (IntKind.u32.wrap (IntKind.u32.wrap (nv x16 + bits .xor .u32 (bits .xor .u32 (nv (ror x15 7)) (nv (ror x15 18))) (nv x15 / 8)) + nv x7) + bits .xor .u32 (bits .xor .u32 (nv (ror x2 17)) (nv (ror x2 19))) (nv x2 / 1024)) = nv (x16 + s0 x15 + x7 + s1 x2) := by
  rw [nv_shr3, nv_shr10, nv_xor, nv_xor, nv_xor, nv_xor, nv_addw, nv_addw, nv_addw]; rfl
theorem own_eight {w : World} {base g c : Nat} {x0 x1 x2 x3 x4 x5 x6 x7 : BitVec 32} (h : w.ownsRow base 42 1 (.slice (some ⟨g, 0, none⟩) 8 c) 8 (uvs [x0, x1, x2, x3, x4, x5, x6, x7])) :
    ∀ j u, ([.int .u32 (nv x0), .int .u32 (nv x1), .int .u32 (nv x2), .int .u32 (nv x3), .int .u32 (nv x4), .int .u32 (nv x5), .int .u32 (nv x6), .int .u32 (nv x7)] : List Value)[j]? = some u → w.cell? ((⟨g, 0, none⟩ : Addr).add j) = some u := by
  intro j u hj
  have hjl := (List.getElem?_eq_some_iff.1 hj).1
  rw [add0, h.cellAt j (by simpa using hjl)]
  exact hj
def RowV (lo : Nat) (w : World) (v : Value) (l : List (BitVec 32)) : Prop := ∃ g cap, v = .slice (some ⟨g, 0, none⟩) 8 cap ∧ lo ≤ g ∧ ∀ k, k < 8 → w.cell? ⟨g, k, none⟩ = some (.int .u32 (nv (l.getD k 0)))
theorem rowV_of {w : World} {base g c : Nat} {x0 x1 x2 x3 x4 x5 x6 x7 : BitVec 32} (h : w.ownsRow base 42 1 (.slice (some ⟨g, 0, none⟩) (0 + 8) c) (0 + 8) ([] ++ uvs [x0, x1, x2, x3, x4, x5, x6, x7])) : RowV base w (.slice (some ⟨g, 0, none⟩) 8 c) [x0, x1, x2, x3, x4, x5, x6, x7] :=
  ⟨g, c, rfl, (h.lt g rfl).1, fun k hk => by rw [h.cellAt k (by omega)]; exact uvs_get _ k hk⟩
theorem own_empty (w : World) : (w.alloc (.cells #[] 42)).ownsRow w.heap.size 42 1 (.slice (some ⟨w.heap.size, 0, none⟩) 0 0) 0 [] :=
  ⟨rfl, .inr ⟨_, 0, #[], rfl, Nat.le_refl _, heap_alloc_at _ _, Nat.le_refl _, by unfold maxLen; omega, rfl, rfl⟩⟩
theorem drewN_add (w : World) (m k : Nat) : (w.drewN m).drewN k = w.drewN (m + k) := by
  simp [World.drewN, Nat.add_assoc]
theorem rturn_q (x : BitVec 32) (n : Int) (hn : Cnt n) (w : World) (m : Nat) :
    Calls Tryd.prog 36 #[.int .u32 (nv x), .int .i64 n] (w.drewN m) fun e w' => e = .returned (.int .u32 (nv (ror x n.toNat))) ∧ ∃ k, w' = w.drewN k :=
  (rturn_any x n hn (w.drewN m)).mono fun _ _ h => ⟨h.1, by obtain ⟨k, hk⟩ := h.2; exact ⟨m + k, by rw [hk]; exact drewN_add w m k⟩⟩
theorem nv_add5 (a b c d e : BitVec 32) : (nv a + nv b + nv c + nv d + nv e) % (4294967296 : Int) = nv (a + b + c + d + e) := by
  rw [← nv_add, ← nv_add, ← nv_add, ← nv_add]; omega
theorem rone_val (y4 y5 y6 y7 kk wk : BitVec 32) : (nv y7 + bits .xor .u32 (bits .xor .u32 (nv (ror y4 6)) (nv (ror y4 11))) (nv (ror y4 25)) + bits .or .u32 (bits .and .u32 (nv y4) (nv y5)) (bits .and .u32 (bits .xor .u32 IntKind.u32.max (nv y4)) (nv y6)) + nv kk + nv wk) % (4294967296 : Int) = nv (y7 + S1 y4 + ch y4 y5 y6 + kk + wk) := by
  rw [nv_not, nv_and, nv_and, nv_or, nv_xor, nv_xor, nv_add5, ch_or]; rfl
theorem rtwo_val (y0 y1 y2 : BitVec 32) : (bits .xor .u32 (bits .xor .u32 (nv (ror y0 2)) (nv (ror y0 13))) (nv (ror y0 22)) + bits .or .u32 (bits .or .u32 (bits .and .u32 (nv y0) (nv y1)) (bits .and .u32 (nv y0) (nv y2))) (bits .and .u32 (nv y1) (nv y2))) % (4294967296 : Int) = nv (S0 y0 + maj y0 y1 y2) := by
  rw [nv_and, nv_and, nv_and, nv_or, nv_or, nv_xor, nv_xor, nv_add, maj_or]; rfl
theorem rowV_new {lo : Nat} (w : World) (vals : Array Value) (l : List (BitVec 32)) (hlo : lo ≤ w.heap.size) (hl : l.length = 8) (h : vals = ucells l) : RowV lo (w.alloc (.cells vals 42)).drew (.slice (some ⟨w.heap.size, 0, none⟩) 8 8) l :=
  ⟨_, 8, rfl, hlo, fun k hk => by show (w.alloc _).cell? _ = _; rw [cell_of (heap_alloc_at w _), h, ucells_get l k (by omega)]⟩
def Hs (w0 w7 w : World) (gh ch gv : Nat) (xs ys : List (BitVec 32)) (j : Nat) : Prop :=
  w.ownsRow w0.heap.size 42 1 (.slice (some ⟨gh, 0, none⟩) 8 ch) 8 (uvs (addTo xs ys j)) ∧ (∀ k, k < 8 → w.cell? ⟨gv, k, none⟩ = some (.int .u32 (nv (ys.getD k 0)))) ∧ Tch (· = gh) w7 w
theorem hs_cell {w0 w7 w : World} {gh ch gv j : Nat} {xs ys : List (BitVec 32)} (h : Hs w0 w7 w gh ch gv xs ys j) (hj : j < 8) : w.cell? ⟨gh, j, none⟩ = some (.int .u32 (nv (xs.getD j 0))) := by
  rw [h.1.cellAt j (by omega), uvs_get _ j (by rw [addTo_length]; exact hj), addTo_at _ _ _ hj]
theorem hs_next {w0 w7 w : World} {gh ch gv j : Nat} {xs ys : List (BitVec 32)} {A : Int} (h : Hs w0 w7 w gh ch gv xs ys j) (hj : j < 8) (hne : ¬ gv = gh) (hA : A = nv (xs.getD j 0 + ys.getD j 0)) (n : Nat) :
    Hs w0 w7 ((w.setCell ⟨gh, j, none⟩ (.int .u32 A)).drewN n) gh ch gv xs ys (j + 1) := by
  subst hA
  refine ⟨?_, fun k hk => ?_, (h.2.2.setCell ⟨gh, j, none⟩ (fun _ => rfl) _).drewN n⟩
  · have := h.1.stored j (.int .u32 (nv (xs.getD j 0 + ys.getD j 0)))
    rw [show (uvs (addTo xs ys j)).set j (.int .u32 (nv (xs.getD j 0 + ys.getD j 0))) = uvs (addTo xs ys (j + 1)) from by rw [← addTo_set xs ys j hj]; simp [uvs, uv, List.map_set]] at this
    exact this.1
  · show (w.setCell _ _).cell? _ = _
    rw [World.cell?_setCell_other (a := ⟨gh, j, none⟩) (b := ⟨gv, k, none⟩) _ _ (by intro e; injection e with e1 e2; exact hne e1.symm)]
    exact h.2.1 k hk
def Blk (wb W w0 : World) (gh ch : Nat) (bs : List UInt8) (i : Nat) (hs : List (BitVec 32)) : Prop :=
  W.ownsRow w0.heap.size 42 1 (.slice (some ⟨gh, 0, none⟩) 8 ch) 8 (uvs hs) ∧ hs.length = 8 ∧ Tch (· = gh) wb W ∧ runs K hs (bs.drop (64 * i)) = runs K H0 bs
theorem blk_next {wb w7 W w0 : World} {gh ch gv i : Nat} {bs blk : List UInt8} {xs ys : List (BitVec 32)} (hl : 64 * i + 64 ≤ bs.length) (hr : runs K xs (bs.drop (64 * i)) = runs K H0 bs) (hb : blk = (bs.drop (64 * i)).take 64)
    (hv : rounds K (sched (words blk) 48) xs 64 = ys) (ht : Tch (· = gh) wb w7) (h : Hs w0 w7 W gh ch gv xs ys 8) : Blk wb W w0 gh ch bs (i + 1) (compress K xs (words blk)) := by
  refine ⟨by have := h.1; rwa [addTo_end K xs (words blk) ys hv] at this, compress_length _ _ _, ht.trans h.2.2, ?_⟩
  rw [← hr, runs_long K xs (bs.drop (64 * i)) (by rw [List.length_drop]; omega), ← hb, List.drop_drop, show 64 * (i + 1) = 64 * i + 64 from by omega]
theorem blk_end {wb W w0 : World} {gh ch i : Nat} {bs : List UInt8} {hs : List (BitVec 32)} (hl : bs.length ≤ 64 * i) (h : Blk wb W w0 gh ch bs i hs) : runs K H0 bs = hs := by
  rw [← h.2.2.2, List.drop_of_length_le hl, runs_short K hs [] (by simp)]
/-- Behind the padding: the state's row, the table's row, the text's row. -/
structure Base (w0 w : World) (gh ch gk gb : Nat) (l : List UInt8) : Prop where
  hown : w.ownsRow w0.heap.size 42 1 (.slice (some ⟨gh, 0, none⟩) 8 ch) 8 (uvs H0)
  k : ∀ j, j < 64 → w.cell? ⟨gk, j, none⟩ = some (.int .u32 (nv (K.getD j 0)))
  b : ∀ j, j < l.length → w.cell? ⟨gb, j, none⟩ = some (.int .u8 ((l.getD j 0).toNat : Int))
  tch : Tch (fun _ => False) w0 w
  ne1 : gk ≠ gh
  ne2 : gb ≠ gh
  lo : w0.heap.size ≤ gh
theorem blk_cell {w0 wb W : World} {gh ch gk gb i N j : Nat} {bs blk : List UInt8} (h : Base w0 wb gh ch gk gb bs) (ht : Tch (· = gh) wb W) (hb : blk = (bs.drop (64 * i)).take 64) (hN : bs.length = N) (hi : 64 * i + 64 ≤ N) (hj : j < 64) :
    W.cell? ⟨gb, 64 * i + j, none⟩ = some (.int .u8 ((blk.getD j 0).toNat : Int)) := by
  rw [ht.cell (h.b (64 * i + j) (by omega)) h.ne2, hb]
  congr 3
  simp only [List.getD_eq_getElem?_getD]
  rw [List.getElem?_take, if_pos hj, List.getElem?_drop]
/-- Of the blocks of the start nothing has turned: the state's row is the call's own. -/
theorem sum_tch {w0 wb W : World} {gh ch gk gb : Nat} {l : List UInt8} (h : Base w0 wb gh ch gk gb l) (ht : Tch (· = gh) wb W) : Tch (fun _ => False) w0 W :=
  ⟨ht.os.trans h.tch.os, ht.tape.trans h.tch.tape, ht.output.trans h.tch.output, Nat.le_trans h.tch.size ht.size, fun k hk _ =>
    (ht.block k (Nat.lt_of_lt_of_le hk h.tch.size) (show ¬ k = gh from by have := h.lo; omega)).trans (h.tch.block k hk id)⟩
theorem base_start {w0 w1 w2 w3 w : World} {gh ch gk ck gb cb B n : Nat} {l : List UInt8} (h1 : gh < w1.heap.size) (h2 : w1.heap.size ≤ gk) (h3 : gk < B) (h0 : w0.heap.size ≤ gh)
    (o1 : w1.ownsRow w0.heap.size 42 1 (.slice (some ⟨gh, 0, none⟩) 8 ch) 8 (uvs H0)) (t1 : Tch (fun _ => False) w0 w1)
    (o2 : w2.ownsRow w1.heap.size 42 1 (.slice (some ⟨gk, 0, none⟩) 64 ck) 64 (uvs K)) (t2 : Tch (fun _ => False) w1 w2) (hB : w2.heap.size = B) (b1 : Below B w2 w3) (b2 : Below B w3 w)
    (hr : RowB w B (.slice (some ⟨gb, 0, none⟩) n cb) n l) : Base w0 w gh ch gk gb l ∧ l.length = n := by
  have t3 : Tch (fun _ => False) w2 w := Tch.of_new (hB ▸ b1.trans b2)
  have hgb : B ≤ gb := by
    obtain ⟨g', cap', cells, fz, hv, hl, hb, _⟩ := hr
    injection hv with e1 e2 e3
    injection e1 with e1
    injection e1 with e1
    omega
  have hln : l.length = n := by
    obtain ⟨g', cap', cells, fz, hv, hl, hb, _⟩ := hr
    exact hl
  refine ⟨⟨own_keep (own_keep o1 t2) t3, fun j hj => ?_, fun j hj => hr.cells j (by omega), (t1.trans t2).trans t3, by omega, by omega, h0⟩, hln⟩
  have ok := own_keep o2 t3
  rw [ok.cellAt j (by omega), uvs_get K j (by show j < 64; exact hj)]

/-- The zeros still to come. -/
def zs (n : Nat) : Nat := (119 - n % 64) % 64
theorem zs_more (n j : Nat) (h : j < zs n) : (n + 1 + j) % 64 ≠ 56 := by unfold zs at h; omega
theorem zs_end (n : Nat) : (n + 1 + zs n) % 64 = 56 := by unfold zs; omega
def bz (s : List UInt8) (j : Nat) : List UInt8 := s ++ 128 :: List.replicate j 0
theorem bz_next (s : List UInt8) (j : Nat) : bz s (j + 1) = bz s j ++ [0] := by
  unfold bz; rw [List.append_assoc]; congr 1; rw [List.cons_append]; congr 1; exact List.replicate_succ' ..
def bl (s : List UInt8) (j : Nat) : List UInt8 := bz s (zs s.length) ++ (be8 (s.length * 8)).take j
theorem bl_next (s : List UInt8) (j : Nat) (hj : j < 8) : bl s (j + 1) = bl s j ++ [UInt8.ofNat (s.length * 8 / 2 ^ (8 * (7 - j)))] := by
  unfold bl; rw [List.append_assoc]; congr 1
  rw [List.take_add_one]; congr 1
  simp [be8, List.getElem?_range hj]
theorem bl_end (s : List UInt8) : bl s 8 = s ++ padding s.length := by
  unfold bl bz padding zs
  rw [List.take_of_length_le (by simp [be8]), List.append_assoc]

/-! The loop of the rounds: its code taken out of the translation. -/
def loops : Code → List Code
  | .loop c => .loop c :: loops c
  | .seq a b => loops a ++ loops b
  | .block _ c => loops c
  | .scope c => loops c
  | .cond _ a b => loops a ++ loops b
  | _ => []
noncomputable def roundsLoop : Code := ((Tryd.f19.body.map loops).getD []).getD 4 .skip
set_option maxRecDepth 1000000 in
set_option maxHeartbeats 4000000 in
theorem rounds_loop (gk ck gw cw wv : Nat) (full : List (BitVec 32)) (x0 x1 x2 x3 x4 x5 x6 x7 : BitVec 32) (w6 : World) (v0 : Value)
    (hlo : wv ≤ w6.heap.size) (hr0 : RowV wv w6 v0 [x0, x1, x2, x3, x4, x5, x6, x7]) (hK : ∀ j, j < 64 → w6.cell? ⟨gk, j, none⟩ = some (.int .u32 (nv (K.getD j 0)))) (hF : ∀ j, j < 64 → w6.cell? ⟨gw, j, none⟩ = some (.int .u32 (nv (full.getD j 0))))
    (u0 u1 u2 u3 u5 u6 u7 u8 u10 u11 u12 u13 u16 u17 u18 u19 u20 u21 u22 u23 u24 u25 u26 u27 u28 u29 u30 u31 u32 u33 u34 u35 u36 u37 u38 u39 u40 u41 u42 u43 u44 u45 u46 u47 u48 u49 u50 u51 u52 u53 u54 u55 u56 u57 u58 u59 u60 u61 u62 u63 u64 u65 u66 u67 u68 u69 u70 u71 u72 u73 u74 u75 u76 u77 u78 u79 u80 u81 u82 u83 u84 u85 u86 u87 u88 u89 u90 u91 u92 u93 u94 u95 u96 u97 u98 u99 u100 u101 u102 u103 u104 u105 u106 u107 u108 u109 u110 u111 u112 u113 u114 u115 u116 u117 u118 u119 u120 u121 u122 u123 u124 u125 u126 u127 u128 u129 u130 u131 u132 u133 u134 u135 u136 u137 u138 u139 u140 u141 u142 u143 u144 u145 u146 u147 u148 u149 u150 u151 u152 u153 u154 u155 u156 u157 u158 u159 u160 u161 u162 u163 u164 u165 u166 u167 u168 u169 u170 u171 u172 u173 u174 u175 u176 u177 u178 u179 u180 u181 u182 u183 u184 u185 u186 u187 u188 u189 u190 u191 u192 u193 u194 u195 u196 u197 u198 u199 u200 u201 u202 u203 u204 u205 u206 u207 u208 u209 u210 u211 u212 u213 u214 u215 u216 u217 u218 u219 u220 u221 u222 u223 u224 u225 u226 u227 u228 u229 u230 u231 u232 u233 u234 u235 u236 u237 u238 u239 u240 u241 u242 u243 u244 u245 u246 u247 u248 u249 u250 u251 u252 u253 u254 u255 u256 u257 u258 u259 u260 u261 u262 u263 u264 u265 u266 u267 u268 u269 u270 u271 u272 u273 u274 u275 u276 u277 u278 u279 u280 u281 u282 u283 u284 u285 u286 u287 u288 u289 u290 u291 u292 : Value) (Q0 : Exit → Act → World → Prop)
    (hexit : ∀ (c16 c17 c18 c19 c145 c146 c147 c148 c149 c150 c151 c152 c153 c154 c155 c156 c157 c158 c159 c160 c161 c162 c163 c164 c165 c166 c167 c168 c169 c170 c171 c172 c173 c174 c175 c176 c177 c178 c179 c180 c181 c182 c183 c184 c185 c186 c187 c188 c189 c190 c191 c192 c193 c194 c195 c196 c197 c198 c199 c200 c201 c202 c203 c204 c205 c206 c207 c208 c209 c210 c211 c212 c213 c214 c215 c216 c217 c218 c219 c220 c221 c222 c223 c224 c225 c226 c227 c228 c229 c230 c231 c232 c233 c234 c235 c236 c237 c238 c239 c240 c241 c242 c243 c244 v1 : Value) (W : World), RowV wv W v1 (rounds K full [x0, x1, x2, x3, x4, x5, x6, x7] 64) → Tch (fun _ => False) w6 W → Q0 (.exit 8) ⟨List.toArray (u0 :: u1 :: u2 :: u3 :: .slice (some ⟨gk, 0, none⟩) 64 ck :: u5 :: u6 :: u7 :: u8 :: .slice (some ⟨gw, 0, none⟩) 64 cw :: u10 :: u11 :: u12 :: u13 :: v1 :: .int .i64 ((64 : Nat) : Int) :: c16 :: c17 :: c18 :: c19 :: u20 :: u21 :: u22 :: u23 :: u24 :: u25 :: u26 :: u27 :: u28 :: u29 :: u30 :: u31 :: u32 :: u33 :: u34 :: u35 :: u36 :: u37 :: u38 :: u39 :: u40 :: u41 :: u42 :: u43 :: u44 :: u45 :: u46 :: u47 :: u48 :: u49 :: u50 :: u51 :: u52 :: u53 :: u54 :: u55 :: u56 :: u57 :: u58 :: u59 :: u60 :: u61 :: u62 :: u63 :: u64 :: u65 :: u66 :: u67 :: u68 :: u69 :: u70 :: u71 :: u72 :: u73 :: u74 :: u75 :: u76 :: u77 :: u78 :: u79 :: u80 :: u81 :: u82 :: u83 :: u84 :: u85 :: u86 :: u87 :: u88 :: u89 :: u90 :: u91 :: u92 :: u93 :: u94 :: u95 :: u96 :: u97 :: u98 :: u99 :: u100 :: u101 :: u102 :: u103 :: u104 :: u105 :: u106 :: u107 :: u108 :: u109 :: u110 :: u111 :: u112 :: u113 :: u114 :: u115 :: u116 :: u117 :: u118 :: u119 :: u120 :: u121 :: u122 :: u123 :: u124 :: u125 :: u126 :: u127 :: u128 :: u129 :: u130 :: u131 :: u132 :: u133 :: u134 :: u135 :: u136 :: u137 :: u138 :: u139 :: u140 :: u141 :: u142 :: u143 :: u144 :: c145 :: c146 :: c147 :: c148 :: c149 :: c150 :: c151 :: c152 :: c153 :: c154 :: c155 :: c156 :: c157 :: c158 :: c159 :: c160 :: c161 :: c162 :: c163 :: c164 :: c165 :: c166 :: c167 :: c168 :: c169 :: c170 :: c171 :: c172 :: c173 :: c174 :: c175 :: c176 :: c177 :: c178 :: c179 :: c180 :: c181 :: c182 :: c183 :: c184 :: c185 :: c186 :: c187 :: c188 :: c189 :: c190 :: c191 :: c192 :: c193 :: c194 :: c195 :: c196 :: c197 :: c198 :: c199 :: c200 :: c201 :: c202 :: c203 :: c204 :: c205 :: c206 :: c207 :: c208 :: c209 :: c210 :: c211 :: c212 :: c213 :: c214 :: c215 :: c216 :: c217 :: c218 :: c219 :: c220 :: c221 :: c222 :: c223 :: c224 :: c225 :: c226 :: c227 :: c228 :: c229 :: c230 :: c231 :: c232 :: c233 :: c234 :: c235 :: c236 :: c237 :: c238 :: c239 :: c240 :: c241 :: c242 :: c243 :: c244 :: u245 :: u246 :: u247 :: u248 :: u249 :: u250 :: u251 :: u252 :: u253 :: u254 :: u255 :: u256 :: u257 :: u258 :: u259 :: u260 :: u261 :: u262 :: u263 :: u264 :: u265 :: u266 :: u267 :: u268 :: u269 :: u270 :: u271 :: u272 :: u273 :: u274 :: u275 :: u276 :: u277 :: u278 :: u279 :: u280 :: u281 :: u282 :: u283 :: u284 :: u285 :: u286 :: u287 :: u288 :: u289 :: u290 :: u291 :: u292 :: []), []⟩ W) :
    Code.wp Tryd.prog roundsLoop Q0 ⟨List.toArray (u0 :: u1 :: u2 :: u3 :: .slice (some ⟨gk, 0, none⟩) 64 ck :: u5 :: u6 :: u7 :: u8 :: .slice (some ⟨gw, 0, none⟩) 64 cw :: u10 :: u11 :: u12 :: u13 :: v0 :: .int .i64 0 :: u16 :: u17 :: u18 :: u19 :: u20 :: u21 :: u22 :: u23 :: u24 :: u25 :: u26 :: u27 :: u28 :: u29 :: u30 :: u31 :: u32 :: u33 :: u34 :: u35 :: u36 :: u37 :: u38 :: u39 :: u40 :: u41 :: u42 :: u43 :: u44 :: u45 :: u46 :: u47 :: u48 :: u49 :: u50 :: u51 :: u52 :: u53 :: u54 :: u55 :: u56 :: u57 :: u58 :: u59 :: u60 :: u61 :: u62 :: u63 :: u64 :: u65 :: u66 :: u67 :: u68 :: u69 :: u70 :: u71 :: u72 :: u73 :: u74 :: u75 :: u76 :: u77 :: u78 :: u79 :: u80 :: u81 :: u82 :: u83 :: u84 :: u85 :: u86 :: u87 :: u88 :: u89 :: u90 :: u91 :: u92 :: u93 :: u94 :: u95 :: u96 :: u97 :: u98 :: u99 :: u100 :: u101 :: u102 :: u103 :: u104 :: u105 :: u106 :: u107 :: u108 :: u109 :: u110 :: u111 :: u112 :: u113 :: u114 :: u115 :: u116 :: u117 :: u118 :: u119 :: u120 :: u121 :: u122 :: u123 :: u124 :: u125 :: u126 :: u127 :: u128 :: u129 :: u130 :: u131 :: u132 :: u133 :: u134 :: u135 :: u136 :: u137 :: u138 :: u139 :: u140 :: u141 :: u142 :: u143 :: u144 :: u145 :: u146 :: u147 :: u148 :: u149 :: u150 :: u151 :: u152 :: u153 :: u154 :: u155 :: u156 :: u157 :: u158 :: u159 :: u160 :: u161 :: u162 :: u163 :: u164 :: u165 :: u166 :: u167 :: u168 :: u169 :: u170 :: u171 :: u172 :: u173 :: u174 :: u175 :: u176 :: u177 :: u178 :: u179 :: u180 :: u181 :: u182 :: u183 :: u184 :: u185 :: u186 :: u187 :: u188 :: u189 :: u190 :: u191 :: u192 :: u193 :: u194 :: u195 :: u196 :: u197 :: u198 :: u199 :: u200 :: u201 :: u202 :: u203 :: u204 :: u205 :: u206 :: u207 :: u208 :: u209 :: u210 :: u211 :: u212 :: u213 :: u214 :: u215 :: u216 :: u217 :: u218 :: u219 :: u220 :: u221 :: u222 :: u223 :: u224 :: u225 :: u226 :: u227 :: u228 :: u229 :: u230 :: u231 :: u232 :: u233 :: u234 :: u235 :: u236 :: u237 :: u238 :: u239 :: u240 :: u241 :: u242 :: u243 :: u244 :: u245 :: u246 :: u247 :: u248 :: u249 :: u250 :: u251 :: u252 :: u253 :: u254 :: u255 :: u256 :: u257 :: u258 :: u259 :: u260 :: u261 :: u262 :: u263 :: u264 :: u265 :: u266 :: u267 :: u268 :: u269 :: u270 :: u271 :: u272 :: u273 :: u274 :: u275 :: u276 :: u277 :: u278 :: u279 :: u280 :: u281 :: u282 :: u283 :: u284 :: u285 :: u286 :: u287 :: u288 :: u289 :: u290 :: u291 :: u292 :: []), []⟩ w6 := by
  unfold roundsLoop
  conv => arg 2; whnf
  have hlo6 := Lib.hid hlo
  replace hr0 := Lib.hid hr0
  have hKc6 := Lib.hid hK
  have hFc6 := Lib.hid hF
  have hexH := Lib.hid hexit
  clear hlo hK hF hexit
  go_loopg [14, 15] 64 (fun g v i' W => ∃ t : Nat, g = 64 - t ∧ t ≤ 64 ∧ i' = .int .i64 t ∧ RowV wv W v (rounds K full [x0, x1, x2, x3, x4, x5, x6, x7] t) ∧ Tch (fun _ => False) w6 W)
  case atStart => exact ⟨0, rfl, by omega, rfl, hr0.out, Tch.refl _ _⟩
  case round =>
    clear hr0
    obtain ⟨t, hg, ht, rfl, hr, htc⟩ := hrel
    subst hg
    obtain ⟨y0, y1, y2, y3, y4, y5, y6, y7, hv⟩ := eight (rounds_length K full [x0, x1, x2, x3, x4, x5, x6, x7] rfl t)
    by_cases htl : t < 64
    · have hnx := Lib.hid (round_next K full [x0, x1, x2, x3, x4, x5, x6, x7] t hv)
      rw [hv] at hr
      obtain ⟨gv, cv, rfl, _, hcv⟩ := hr
      have hc0 := hcv 0 (by omega)
      have hc1 := hcv 1 (by omega)
      have hc2 := hcv 2 (by omega)
      have hc3 := hcv 3 (by omega)
      have hc4 := hcv 4 (by omega)
      have hc5 := hcv 5 (by omega)
      have hc6 := hcv 6 (by omega)
      have hc7 := hcv 7 (by omega)
      simp only [List.getD_cons_zero, List.getD_cons_succ] at hc0 hc1 hc2 hc3 hc4 hc5 hc6 hc7
      have hck := htc.cell (hKc6.out t htl) (fun e => e)
      have hcf := htc.cell (hFc6.out t htl) (fun e => e)
      have hti : (t : Int) < 64 := by omega
      have htcH := Lib.hid htc
      clear hcv hv htc
      generalize full.getD t 0 = wk at *
      generalize K.getD t 0 = kk at *
      go_wp2_with fail
      go_quiet ((go_at_call 36; exact rturn_q _ _ (by unfold Cnt; omega) _ _))
      go_wp2_with fail
      replace hc0 : (wr.drewN nq).cell? ⟨gv, 0, none⟩ = some (.int .u32 (nv y0)) := hc0
      replace hc1 : (wr.drewN nq).cell? ⟨gv, 1, none⟩ = some (.int .u32 (nv y1)) := hc1
      replace hc2 : (wr.drewN nq).cell? ⟨gv, 2, none⟩ = some (.int .u32 (nv y2)) := hc2
      replace hc3 : (wr.drewN nq).cell? ⟨gv, 3, none⟩ = some (.int .u32 (nv y3)) := hc3
      replace hc4 : (wr.drewN nq).cell? ⟨gv, 4, none⟩ = some (.int .u32 (nv y4)) := hc4
      replace hc5 : (wr.drewN nq).cell? ⟨gv, 5, none⟩ = some (.int .u32 (nv y5)) := hc5
      replace hc6 : (wr.drewN nq).cell? ⟨gv, 6, none⟩ = some (.int .u32 (nv y6)) := hc6
      replace hc7 : (wr.drewN nq).cell? ⟨gv, 7, none⟩ = some (.int .u32 (nv y7)) := hc7
      replace htcH := Lib.hid (htcH.out.drewN nq)
      generalize wr.drewN nq = wq at *
      go_quiet ((go_at_call 36; exact rturn_q _ _ (by unfold Cnt; omega) _ _))
      go_wp2_with fail
      replace hc0 : (wq.drewN nq).cell? ⟨gv, 0, none⟩ = some (.int .u32 (nv y0)) := hc0
      replace hc1 : (wq.drewN nq).cell? ⟨gv, 1, none⟩ = some (.int .u32 (nv y1)) := hc1
      replace hc2 : (wq.drewN nq).cell? ⟨gv, 2, none⟩ = some (.int .u32 (nv y2)) := hc2
      replace hc3 : (wq.drewN nq).cell? ⟨gv, 3, none⟩ = some (.int .u32 (nv y3)) := hc3
      replace hc4 : (wq.drewN nq).cell? ⟨gv, 4, none⟩ = some (.int .u32 (nv y4)) := hc4
      replace hc5 : (wq.drewN nq).cell? ⟨gv, 5, none⟩ = some (.int .u32 (nv y5)) := hc5
      replace hc6 : (wq.drewN nq).cell? ⟨gv, 6, none⟩ = some (.int .u32 (nv y6)) := hc6
      replace hc7 : (wq.drewN nq).cell? ⟨gv, 7, none⟩ = some (.int .u32 (nv y7)) := hc7
      replace htcH := Lib.hid (htcH.out.drewN nq)
      generalize wq.drewN nq = wp at *
      rw [rone_val, rtwo_val]
      generalize y7 + S1 y4 + Sha.ch y4 y5 y6 + kk + wk = one at *
      generalize S0 y0 + Sha.maj y0 y1 y2 = two at *
      clear hck hcf
      refine wp_region_still_tail 26 (by kernel_rfl) (by kernel_rfl) ?_
      change wpStill _ _ wp.drew _ _ _
      simp only [List.take_succ_cons, List.take_zero, List.drop_succ_cons, List.drop_zero]
      repeat still_step
      refine wpStill_nil ?_
      change wpList _ _ _ _ _ wp.drew
      go_wp2_with fail
      go_roundg (64 - (t + 1))
      case measure => omega
      case rel =>
        refine ⟨t + 1, rfl, by omega, by go_num, ?_, ?_⟩
        · rw [hnx.out]
          exact rowV_new wp _ _ (Nat.le_trans hlo6.out htcH.out.size) rfl (by rw [nv_add, nv_add]; rfl)
        · exact (htcH.out.alloc _).drew
    · have ht64 : t = 64 := by omega
      subst ht64
      have htcH := Lib.hid htc
      have hrH := Lib.hid hr
      clear hr htc hv
      go_wp2_with fail
      apply hexH.out
      · exact hrH.out
      · exact htcH.out

end Go.Proofs.YtpecclcihefbaaaDoor.Ref
