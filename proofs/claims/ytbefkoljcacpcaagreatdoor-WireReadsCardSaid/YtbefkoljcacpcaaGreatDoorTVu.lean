/- What LawWireReads, LawWireWrites, LawWireSpoilt lean on, part u of 25: the texts WiW. -/
import Derived.Test.YtbefkoljcacpcaaGreatDoorTVo
import Derived.Test.YtbefkoljcacpcaaGreatDoorTVs
set_option linter.unusedVariables false
set_option linter.unusedSimpArgs false
namespace Go.Proofs.YtbefkoljcacpcaaGreatDoor.Wi
open Go Go.RowKit Go.Proofs.YtbefkoljcacpcaaGreatDoorW.PrintWords Go.Proofs.YtbefkoljcacpcaaGreatDoor.B Go.Proofs.YtbefkoljcacpcaaGreatDoor.Tm
def LetAt (W : World) (g : Nat) (v0 v1 v2 v3 v4 v5 : Int) (A : Option Addr) (n c : Nat) (p : ByteArray) : Prop := W.heap[g]? = some (.cells (letCells v0 v1 v2 v3 v4 v5 A n c p) 24 (0, 0))
theorem let_cells {W : World} {g : Nat} {v0 v1 v2 v3 v4 v5 : Int} {A : Option Addr} {n c : Nat} {p : ByteArray} (h : LetAt W g v0 v1 v2 v3 v4 v5 A n c p) :
    W.cell? ⟨g, 0, none⟩ = some (.int .i64 v0) ∧ W.cell? ⟨g, 1, none⟩ = some (.int .i64 v1) ∧ W.cell? ⟨g, 2, none⟩ = some (.int .i64 v2) ∧ W.cell? ⟨g, 3, none⟩ = some (.int .i64 v3) ∧ W.cell? ⟨g, 4, none⟩ = some (.int .i64 v4) ∧ W.cell? ⟨g, 5, none⟩ = some (.int .i64 v5) ∧
    W.cell? ⟨g, 6, none⟩ = some (.slice A n c) ∧ W.cell? ⟨g, 7, none⟩ = some (.string p) :=
  ⟨by rw [cell_of h]; rfl, by rw [cell_of h]; rfl, by rw [cell_of h]; rfl, by rw [cell_of h]; rfl, by rw [cell_of h]; rfl, by rw [cell_of h]; rfl, by rw [cell_of h]; rfl, by rw [cell_of h]; rfl⟩
def WrPost (v : List Int) (l : List ByteArray) (p : ByteArray) (w : World) (ev : Ending) (w' : World) : Prop :=
  ev = .returned (if wright v l p then .tuple #[.string ⟨(lbytes v l p).toArray⟩, .nilIface] else .tuple #[.string ⟨#[]⟩, errno 1]) ∧ Below w.heap.size w w'
set_option maxRecDepth 100000 in
set_option maxHeartbeats 8000000 in
theorem wwrite_no (v0 v1 v2 v3 v4 v5 : Int) (A : Option Addr) (c : Nat) (l : List ByteArray) (p : ByteArray) (w : World) (hC : Kd.C Kd.string w A l.length l) (hc : l.length ≤ c) (hn : l.length ≤ 1000000000000) (hs : ∀ x ∈ l, x.size ≤ 140737488351232) (hr : wright [v0, v1, v2, v3, v4, v5] l p = false) :
    Calls Tryz.prog 7 #[.agg (letCells v0 v1 v2 v3 v4 v5 A l.length c p)] w (WrPost [v0, v1, v2, v3, v4, v5] l p w) := by
  obtain ⟨w1, hw1⟩ : ∃ w1, w1 = w.alloc (.cells (letCells v0 v1 v2 v3 v4 v5 A l.length c p) 24) := ⟨_, rfl⟩
  have hb1 : Below w.heap.size w w1 := by rw [hw1]; exact (Below.refl _ _).alloc (Nat.le_refl _) _
  have hg : LetAt w1 w.heap.size v0 v1 v2 v3 v4 v5 A l.length c p := by unfold LetAt; rw [hw1]; exact heap_alloc_at _ _
  have CR := right_c v0 v1 v2 v3 v4 v5 A c l p w1 (Kd.C_below hC hb1) hc hn hs
  rw [hr] at CR
  obtain ⟨c0, c1, c2, c3, c4, c5, c6, c7⟩ := let_cells hg
  unfold WrPost
  rw [hr]
  unfold letCells at *
  obtain ⟨n, hN⟩ : ∃ n, n = l.length := ⟨_, rfl⟩
  rw [← hN] at hc hn CR c6 hw1 ⊢
  have CRH := Lib.hid CR
  have hb1H := Lib.hid hb1
  replace hN := Lib.hid hN
  clear hC hg hb1 CR hr
  go_enter Tryz.func7, Tryz.ntmps7
  go_upto_region 1 with fail
  rw [← hw1]
  replace hw1 := Lib.hid hw1
  go_wp2_with fail
  refine (CRH.out).mono ?_
  rintro ev w2 ⟨rfl, hb2⟩
  replace hb2 := Lib.hid hb2
  go_wp2_with fail
  go_ret2
  exact ⟨rfl, hb1H.out.trans (hb2.out.mono hb1H.out.size)⟩
theorem let_of {W W' : World} {g : Nat} {v0 v1 v2 v3 v4 v5 : Int} {A : Option Addr} {n c : Nat} {p : ByteArray} (h : LetAt W g v0 v1 v2 v3 v4 v5 A n c p) (hb : W'.heap[g]? = W.heap[g]?) : LetAt W' g v0 v1 v2 v3 v4 v5 A n c p := by unfold LetAt; rw [hb]; exact h
theorem lnums_take (v : List Int) (k : Nat) (h : k < v.length) : lnums (v.take (k + 1)) = lnums (v.take k) ++ [txt (Lib.itoa (v.getD k 0))] := by
  unfold lnums
  rw [List.take_add_one, List.getElem?_eq_getElem h, List.map_append, List.getD_eq_getElem?_getD, List.getElem?_eq_getElem h]
  rfl
theorem lhave_take (l : List ByteArray) (k : Nat) (h : k < l.length) : lhave (l.take (k + 1)) = lhave (l.take k) ++ [txt (l.getD k ByteArray.empty).data.toList] := by
  unfold lhave
  rw [List.take_add_one, List.getElem?_eq_getElem h, List.map_append, List.getD_eq_getElem?_getD, List.getElem?_eq_getElem h]
  rfl
theorem num_itoa {x : Int} (h : 0 ≤ x) : (num x.toNat).data.toList = Lib.itoa x := by
  obtain ⟨m, rfl⟩ : ∃ m : Nat, x = (m : Int) := ⟨x.toNat, by omega⟩
  rw [Lib.itoa_nonneg, show ((m : Int)).toNat = m from by omega]
  unfold num
  simp
theorem cell_alloc {w : World} {q : Addr} {v : Value} (h : w.cell? q = some v) (o : Obj) : (w.alloc o).cell? q = some v := by
  rw [World.cell?_of_block (heap_alloc_lt w o _ (World.block_lt_of_cell? w q h))]; exact h
set_option maxRecDepth 100000 in
set_option maxHeartbeats 16000000 in
theorem wwrite_yes (v0 v1 v2 v3 v4 v5 : Int) (A : Option Addr) (c : Nat) (l : List ByteArray) (p : ByteArray) (w : World) (hC : Kd.C Kd.string w A l.length l) (hc : l.length ≤ c) (hs : ∀ x ∈ l, x.size ≤ 140737488351232) (hr : wright [v0, v1, v2, v3, v4, v5] l p = true) (htab : Tab w) (hgB : 1 < w.heap.size) :
    Calls Tryz.prog 7 #[.agg (letCells v0 v1 v2 v3 v4 v5 A l.length c p)] w (WrPost [v0, v1, v2, v3, v4, v5] l p w) := by
  obtain ⟨hl128, hs64, hp12⟩ := wright_have hr
  obtain ⟨w1, hw1⟩ : ∃ w1, w1 = w.alloc (.cells (letCells v0 v1 v2 v3 v4 v5 A l.length c p) 24) := ⟨_, rfl⟩
  have hb1 : Below w.heap.size w w1 := by rw [hw1]; exact (Below.refl _ _).alloc (Nat.le_refl _) _
  have hg : LetAt w1 w.heap.size v0 v1 v2 v3 v4 v5 A l.length c p := by unfold LetAt; rw [hw1]; exact heap_alloc_at _ _
  have CR := right_c v0 v1 v2 v3 v4 v5 A c l p w1 (Kd.C_below hC hb1) hc (by omega) hs
  rw [hr] at CR
  obtain ⟨c0, c1, c2, c3, c4, c5, c6, c7⟩ := let_cells hg
  have hgH := Lib.hid hg
  have hgl := Lib.hid (show w.heap.size < w1.heap.size from heap_lt hg)
  unfold WrPost
  rw [hr]
  unfold letCells at hw1 CR ⊢
  obtain ⟨n, hN⟩ : ∃ n, n = l.length := ⟨_, rfl⟩
  rw [← hN] at hc CR c6 hw1 hl128 ⊢
  have CRH := Lib.hid CR
  have hb1H := Lib.hid hb1
  replace hN := Lib.hid hN
  have hCH := Lib.hid hC
  have hrH := Lib.hid hr
  have hs64H := Lib.hid hs64
  have htabH := Lib.hid htab
  have hgBH := Lib.hid hgB
  obtain ⟨g, hgs⟩ : ∃ g, g = w.heap.size := ⟨_, rfl⟩
  rw [← hgs] at c0 c1 c2 c3 c4 c5 c6 c7
  have hgg := Lib.hid (show LetAt w1 g v0 v1 v2 v3 v4 v5 A l.length c p by rw [hgs]; exact hgH.out)
  obtain ⟨vs, hvs⟩ : ∃ vs, vs = [v0, v1, v2, v3, v4, v5] := ⟨_, rfl⟩
  have hvs6 : vs.length = 6 := by rw [hvs]; rfl
  rw [← hvs] at hrH ⊢
  replace hvs := Lib.hid hvs
  have hvs6H := Lib.hid hvs6
  clear hvs6
  clear hC hg hb1 CR hr hs64 hgH htab hgB hs
  go_enter Tryz.func7, Tryz.ntmps7
  go_upto_region 1 with fail
  rw [← hw1, ← hgs]
  replace hw1 := Lib.hid hw1
  have hgsH := Lib.hid hgs
  rw [← hgs] at hgl
  clear hgs
  go_wp2_with fail
  refine (CRH.out).mono ?_
  rintro ev w2 ⟨rfl, hb2⟩
  have hg2 := let_of hgg.out (hb2.block _ hgl.out)
  have hb2H := Lib.hid (hb1H.out.trans (hb2.mono hb1H.out.size))
  have hgl2 := Lib.hid (heap_lt hg2)
  clear hb2 c0 c1 c2 c3 c4 c5 c6 c7 CRH
  go_wp2_with fail
  refine (list_c none 0 0 w2).mono ?_
  rintro ev w3 ⟨rfl, hb3⟩
  have hg3 := let_of hg2 (hb3.block _ hgl2.out)
  have hb3H := Lib.hid (hb2H.out.trans (hb3.mono hb2H.out.size))
  have hgl3 := Lib.hid (heap_lt hg3)
  obtain ⟨bf, hbf⟩ : ∃ bf, bf = w3.heap.size := ⟨_, rfl⟩
  obtain ⟨w4, hw4⟩ : ∃ w4, w4 = w3.alloc (.cells #[.bool true, .string ⟨#[]⟩, .slice none 0 0] 52) := ⟨_, rfl⟩
  have hs4 := Lib.hid (show w4.heap.size = bf + 1 by rw [hw4, hbf]; simp)
  have hf4 : w4.heap[bf]? = some (.cells #[.bool true, .string ⟨#[]⟩, .slice none 0 0] 52 (0, 0)) := by rw [hw4, hbf]; exact heap_alloc_at _ _
  have hg4 := let_of hg3 (show w4.heap[g]? = _ by rw [hw4]; exact heap_alloc_lt _ _ _ hgl3.out)
  have hgbf := Lib.hid (show g < bf by rw [hbf]; exact hgl3.out)
  have hb4H := Lib.hid (show Below w.heap.size w w4 by rw [hw4]; exact hb3H.out.alloc (by rw [← hgsH.out]; exact Nat.le_of_lt hgl3.out) _)
  have CN := Lib.hid (numbers_c g w4)
  have hf4H := Lib.hid hf4
  have hg4H := Lib.hid hg4
  clear hb3 hg2 hg3 hf4 hg4
  unfold vlist
  go_upto_region 4 with fail
  rw [← hw4, ← hbf]
  replace hw4 := Lib.hid hw4
  replace hbf := Lib.hid hbf
  go_wp2_with fail
  refine (CN.out).mono ?_
  rintro ev w5 ⟨A2, t2, rfl, hA2, hrow, hb5⟩
  have hrowH := Lib.hid hrow
  have hg5 := Lib.hid (let_of hg4H.out (hb5.block _ (heap_lt hg4H.out)))
  have hf5 := Lib.hid ((hb5.block _ (heap_lt hf4H.out)).trans hf4H.out)
  have hA2H := Lib.hid (show bf < A2 by have := hs4.out; omega)
  have hb5H := Lib.hid (hb4H.out.trans (hb5.mono hb4H.out.size))
  have hbf5 := Lib.hid (heap_lt hf5.out)
  clear hrow hb5 hA2
  go_wp2_with fail
  go_loopg [19] 6 (fun g' i W => ∃ (k : Nat) (v : Value), g' = 6 - k ∧ k ≤ 6 ∧ i = .int .i64 k ∧ W.heap[bf]? = some (.cells #[.bool true, .string ⟨#[]⟩, v] 52 (0, 0)) ∧ Bag w5.heap.size W v (lnums (vs.take k)) ∧ Tch (fun b => b = bf) w5 W)
  case atStart => exact ⟨0, .slice none 0 0, rfl, by omega, rfl, hf5.out, Bag.nil _ _, Tch.refl _ _⟩
  case round =>
    obtain ⟨k, v, hg', hk, rfl, hfb, hbag, hT⟩ := hrel
    subst hg'
    have hrowr := hT.heap hrowH.out (show ¬ A2 = bf by have := hA2H.out; omega)
    have hletr := let_of hg5.out (hT.block _ (heap_lt hg5.out) (show ¬ g = bf by have := hgbf.out; omega))
    have hfbH := Lib.hid hfb
    have hbagH := Lib.hid hbag
    have hTH := Lib.hid hT
    by_cases hk6 : k < 6
    · have hki : (k : Int) < 6 := by omega
      obtain ⟨hx0, hx1⟩ := wright_nums hrH.out k hk6
      have hp1 : wr.cell? ⟨A2, k * 2, none⟩ = some (.pointer (some ⟨g, k, none⟩)) := by rw [cell_of hrowr]; exact row_ptr g k hk6
      have hp2 : wr.cell? ⟨A2, k * 2 + 1, none⟩ = some (.int .i64 (lim k)) := by rw [cell_of hrowr]; exact row_lim g k hk6
      have hp3 : wr.cell? ⟨g, k, none⟩ = some (.int .i64 (vs.getD k 0)) := by rw [cell_of hletr, hvs.out]; exact let_num _ _ _ _ _ _ _ _ _ _ k hk6
      have hnext := Lib.hid (lnums_take vs k (by rw [hvs6H.out]; exact hk6))
      generalize vs.getD k 0 = x at *
      obtain ⟨m, hm⟩ : ∃ m, m = lim k := ⟨_, rfl⟩
      rw [← hm] at hp2
      replace hm := Lib.hid hm
      obtain ⟨q, hq⟩ : ∃ q, q = wr.heap.size := ⟨_, rfl⟩
      obtain ⟨W1, hW1⟩ : ∃ W1, W1 = wr.alloc (.cells #[.pointer (some ⟨g, k, none⟩), .int .i64 m] 58) := ⟨_, rfl⟩
      have hq1 : W1.cell? ⟨q, 0, none⟩ = some (.pointer (some ⟨g, k, none⟩)) := by rw [hW1, hq]; exact (cell_of (heap_alloc_at _ _) 0).trans rfl
      have hq3 : W1.cell? ⟨g, k, none⟩ = some (.int .i64 x) := by rw [hW1]; exact cell_alloc hp3 _
      have hq2 : W1.cell? ⟨bf, 2, none⟩ = some v := by rw [hW1]; exact cell_alloc (by rw [cell_of hfb]; rfl) _
      obtain ⟨S, hS⟩ : ∃ S : World → Prop, S = fun W => W.cell? ⟨bf, 2, none⟩ = some v ∧ W.cell? ⟨q, 0, none⟩ = some (.pointer (some ⟨g, k, none⟩)) ∧ W.cell? ⟨g, k, none⟩ = some (.int .i64 x) := ⟨_, rfl⟩
      have hSi : ∀ W, S W ↔ (W.cell? ⟨bf, 2, none⟩ = some v ∧ W.cell? ⟨q, 0, none⟩ = some (.pointer (some ⟨g, k, none⟩)) ∧ W.cell? ⟨g, k, none⟩ = some (.int .i64 x)) := fun W => by rw [hS]
      have hS0 : S W1.drew := (hSi _).2 ⟨hq2, hq1, hq3⟩
      have s1 : ∀ X : InS S, X.val.cell? ⟨bf, 2, none⟩ = some v := fun X => ((hSi X.val).1 X.mem).1
      have s2 : ∀ X : InS S, X.val.cell? ⟨q, 0, none⟩ = some (.pointer (some ⟨g, k, none⟩)) := fun X => ((hSi X.val).1 X.mem).2.1
      have s3 : ∀ X : InS S, X.val.cell? ⟨g, k, none⟩ = some (.int .i64 x) := fun X => ((hSi X.val).1 X.mem).2.2
      have hne : Nonempty (InS S) := ⟨⟨W1.drew, hS0⟩⟩
      have hS0H := Lib.hid hS0
      have hSiH := Lib.hid hSi
      clear hS hSi hq1 hq2 hq3 hfb hbag hT hrowr hletr hS0
      go_upto_region 7 with fail
      rw [← hW1, ← hq]
      replace hW1 := Lib.hid hW1
      replace hq := Lib.hid hq
      refine wp_region_reads S [0, 1, 2, 3, 4, 5] [6, 7, 8, 9, 10] (by kernel_rfl) (by kernel_rfl) hS0H.out ?_
      simp only [pick, List.getD_cons_zero, List.getD_cons_succ]
      repeat (go_big_quiet_step (fail))
      refine wpQuiet_nil ?_
      rw [wpChain]
      have CNum := fun W (h : Tab W) => Lib.hid (num_c x.toNat (by omega) W h)
      rw [show ((x.toNat : Nat) : Int) = x from by omega] at CNum
      have hbW1 := Lib.hid (show Below wr.heap.size wr W1 from by rw [hW1.out]; exact (Below.refl _ _).alloc (Nat.le_refl _) _)
      have hbW := Lib.hid (show Below w5.heap.size w5 wr → Below w.heap.size w W1.drew from fun h => hb5H.out.trans (((h.trans (hbW1.out.mono h.size)).drew).mono hb5H.out.size))
      have hT5 := Lib.hid (hTH.out.below (B := w.heap.size) (by exact hb5H.out.size) (fun k hk _ => by subst hk; have := hgbf.out; rw [hgsH.out] at this; omega))
      have hbWr := Lib.hid (show Below w.heap.size w W1.drew from hb5H.out.trans ((hT5.out.trans (hbW1.out.mono (Nat.le_trans hb5H.out.size hT5.out.size))).drew))
      have htabw := Lib.hid (htabH.out.keep hbWr.out hgBH.out)
      obtain ⟨t1, t2, t3⟩ := (hSiH.out _).1 hS0H.out
      go_wp2_with (go_at_call 19; with_reducible refine ((CNum _ htabw.out).out).mono ?_; rintro ev w6 ⟨rfl, hb6⟩)
      have r1 := keepc hb6 t1
      have r2 := keepc hb6 t2
      have r3 := keepc hb6 t3
      have hb6H := Lib.hid hb6
      unfold vtext
      refine ⟨⟨⟨w6, (hSiH.out _).2 ⟨r1, r2, r3⟩⟩, rfl⟩, ?_⟩
      rw [wpChain]
      go_wp2_with fail
      refine ⟨⟨⟨_, (hSiH.out _).2 ⟨cell_alloc r1 _, cell_alloc r2 _, cell_alloc r3 _⟩⟩, rfl⟩, ?_⟩
      rw [wpChain]
      have hnb := Lib.hid (show ∀ b, b < w5.heap.size → some b ≠ v.ownBlock from fun b hb e => by have := (hbagH.out.lt _ e.symm).1; omega)
      have hbr6 := Lib.hid (show Below wr.heap.size wr w6 from ((hbW1.out.drew).trans (hb6H.out.mono (by show wr.heap.size ≤ W1.heap.size; exact hbW1.out.size))))
      have hbag6 := Lib.hid (hbagH.out.keep (w' := w6) (fun b h1 h2 => hbr6.out.block b h2) hbr6.out.size)
      have hqlo := Lib.hid (show wr.heap.size ≤ q from by rw [hq.out]; exact Nat.le_refl _)
      have hT5s := hT5.out.size
      have hlen := Lib.hid (show (lnums (vs.take k)).length = k from by unfold lnums; rw [List.length_map, List.length_take, hvs6H.out]; omega)
      go_wp2_with (at_builtin; refine bag_app (by rfl) _ _ _ (by rfl) Tryz.underlying50 (by rfl) k 1 1 (by rfl) (by rfl) hbag6.out (FC.texts _) hlen.out (by rfl) (by omega) (by omega) (Nat.le_trans hTH.out.size hbr6.out.size) ?_; intro g7 cap7 w7 hbag7 hgrew7)
      have hbf5' := hbf5.out
      have hg5' := heap_lt hg5.out
      have u1 := hgrew7.cell r1 (hnb.out bf hbf5')
      have u2 := hgrew7.cell r2 (show some q ≠ v.ownBlock from fun e => by have := (hbagH.out.lt _ e.symm).2; have := hqlo.out; omega)
      have u3 := hgrew7.cell r3 (hnb.out g hg5')
      have hf7 := hgrew7.heap ((hbr6.out.block _ (heap_lt hfbH.out)).trans hfbH.out) (hnb.out bf hbf5')
      refine ⟨⟨⟨w7, (hSiH.out _).2 ⟨u1, u2, u3⟩⟩, rfl⟩, ?_⟩
      rw [wpChain]
      go_wp2_with fail
      refine ⟨⟨⟨w7, (hSiH.out _).2 ⟨u1, u2, u3⟩⟩, rfl⟩, ?_⟩
      rw [wpChain]
      have z7 : w7.frozen? ⟨bf, 2, none⟩ = false := fr_of hf7 2
      have hf7H := Lib.hid hf7
      have hbag7H := Lib.hid hbag7
      have hgrew7H := Lib.hid hgrew7
      clear hf7 hbag7 hgrew7 hbf5' hg5' hT5s
      go_wp2_with fail
      refine stepPost_last ?_
      go_wp2_with fail
      go_roundg (6 - (k + 1))
      case measure => omega
      case rel =>
        refine ⟨k + 1, .slice (some ⟨g7, 0, none⟩) (k + 1) cap7, rfl, by omega, by go_num, heap_set _ _ _ _ _ _ _ hf7H.out, ?_, ?_⟩
        · rw [hnext.out, ← num_itoa hx0]
          exact hbag7H.out.keep (fun b h1 h2 => heap_set_ne _ _ _ _ (by show b ≠ bf; have := hbf5.out; omega)) (by rw [size_set]; exact Nat.le_refl _)
        · exact (hgrew7H.out.tch (hTH.out.trans (Tch.of_new hbr6.out)) (fun b hb => (hbagH.out.lt b hb).1)).setCell ⟨bf, 2, none⟩ (fun _ => rfl) _
    · have hk6e : k = 6 := by omega
      subst hk6e
      have hki : ¬ ((6 : Nat) : Int) < 6 := by omega
      have htake : vs.take 6 = vs := List.take_of_length_le (by rw [hvs6H.out]; exact Nat.le_refl _)
      rw [htake] at hbagH
      clear htake hfb hbag hT hrowr
      have hT5 := Lib.hid (hTH.out.below (B := w.heap.size) (by exact hb5H.out.size) (fun k hk _ => by subst hk; have := hgbf.out; rw [hgsH.out] at this; omega))
      have hglr := Lib.hid (heap_lt hletr)
      have hletH := Lib.hid hletr
      clear hletr
      go_wp2_with fail
      refine (list_c none 0 0 wr).mono ?_
      rintro ev w7 ⟨rfl, hb7⟩
      unfold vlist
      obtain ⟨bh, hbh⟩ : ∃ bh, bh = w7.heap.size := ⟨_, rfl⟩
      obtain ⟨w8, hw8⟩ : ∃ w8, w8 = w7.alloc (.cells #[.bool true, .string ⟨#[]⟩, .slice none 0 0] 52) := ⟨_, rfl⟩
      have hs8 := Lib.hid (show w8.heap.size = bh + 1 by rw [hw8, hbh]; simp)
      have hb8 := Lib.hid (show Below wr.heap.size wr w8 by rw [hw8]; exact hb7.alloc hb7.size _)
      have hh8 := Lib.hid (show w8.heap[bh]? = some (.cells #[.bool true, .string ⟨#[]⟩, .slice none 0 0] 52 (0, 0)) by rw [hw8, hbh]; exact heap_alloc_at _ _)
      have hl8 := Lib.hid (let_of hletH.out (hb8.out.block _ hglr.out))
      have hf8 := Lib.hid ((hb8.out.block _ (heap_lt hfbH.out)).trans hfbH.out)
      have hbhl := Lib.hid (show wr.heap.size ≤ bh by rw [hbh]; exact hb7.size)
      obtain ⟨e0, e1, e2, e3, e4, e5, e6, e7⟩ := let_cells hl8.out
      rw [← hN.out] at e6
      clear hb7 e0 e1 e2 e3 e4 e5 e7
      go_upto_region 10 with fail
      rw [← hw8, ← hbh]
      replace hw8 := Lib.hid hw8
      replace hbh := Lib.hid hbh
      go_wp2_with fail
      have hncH := Lib.hid hc
      have hmL := Lib.hid hl128
      obtain ⟨wa, hwa⟩ : ∃ wa, wa = wr := ⟨_, rfl⟩
      rw [← hwa] at hfbH hbagH hTH hT5 hglr hletH hb8 hbhl
      clear hwa
      obtain ⟨vf, hvf⟩ : ∃ vf, vf = v := ⟨_, rfl⟩
      rw [← hvf] at hfbH hbagH hf8
      clear hvf
      go_loopg [38] n (fun g' i W => ∃ (k : Nat) (v : Value), g' = n - k ∧ k ≤ n ∧ i = .int .i64 k ∧ W.heap[bh]? = some (.cells #[.bool true, .string ⟨#[]⟩, v] 52 (0, 0)) ∧ Bag w8.heap.size W v (lhave (l.take k)) ∧ Tch (fun b => b = bh) w8 W)
      case atStart => exact ⟨0, .slice none 0 0, rfl, by omega, rfl, hh8.out, Bag.nil _ _, Tch.refl _ _⟩
      case round =>
        obtain ⟨k, v, hg', hk, rfl, hhb, hbag, hT⟩ := hrel
        subst hg'
        have hhbH := Lib.hid hhb
        have hbag2 := Lib.hid hbag
        have hT2 := Lib.hid hT
        have hw8s := Lib.hid (show w.heap.size ≤ w8.heap.size from Nat.le_trans (Nat.le_trans hb5H.out.size (Nat.le_trans hTH.out.size hb8.out.size)) (Nat.le_refl _))
        have hgb := Lib.hid (show w.heap.size ≤ bh from Nat.le_trans (Nat.le_trans hb5H.out.size hTH.out.size) hbhl.out)
        have hbr := Lib.hid (show Below w.heap.size w wr from ((hb5H.out.trans (hT5.out)).trans (hb8.out.mono (Nat.le_trans hb5H.out.size hTH.out.size))).trans (hT2.out.below (B := w.heap.size) hw8s.out (fun k hk _ => by subst hk; exact hgb.out)))
        by_cases hkn : k < n
        · have hki : (k : Int) < (n : Int) := by omega
          have hkl : k < l.length := by rw [← hN.out]; exact hkn
          obtain ⟨b, o, rfl, hcell⟩ := str_cell (Kd.C_below hCH.out hbr.out) k hkl
          have hnext := Lib.hid (lhave_take l k hkl)
          generalize l.getD k ByteArray.empty = x at *
          have hq2 : wr.cell? ⟨bh, 2, none⟩ = some v := by rw [cell_of hhb]; rfl
          obtain ⟨S, hS⟩ : ∃ S : World → Prop, S = fun W => W.cell? ⟨bh, 2, none⟩ = some v := ⟨_, rfl⟩
          have hSi : ∀ W, S W ↔ W.cell? ⟨bh, 2, none⟩ = some v := fun W => by rw [hS]
          have hS0 : S wr.drew := (hSi _).2 hq2
          have s1 : ∀ X : InS S, X.val.cell? ⟨bh, 2, none⟩ = some v := fun X => (hSi X.val).1 X.mem
          have hne : Nonempty (InS S) := ⟨⟨wr.drew, hS0⟩⟩
          have hS0H := Lib.hid hS0
          have hSiH := Lib.hid hSi
          clear hS hSi hq2 hhb hbag hT hS0
          go_upto_region 13 with fail
          refine wp_region_reads S [0, 1, 2] [3, 4, 5, 6, 7] (by kernel_rfl) (by kernel_rfl) hS0H.out ?_
          simp only [pick, List.getD_cons_zero, List.getD_cons_succ]
          repeat (go_big_quiet_step (fail))
          refine wpQuiet_nil ?_
          have hbhs := heap_lt hhbH.out
          have hnb := Lib.hid (show ∀ b, b < w8.heap.size → some b ≠ v.ownBlock from fun b hb e => by have := (hbag2.out.lt _ e.symm).1; omega)
          have hbh8 := heap_lt hh8.out
          rw [wpChain]
          go_wp2_with (go_at_call 20; with_reducible refine (text_c _ _).mono ?_; rintro ev w9 ⟨rfl, hb9⟩)
          have r1 := keepc hb9 ((hSiH.out _).1 hS0H.out)
          have hbr9 := Lib.hid (show Below wr.heap.size wr w9 from ((Below.refl wr.heap.size wr).drew).trans hb9)
          have hbag9 := Lib.hid (hbag2.out.keep (w' := w9) (fun b h1 h2 => hbr9.out.block b h2) hbr9.out.size)
          clear hb9
          unfold vtext
          refine ⟨⟨⟨w9, (hSiH.out _).2 r1⟩, rfl⟩, ?_⟩
          rw [wpChain]
          go_wp2_with fail
          refine ⟨⟨⟨_, (hSiH.out _).2 (cell_alloc r1 _)⟩, rfl⟩, ?_⟩
          rw [wpChain]
          have hlen := Lib.hid (show (lhave (l.take k)).length = k from by unfold lhave; rw [List.length_map, List.length_take]; omega)
          have hmL' := hmL.out
          go_wp2_with (at_builtin; refine bag_app (by rfl) _ _ _ (by rfl) Tryz.underlying50 (by rfl) k 1 1 (by rfl) (by rfl) hbag9.out (FC.texts _) hlen.out (by rfl) (by omega) (by omega) (Nat.le_trans hT2.out.size hbr9.out.size) ?_; intro g7 cap7 w10 hbag10 hgrew10)
          have u1 := hgrew10.cell r1 (hnb.out bh hbh8)
          have hf10 := hgrew10.heap ((hbr9.out.block _ (heap_lt hhbH.out)).trans hhbH.out) (hnb.out bh hbh8)
          refine ⟨⟨⟨w10, (hSiH.out _).2 u1⟩, rfl⟩, ?_⟩
          rw [wpChain]
          go_wp2_with fail
          refine ⟨⟨⟨w10, (hSiH.out _).2 u1⟩, rfl⟩, ?_⟩
          rw [wpChain]
          have z10 : w10.frozen? ⟨bh, 2, none⟩ = false := fr_of hf10 2
          have hf10H := Lib.hid hf10
          have hbag10H := Lib.hid hbag10
          have hgrew10H := Lib.hid hgrew10
          clear hf10 hbag10 hgrew10 hbh8 hbhs
          go_wp2_with fail
          refine stepPost_last ?_
          go_wp2_with fail
          go_roundg (n - (k + 1))
          case measure => omega
          case rel =>
            refine ⟨k + 1, .slice (some ⟨g7, 0, none⟩) (k + 1) cap7, rfl, by omega, by go_num, heap_set _ _ _ _ _ _ _ hf10H.out, ?_, ?_⟩
            · rw [hnext.out]
              exact hbag10H.out.keep (fun b h1 h2 => heap_set_ne _ _ _ _ (by show b ≠ bh; have := hs8.out; omega)) (by rw [size_set]; exact Nat.le_refl _)
            · exact (hgrew10H.out.tch (hT2.out.trans (Tch.of_new hbr9.out)) (fun b hb => (hbag2.out.lt b hb).1)).setCell ⟨bh, 2, none⟩ (fun _ => rfl) _
        · have hkn' : k = n := by omega
          subst hkn'
          have hki : ¬ (k : Int) < (k : Int) := by omega
          have ht : l.take k = l := List.take_of_length_le (by rw [← hN.out]; exact Nat.le_refl _)
          rw [ht] at hbag2
          clear ht
          have hfr := Lib.hid (hT2.out.heap hf8.out (show ¬ bf = bh by have := hbhl.out; have := hbf5.out; have := hTH.out.size; omega))
          have hlr := Lib.hid (let_of hl8.out (hT2.out.block _ (heap_lt hl8.out) (show ¬ g = bh by have := hbhl.out; have := hglr.out; omega)))
          have hbagF := Lib.hid (hbagH.out.keep (w' := wr) (fun b h1 h2 => (hT2.out.block b (Nat.lt_of_lt_of_le h2 hb8.out.size) (show ¬ b = bh by have := hbhl.out; omega)).trans (hb8.out.block b h2)) (Nat.le_trans hb8.out.size hT2.out.size))
          obtain ⟨Ah, ch, rfl, hcl, hcm, hks⟩ := hbag2.out.form
          have hll : (lhave l).length = k := by unfold lhave; rw [List.length_map]; exact hN.out.symm
          rw [hll] at hcl hhbH hhb
          have hksH := Lib.hid hks
          have hclH := Lib.hid hcl
          have hq1 : wr.cell? ⟨bf, 2, none⟩ = some vf := by rw [cell_of hfr.out]; rfl
          obtain ⟨hq2, hq3, hq4, _, _⟩ := blk3 hhb
          have hq5 : wr.cell? ⟨g, 7, none⟩ = some (.string p) := (let_cells hlr.out).2.2.2.2.2.2.2
          obtain ⟨S, hS⟩ : ∃ S : World → Prop, S = fun W => W.cell? ⟨bf, 2, none⟩ = some vf ∧ W.cell? ⟨bh, 0, none⟩ = some (.bool true) ∧ W.cell? ⟨bh, 1, none⟩ = some (.string ⟨#[]⟩) ∧ W.cell? ⟨bh, 2, none⟩ = some (.slice Ah k ch) ∧ W.cell? ⟨g, 7, none⟩ = some (.string p) := ⟨_, rfl⟩
          have hSi : ∀ W, S W ↔ (W.cell? ⟨bf, 2, none⟩ = some vf ∧ W.cell? ⟨bh, 0, none⟩ = some (.bool true) ∧ W.cell? ⟨bh, 1, none⟩ = some (.string ⟨#[]⟩) ∧ W.cell? ⟨bh, 2, none⟩ = some (.slice Ah k ch) ∧ W.cell? ⟨g, 7, none⟩ = some (.string p)) := fun W => by rw [hS]
          have hS0 : S wr.drew := (hSi _).2 ⟨hq1, hq2, hq3, hq4, hq5⟩
          have s1 : ∀ X : InS S, X.val.cell? ⟨bf, 2, none⟩ = some vf := fun X => ((hSi X.val).1 X.mem).1
          have s2 : ∀ X : InS S, X.val.cell? ⟨bh, 0, none⟩ = some (.bool true) := fun X => ((hSi X.val).1 X.mem).2.1
          have s3 : ∀ X : InS S, X.val.cell? ⟨bh, 1, none⟩ = some (.string ⟨#[]⟩) := fun X => ((hSi X.val).1 X.mem).2.2.1
          have s4 : ∀ X : InS S, X.val.cell? ⟨bh, 2, none⟩ = some (.slice Ah k ch) := fun X => ((hSi X.val).1 X.mem).2.2.2.1
          have s5 : ∀ X : InS S, X.val.cell? ⟨g, 7, none⟩ = some (.string p) := fun X => ((hSi X.val).1 X.mem).2.2.2.2
          have hne : Nonempty (InS S) := ⟨⟨wr.drew, hS0⟩⟩
          have hS0H := Lib.hid hS0
          have hSiH := Lib.hid hSi
          clear hS hSi hq1 hq2 hq3 hq4 hq5 hhb hbag hT hS0 hks hcl hll
          go_upto_region 15 with fail
          refine wp_region_reads S [0, 1, 2, 3, 4] [5, 6, 7, 8, 9] (by kernel_rfl) (by kernel_rfl) hS0H.out ?_
          simp only [pick, List.getD_cons_zero, List.getD_cons_succ]
          repeat (go_big_quiet_step (fail))
          refine wpQuiet_nil ?_
          have hvfw := Lib.hid (show ∀ b, vf.ownBlock = some b → w5.heap.size ≤ b ∧ b < wa.heap.size from fun b hb => hbagH.out.lt b hb)
          rw [wpChain]
          go_wp2_with (go_at_call 20; with_reducible refine (text_c _ _).mono ?_; rintro ev w9 ⟨rfl, hb9⟩)
          obtain ⟨t1, t2, t3, t4, t5⟩ := (hSiH.out _).1 hS0H.out
          have r1 := keepc hb9 t1
          have r2 := keepc hb9 t2
          have r3 := keepc hb9 t3
          have r4 := keepc hb9 t4
          have r5 := keepc hb9 t5
          have hbr9 := Lib.hid (show Below wr.heap.size wr w9 from ((Below.refl wr.heap.size wr).drew).trans hb9)
          have hbag9 := Lib.hid (hbagF.out.keep (w' := w9) (fun b h1 h2 => hbr9.out.block b h2) hbr9.out.size)
          clear hb9 t1 t2 t3 t4 t5
          unfold vtext
          refine ⟨⟨⟨w9, (hSiH.out _).2 ⟨r1, r2, r3, r4, r5⟩⟩, rfl⟩, ?_⟩
          rw [wpChain]
          go_wp2_with fail
          refine ⟨⟨⟨_, (hSiH.out _).2 ⟨cell_alloc r1 _, cell_alloc r2 _, cell_alloc r3 _, cell_alloc r4 _, cell_alloc r5 _⟩⟩, rfl⟩, ?_⟩
          rw [wpChain]
          have hwa8 := hb8.out.size
          have hFl := Lib.hid (show FK (fun b => w5.heap.size ≤ b ∧ b < w9.heap.size ∧ some b ≠ vf.ownBlock) w9 (lst (lhave l)) [.bool true, .string ⟨#[]⟩, .slice Ah k ch] by
            unfold lst FK
            rw [show (lhave l).length = k from by unfold lhave; rw [List.length_map]; exact hN.out.symm]
            refine ⟨Ah, ch, rfl, hclH.out, by have := hmL.out; omega, FKs.move (fun b hb => ⟨⟨by have := hTH.out.size; omega, Nat.lt_of_lt_of_le hb.2 hbr9.out.size, fun e => by have := (hvfw.out b e.symm).2; omega⟩, hbr9.out.block b hb.2⟩) _ Ah 0 hksH.out⟩)
          have hlen := Lib.hid (show (lnums vs).length = 6 from by unfold lnums; rw [List.length_map]; exact hvs6H.out)
          go_wp2_with (at_builtin; refine bag_app (G := [lst (lhave l), txt p.data.toList]) (by rfl) _ _ _ (by rfl) Tryz.underlying50 (by rfl) 6 2 2 (by rfl) (by rfl) hbag9.out ⟨_, _, _, _, rfl, hFl.out, FC.texts _⟩ hlen.out (by rfl) (by omega) (by omega) (Nat.le_trans hTH.out.size (Nat.le_trans hwa8 (Nat.le_trans hT2.out.size hbr9.out.size))) ?_; intro g10 cap10 w10 hbag10 hgrew10)
          have hnb := Lib.hid (show ∀ b, b < w5.heap.size → some b ≠ vf.ownBlock from fun b hb e => by have := (hvfw.out b e.symm).1; omega)
          have hnh := Lib.hid (show some bh ≠ vf.ownBlock from fun e => by have := (hvfw.out bh e.symm).2; have := hbhl.out; omega)
          have hbf5' := hbf5.out
          have hg5' := heap_lt hg5.out
          have u1 := hgrew10.cell r1 (hnb.out bf hbf5')
          have u2 := hgrew10.cell r2 hnh.out
          have u3 := hgrew10.cell r3 hnh.out
          have u4 := hgrew10.cell r4 hnh.out
          have u5 := hgrew10.cell r5 (hnb.out g hg5')
          have hf10 := hgrew10.heap ((hbr9.out.block _ (heap_lt hfr.out)).trans hfr.out) (hnb.out bf hbf5')
          refine ⟨⟨⟨w10, (hSiH.out _).2 ⟨u1, u2, u3, u4, u5⟩⟩, rfl⟩, ?_⟩
          rw [wpChain]
          go_wp2_with fail
          refine ⟨⟨⟨w10, (hSiH.out _).2 ⟨u1, u2, u3, u4, u5⟩⟩, rfl⟩, ?_⟩
          rw [wpChain]
          have z10 : w10.frozen? ⟨bf, 2, none⟩ = false := fr_of hf10 2
          obtain ⟨w11, hw11⟩ : ∃ w11, w11 = w10.setCell ⟨bf, 2, none⟩ (.slice (some ⟨g10, 0, none⟩) (6 + 2) cap10) := ⟨_, rfl⟩
          have hf11 := Lib.hid (show w11.heap[bf]? = some (.cells #[.bool true, .string ⟨#[]⟩, .slice (some ⟨g10, 0, none⟩) (6 + 2) cap10] 52 (0, 0)) by rw [hw11]; exact heap_set _ _ _ _ _ _ _ hf10)
          have hbag11 := Lib.hid (show Bag w5.heap.size w11 (.slice (some ⟨g10, 0, none⟩) (6 + 2) cap10) (lbody vs l p) by
            rw [hw11]
            exact hbag10.keep (fun b h1 h2 => heap_set_ne _ _ _ _ (by show b ≠ bf; omega)) (by rw [size_set]; exact Nat.le_refl _))
          have hbr11 := Lib.hid (show Below w.heap.size w w11 by
            rw [hw11]
            exact (hgrew10.below (hbr.out.trans (hbr9.out.mono hbr.out.size)) (Nat.le_trans hbr.out.size hbr9.out.size) (fun b hb => Nat.le_trans hb5H.out.size (hvfw.out b hb).1)).setCell (by show w.heap.size ≤ bf; have := hgbf.out; rw [← hgsH.out]; omega) _)
          clear hf10 hbag10 hgrew10 hbf5' hg5' hwa8
          go_wp2_with fail
          refine stepPost_last ?_
          go_upto_region 16 with fail
          rw [← hw11]
          replace hw11 := Lib.hid hw11
          obtain ⟨a0, a1, a2, _, _⟩ := blk3 hf11.out
          obtain ⟨Af, cf, hfe, hfl, hfm, hfk⟩ := hbag11.out.form
          have hFV := FK.toFV (ok := fun b => w5.heap.size ≤ b ∧ b < w11.heap.size) (B := w11.heap.size) (fun b hb => hb.2) (lst (lbody vs l p)) [.bool true, .string ⟨#[]⟩, .slice (some ⟨g10, 0, none⟩) (6 + 2) cap10] (by
            unfold lst FK
            have hl8 : (lbody vs l p).length = 8 := by unfold lbody lnums; rw [List.length_append, List.length_map, hvs6H.out]; rfl
            rw [hl8] at hfe hfl ⊢
            refine ⟨Af, cf, by rw [hfe], hfl, by omega, hfk⟩)
          have hbl := lbody_len hvs6H.out hrH.out
          have CW1 := Lib.hid (write_any (lst (lbody vs l p)) _ _ _ w11 hFV (lbody_right _ _ _) (by rw [lst_depth, lbody_depths]; omega) (by omega) (htabH.out.keep hbr11.out hgBH.out) (Nat.lt_of_lt_of_le hgBH.out hbr11.out.size))
          have hdg : dg (lst (lbody vs l p)).bytes = Sha.sha Sha.K Sha.H0 ⟨(lst (lbody vs l p)).bytes.toArray⟩ := rfl
          have hfull : lfull vs l p = lbody vs l p ++ [txt (dg (lst (lbody vs l p)).bytes).data.toList] := rfl
          have hbs := arr_size (lst (lbody vs l p)).bytes
          generalize hbb : (ByteArray.mk (lst (lbody vs l p)).bytes.toArray) = bb at *
          replace hbb := Lib.hid hbb
          have hbb2 : bb.size ≤ 22000 := by omega
          have hdgH := Lib.hid hdg
          have hfullH := Lib.hid hfull
          clear hfe hfl hfm hfk hFV hbl hdg hfull hbs
          go_wp2_with fail
          refine (CW1.out).mono ?_
          rintro ev w12 ⟨rfl, hb12⟩
          have hf12 := Lib.hid ((hb12.block _ (heap_lt hf11.out)).trans hf11.out)
          have hbag12 := Lib.hid (hbag11.out.keep (w' := w12) (fun b h1 h2 => hb12.block b h2) hb12.size)
          have hbr12 := Lib.hid (hbr11.out.trans (hb12.mono hbr11.out.size))
          have hs12 := Lib.hid hb12.size
          clear hb12 a0 a1 a2
          obtain ⟨vb, hvb⟩ : ∃ vb, vb = (Value.slice (some ⟨g10, 0, none⟩) (6 + 2) cap10) := ⟨_, rfl⟩
          have hvo := Lib.hid (show ∀ b, (Value.slice (some ⟨g10, 0, none⟩) (6 + 2) cap10).ownBlock = some b → w5.heap.size ≤ b ∧ b < w12.heap.size from fun b hb => hbag12.out.lt b hb)
          have hq1 : w12.cell? ⟨bf, 2, none⟩ = some (.slice (some ⟨g10, 0, none⟩) (6 + 2) cap10) := by rw [cell_of hf12.out]; rfl
          obtain ⟨S2, hS2⟩ : ∃ S : World → Prop, S = fun W => W.cell? ⟨bf, 2, none⟩ = some (.slice (some ⟨g10, 0, none⟩) (6 + 2) cap10) := ⟨_, rfl⟩
          have hSi2 : ∀ W, S2 W ↔ W.cell? ⟨bf, 2, none⟩ = some (.slice (some ⟨g10, 0, none⟩) (6 + 2) cap10) := fun W => by rw [hS2]
          have hS02 : S2 w12.drew := (hSi2 _).2 hq1
          have s1' : ∀ X : InS S2, X.val.cell? ⟨bf, 2, none⟩ = some (.slice (some ⟨g10, 0, none⟩) (6 + 2) cap10) := fun X => (hSi2 X.val).1 X.mem
          have hne2 : Nonempty (InS S2) := ⟨⟨w12.drew, hS02⟩⟩
          have hS0H2 := Lib.hid hS02
          have hSiH2 := Lib.hid hSi2
          clear hvb s1 s2 s3 s4 s5 hne hS2 hSi2 hq1 hS02
          go_upto_region 19 with fail
          refine wp_region_reads S2 [0, 1, 2] [3, 4, 5, 6, 7, 8] (by kernel_rfl) (by kernel_rfl) hS0H2.out ?_
          simp only [pick, List.getD_cons_zero, List.getD_cons_succ]
          repeat (go_big_quiet_step (fail))
          refine wpQuiet_nil ?_
          rw [wpChain]
          go_wp2_with (go_at_call 22; with_reducible refine (Sha.Sum_any bb (by omega) _).mono ?_; rintro ev w13 ⟨rfl, hT13⟩)
          have hb13 := hT13.below (B := w12.drew.heap.size) (Nat.le_refl _) (fun k hk _ => hk.elim)
          have x1 := keepc hb13 ((hSiH2.out _).1 hS0H2.out)
          have hbr13 := Lib.hid (show Below w12.heap.size w12 w13 from ((Below.refl w12.heap.size w12).drew).trans hb13)
          clear hT13 hb13
          obtain ⟨sd, hsd⟩ : ∃ sd, sd = Sha.sha Sha.K Sha.H0 bb := ⟨_, rfl⟩
          rw [← hsd]
          have hsdH := Lib.hid (show dg (lst (lbody vs l p)).bytes = sd by rw [hdgH.out, hsd])
          clear hsd
          refine ⟨⟨⟨w13, (hSiH2.out _).2 x1⟩, rfl⟩, ?_⟩
          rw [wpChain]
          go_wp2_with (go_at_call 20; with_reducible refine (text_c _ _).mono ?_; rintro ev w14 ⟨rfl, hb14⟩)
          have x2 := keepc hb14 x1
          have hbr14 := Lib.hid (hbr13.out.trans (hb14.mono hbr13.out.size))
          have hbag14 := Lib.hid (hbag12.out.keep (w' := w14) (fun b h1 h2 => hbr14.out.block b h2) hbr14.out.size)
          clear hb14 x1
          unfold vtext
          refine ⟨⟨⟨w14, (hSiH2.out _).2 x2⟩, rfl⟩, ?_⟩
          rw [wpChain]
          go_wp2_with fail
          refine ⟨⟨⟨_, (hSiH2.out _).2 (cell_alloc x2 _)⟩, rfl⟩, ?_⟩
          rw [wpChain]
          have hlen8 := Lib.hid (show (lbody vs l p).length = 6 + 2 from by unfold lbody lnums; rw [List.length_append, List.length_map, hvs6H.out]; rfl)
          have hz12 : w5.heap.size ≤ w14.heap.size := by have := hbr14.out.size; have := hs12.out; have := heap_lt hf11.out; have := (hbag11.out.lt g10 rfl).2; have := (hbag11.out.lt g10 rfl).1; omega
          go_wp2_with (at_builtin; refine bag_app (by rfl) _ _ _ (by rfl) Tryz.underlying50 (by rfl) (6 + 2) 1 1 (by rfl) (by rfl) hbag14.out (FC.texts sd) hlen8.out (by rfl) (by omega) (by omega) hz12 ?_; intro g15 cap15 w15 hbag15 hgrew15)
          have hbf5' := hbf5.out
          have hnb2 : some bf ≠ (Value.slice (some ⟨g10, 0, none⟩) (6 + 2) cap10).ownBlock := fun e => by have := (hvo.out _ e.symm).1; omega
          have x3 := hgrew15.cell x2 hnb2
          have hf15 := hgrew15.heap ((hbr14.out.block _ (heap_lt hf12.out)).trans hf12.out) hnb2
          refine ⟨⟨⟨w15, (hSiH2.out _).2 x3⟩, rfl⟩, ?_⟩
          rw [wpChain]
          go_wp2_with fail
          refine ⟨⟨⟨w15, (hSiH2.out _).2 x3⟩, rfl⟩, ?_⟩
          rw [wpChain]
          have z15 : w15.frozen? ⟨bf, 2, none⟩ = false := fr_of hf15 2
          obtain ⟨w16, hw16⟩ : ∃ w16, w16 = w15.setCell ⟨bf, 2, none⟩ (.slice (some ⟨g15, 0, none⟩) (6 + 2 + 1) cap15) := ⟨_, rfl⟩
          have hf16 := Lib.hid (show w16.heap[bf]? = some (.cells #[.bool true, .string ⟨#[]⟩, .slice (some ⟨g15, 0, none⟩) (6 + 2 + 1) cap15] 52 (0, 0)) by rw [hw16]; exact heap_set _ _ _ _ _ _ _ hf15)
          have hbag16 := Lib.hid (show Bag w5.heap.size w16 (.slice (some ⟨g15, 0, none⟩) (6 + 2 + 1) cap15) (lfull vs l p) by
            rw [hw16, hfullH.out, hsdH.out]
            exact hbag15.keep (fun b h1 h2 => heap_set_ne _ _ _ _ (by show b ≠ bf; omega)) (by rw [size_set]; exact Nat.le_refl _))
          have hbr16 := Lib.hid (show Below w.heap.size w w16 by
            rw [hw16]
            exact (hgrew15.below (hbr12.out.trans (hbr14.out.mono hbr12.out.size)) (Nat.le_trans hbr12.out.size hbr14.out.size) (fun b hb => Nat.le_trans hb5H.out.size (hvo.out b hb).1)).setCell (by show w.heap.size ≤ bf; have := hgbf.out; rw [← hgsH.out]; omega) _)
          clear hf15 hbag15 hgrew15 hbf5' hz12 hnb2
          go_wp2_with fail
          refine stepPost_last ?_
          go_upto_region 20 with fail
          rw [← hw16]
          replace hw16 := Lib.hid hw16
          obtain ⟨a0, a1, a2, _, _⟩ := blk3 hf16.out
          obtain ⟨Af, cf, hfe, hfl, hfm, hfk⟩ := hbag16.out.form
          have hFV := FK.toFV (ok := fun b => w5.heap.size ≤ b ∧ b < w16.heap.size) (B := w16.heap.size) (fun b hb => hb.2) (lst (lfull vs l p)) [.bool true, .string ⟨#[]⟩, .slice (some ⟨g15, 0, none⟩) (6 + 2 + 1) cap15] (by
            unfold lst FK
            have hl9 : (lfull vs l p).length = 9 := by unfold lfull lbody lnums; rw [List.length_append, List.length_append, List.length_map, hvs6H.out]; rfl
            rw [hl9] at hfe hfl ⊢
            refine ⟨Af, cf, by rw [hfe], hfl, by omega, hfk⟩)
          have hbl := lfull_len hvs6H.out hrH.out
          have CW2 := write_any (lst (lfull vs l p)) _ _ _ w16 hFV (lfull_right _ _ _) (by rw [lst_depth, lfull_depths]; omega) (by omega) (htabH.out.keep hbr16.out hgBH.out) (Nat.lt_of_lt_of_le hgBH.out hbr16.out.size)
          have elb : lbytes vs l p = (lst (lfull vs l p)).bytes := rfl
          rw [← elb] at CW2
          have CW2H := Lib.hid CW2
          generalize hLB : lbytes vs l p = LB at CW2H
          replace hLB := Lib.hid hLB
          clear hfe hfl hfm hfk hFV hbl CW2 elb
          go_wp2_with fail
          refine (CW2H.out).mono ?_
          rintro ev w17 ⟨rfl, hb17⟩
          have hb17H := Lib.hid (hbr16.out.trans (hb17.mono hbr16.out.size))
          clear hb17
          go_wp2_with fail
          go_ret2
          exact ⟨by rw [hLB.out]; first | rfl | (rw [if_pos rfl]; rfl), hb17H.out⟩
theorem wwrite_c (v0 v1 v2 v3 v4 v5 : Int) (A : Option Addr) (c : Nat) (l : List ByteArray) (p : ByteArray) (w : World) (hC : Kd.C Kd.string w A l.length l) (hc : l.length ≤ c) (hn : l.length ≤ 1000000000000) (hs : ∀ x ∈ l, x.size ≤ 140737488351232) (htab : Tab w) (hgB : 1 < w.heap.size) :
    Calls Tryz.prog 7 #[.agg (letCells v0 v1 v2 v3 v4 v5 A l.length c p)] w (WrPost [v0, v1, v2, v3, v4, v5] l p w) := by
  cases hr : wright [v0, v1, v2, v3, v4, v5] l p with
  | true => exact wwrite_yes v0 v1 v2 v3 v4 v5 A c l p w hC hc hs hr htab hgB
  | false => exact wwrite_no v0 v1 v2 v3 v4 v5 A c l p w hC hc hn hs hr
end Go.Proofs.YtbefkoljcacpcaaGreatDoor.Wi
