/- What LawPatchInverse lean on, part s of 29: the texts PaG, PaR, PaH, PaS. -/
import Derived.Test.YtbiioaggilaebaaGreatDoorTX0
import Derived.Test.YtbiioaggilaebaaGreatDoorTXg
import Derived.Test.YtbiioaggilaebaaGreatDoorTXi
import Derived.Test.YtbiioaggilaebaaGreatDoorTXm
import Derived.Test.YtbiioaggilaebaaGreatDoorTXn
import Derived.Test.YtbiioaggilaebaaGreatDoorTXo
import Derived.Test.YtbiioaggilaebaaGreatDoorTXp
import Derived.Test.YtbiioaggilaebaaGreatDoorTXr
set_option linter.all false
set_option maxRecDepth 100000
set_option maxHeartbeats 16000000
namespace Go.Proofs.YtbiioaggilaebaaGreatDoor.Tm
open Go Go.RowKit B Bld
theorem numi_c (n : Int) (h0 : -9223372036854775808 <= n) (h1 : n <= 9223372036854775807) (w : World) (htab : Tab w) : Calls Tryz.prog 42 #[.int .i64 n] w fun ev w' => ev = .returned (vtext ⟨(Lib.itoa n).toArray⟩) /\ Below w.heap.size w w' := by
 obtain ⟨w0, hw0⟩ : ∃ w0, w0 = w.alloc (.cells #[.bool false, .string ⟨#[]⟩, .slice none 0 0] 74) := ⟨_, rfl⟩
 have hb0 : Below w.heap.size w w0 := by rw [hw0]; exact (Below.refl _ _).alloc (Nat.le_refl _) _
 have hg : w0.heap[w.heap.size]? = some (.cells #[.bool false, .string ⟨#[]⟩, .slice none 0 0] 74 (0, 0)) := by rw [hw0]; exact heap_alloc_at _ _
 have CI := lh (itoa_int n h0 h1 w0 (htab.below hb0 (Nat.le_refl _)))
 have hgH := lh hg
 have hb0H := lh hb0
 clear hg hb0
 go_enter Tryz.func42, Tryz.ntmps42
 go_wp2_with fail
 rw [<- hw0]
 replace hw0 := lh hw0
 refine (CI.out).mono ?_
 rintro ev w1 ⟨rfl, hb1⟩
 have hb1H := lh hb1
 clear hb1
 go_wp2_with fail
 refine (text_c _ w1).mono ?_
 rintro ev w2 ⟨rfl, hb2⟩
 have hg2 : w2.heap[w.heap.size]? = some (.cells #[.bool false, .string ⟨#[]⟩, .slice none 0 0] 74 (0, 0)) := by
  have hs := heap_lt hgH.out
  rw [hb2.block _ (Nat.lt_of_lt_of_le hs hb1H.out.size), hb1H.out.block _ hs]
  exact hgH.out
 have hbb := lh (hb0H.out.trans ((hb1H.out.mono (Nat.le_of_lt (heap_lt hgH.out))).trans (hb2.mono (Nat.le_trans (Nat.le_of_lt (heap_lt hgH.out)) hb1H.out.size))))
 unfold vtext
 have k0 : w2.cell? ⟨w.heap.size, 0, none⟩ = some (.bool false) := by rw [cell_of hg2]; rfl
 have k1 : w2.cell? ⟨w.heap.size, 1, none⟩ = some (.string ⟨#[]⟩) := by rw [cell_of hg2]; rfl
 have k2 : w2.cell? ⟨w.heap.size, 2, none⟩ = some (.slice none 0 0) := by rw [cell_of hg2]; rfl
 have hsh : w2.shape? w.heap.size = some (74, 3) := by simp [World.shape?, hg2]
 have hfz := fr_of hg2
 clear hb2
 go_wp2_with fail
 (try simp only [Exit.inBlock, Exit.then])
 refine bodyPost_ret (results_cell_row rfl _ _ w.heap.size 74 #[.bool false, .string ⟨(Lib.itoa n).toArray⟩, .slice none 0 0] (0, 0) _ rfl (set3 hg2) Tryz.underlying74 rfl (by kernel_rfl)) rfl ⟨rfl, ?_⟩
 exact ((hbb.out.setCell (Nat.le_refl _) _).setCell (Nat.le_refl _) _).setCell (Nat.le_refl _) _
end Go.Proofs.YtbiioaggilaebaaGreatDoor.Tm
namespace Go.Proofs.YtbiioaggilaebaaGreatDoor.Pa
open Go Go.RowKit YtbiioaggilaebaaGreatDoorW.PrintWords B Tm Wi
theorem lhave_take (l : List ByteArray) (k : Nat) (h : k < l.length) : lhave (l.take (k + 1)) = lhave (l.take k) ++ [txt (l.getD k ByteArray.empty).data.toList] := by
 unfold lhave
 rw [List.take_add_one, List.getElem?_eq_getElem h, List.map_append, List.getD_eq_getElem?_getD, List.getElem?_eq_getElem h]
 rfl
theorem cell_alloc {w : World} {q : Addr} {v : Value} (h : w.cell? q = some v) (o : Obj) : (w.alloc o).cell? q = some v := by
 rw [World.cell?_of_block (heap_alloc_lt w o _ (World.block_lt_of_cell? w q h))]; exact h
theorem keepc {w w' : World} {p : Addr} {v : Value} (h : Below w.heap.size w w') (hc : w.cell? p = some v) : w'.cell? p = some v := (h.cell (World.block_lt_of_cell? w p hc)).trans hc
theorem Bag.lower {base base' : Nat} {w : World} {v : Value} {L : List F} (h : Bag base w v L) (hb : base' <= base) : Bag base' w v L := by
 obtain ⟨cs, h1, h2⟩ := h
 exact ⟨cs, own_weaken h1 hb, FC.move (fun b ⟨e1, e2, e3⟩ => ⟨⟨Nat.le_trans hb e1, e2, e3⟩, rfl⟩) h2⟩
def LForm (base : Nat) (w : World) (v : Value) (l : List F) : Prop := ∃ u, v = .agg #[.bool true, .string ⟨#[]⟩, u] /\ Bag base w u l
theorem texts_c (A : Option Addr) (c : Nat) (l : List ByteArray) (w : World) (hT : TxAt w A c l) (hn : l.length <= 100000000) :
 Calls Tryz.prog 44 #[.slice A l.length c] w fun ev w' => ∃ v, ev = .returned v /\ LForm w.heap.size w' v (lhave l) /\ Below w.heap.size w w' := by
 obtain ⟨w1, hw1⟩ : ∃ w1, w1 = w.alloc (.cells #[.bool false, .string ⟨#[]⟩, .slice none 0 0] 74) := ⟨_, rfl⟩
 have hr1 := lh (show w1.heap[w.heap.size]? = some (.cells #[.bool false, .string ⟨#[]⟩, .slice none 0 0] 74 (0, 0)) by rw [hw1]; exact heap_alloc_at _ _)
 have hb1 := lh (show Below w.heap.size w w1 by rw [hw1]; exact Wi.below_alloc _ _)
 have hTH := lh hT
 obtain ⟨n, hN⟩ : ∃ n, n = l.length := ⟨_, rfl⟩
 have hncH := lh hn
 rw [<- hN] at hn ⊢
 replace hN := lh hN
 have CL := lh (list_c none 0 0 w1)
 clear hT
 go_enter Tryz.func44, Tryz.ntmps44
 go_upto_region 1 with fail
 rw [<- hw1]
 replace hw1 := lh hw1
 go_wp2_with fail
 refine (CL.out).mono ?_
 rintro ev w2 ⟨rfl, hb2⟩
 unfold vlist
 have hb2H := lh (hb1.out.trans (hb2.mono hb1.out.size))
 have hr2 := lh ((hb2.block _ (heap_lt hr1.out)).trans hr1.out)
 obtain ⟨f, hf⟩ : ∃ f, f = w2.heap.size := ⟨_, rfl⟩
 obtain ⟨w3, hw3⟩ : ∃ w3, w3 = w2.alloc (.cells #[.bool true, .string ⟨#[]⟩, .slice none 0 0] 74) := ⟨_, rfl⟩
 have hf3 := lh (show w3.heap[f]? = some (.cells #[.bool true, .string ⟨#[]⟩, .slice none 0 0] 74 (0, 0)) by rw [hw3, hf]; exact heap_alloc_at _ _)
 have hs3 := lh (show w3.heap.size = f + 1 by rw [hw3, hf]; simp)
 have hr3 := lh (show w3.heap[w.heap.size]? = some (.cells #[.bool false, .string ⟨#[]⟩, .slice none 0 0] 74 (0, 0)) by rw [hw3]; exact (heap_alloc_lt _ _ _ (heap_lt hr2.out)).trans hr2.out)
 have hb3 := lh (show Below w.heap.size w w3 by rw [hw3]; exact hb2H.out.alloc hb2H.out.size _)
 have hrf := lh (show w.heap.size < f by rw [hf]; exact heap_lt hr2.out)
 have hwr := lh (Nat.le_refl w.heap.size)
 clear hb2
 go_upto_region 2 with fail
 rw [<- hw3, <- hf]
 replace hw3 := lh hw3
 replace hf := lh hf
 go_upto_region 3 with fail
 go_loopg [9] n (fun g' i W => ∃ (k : Nat) (v : Value), g' = n - k /\ k <= n /\ i = .int .i64 k /\ W.heap[f]? = some (.cells #[.bool true, .string ⟨#[]⟩, v] 74 (0, 0)) /\ Bag w3.heap.size W v (lhave (l.take k)) /\ Tch (fun b => b = f) w3 W)
 case atStart => exact ⟨0, .slice none 0 0, rfl, by omega, rfl, hf3.out, Bag.nil _ _, Tch.refl _ _⟩
 case round =>
  obtain ⟨k, v, hg', hk, rfl, hfb, hbag, hTc⟩ := hrel
  subst hg'
  have hfbH := lh hfb
  have hbag2 := lh hbag
  have hT2 := lh hTc
  have hbr := lh (show Below w.heap.size w wr from hb3.out.trans (hTc.below (B := w.heap.size) hb3.out.size (fun k hk _ => by subst hk; have := hrf.out; have := hwr.out; omega)))
  by_cases hkn : k < n
  . have hki : (k : Int) < (n : Int) := by omega
    have hkl : k < l.length := by rw [<- hN.out]; exact hkn
    obtain ⟨b, o, rfl, hcell0⟩ := str_cell hTH.out.1 k hkl
    have hcell := keepc hbr.out hcell0
    have hbw := lh (show b < w.heap.size from World.block_lt_of_cell? w _ hcell0)
    clear hcell0
    have hnext := lh (lhave_take l k hkl)
    obtain ⟨x, hx⟩ : ∃ x, x = l.getD k ByteArray.empty := ⟨_, rfl⟩
    rw [<- hx] at hcell hnext
    replace hx := lh hx
    have hq2 : wr.cell? ⟨f, 2, none⟩ = some v := by rw [cell_of hfb]; rfl
    obtain ⟨S, hS⟩ : ∃ S : World -> Prop, S = fun W => W.cell? ⟨f, 2, none⟩ = some v := ⟨_, rfl⟩
    have hSi : ∀ W, S W ↔ (W.cell? ⟨f, 2, none⟩ = some v) := fun W => by rw [hS]
    have hS0 : S wr.drew := (hSi _).2 hq2
    have s1 : ∀ X : InS S, X.val.cell? ⟨f, 2, none⟩ = some v := fun X => (hSi X.val).1 X.mem
    have hne : Nonempty (InS S) := ⟨⟨wr.drew, hS0⟩⟩
    have hS0H := lh hS0
    have hSiH := lh hSi
    clear hS hSi hq2 hfb hbag hTc hS0
    go_upto_region 5 with fail
    clear hcell
    refine wp_region_mix S [0, 1, 2] [.mem [0, 1, 2], .keep 3, .keep 4, .keep 5, .pure [6], .last 7] (by kernel_rfl) (by kernel_rfl) hS0H.out ?_
    simp only [pick, List.getD_cons_zero, List.getD_cons_succ, wpMix]
    repeat (go_big_quiet_step (fail))
    refine wpQuiet_nil ?_
    have hfs := heap_lt hfbH.out
    have hnb := lh (show ∀ b, b < w3.heap.size -> some b ≠ v.ownBlock from fun b hb e => by have := (hbag2.out.lt _ e.symm).1; omega)
    have hf3s := heap_lt hf3.out
    have d1 := (hSiH.out _).1 hS0H.out
    go_wp2_with (go_at_call 46; (with_reducible refine (text_c _ _).mono ?_); rintro ev w9 ⟨rfl, hb9⟩)
    have r1 := keepc hb9 d1
    have hbr9 := lh (show Below wr.heap.size wr w9 from ((Below.refl wr.heap.size wr).drew).trans hb9)
    have hbag9 := lh (hbag2.out.keep (w' := w9) (fun b h1 h2 => hbr9.out.block b h2) hbr9.out.size)
    clear hb9
    unfold vtext
    refine ⟨(hSiH.out _).2 r1, ?_⟩
    go_wp2_with fail
    refine ⟨(hSiH.out _).2 (cell_alloc r1 _), ?_⟩
    have hlen := lh (show (lhave (l.take k)).length = k from by unfold lhave; rw [List.length_map, List.length_take]; omega)
    have hmL' := hncH.out
    go_wp2_with (at_builtin; refine bag_app (by rfl) _ _ _ (by rfl) Tryz.underlying72 (by rfl) k 1 1 (by rfl) (by rfl) hbag9.out (FC.texts _) hlen.out (by rfl) (by omega) (by omega) (Nat.le_trans hT2.out.size hbr9.out.size) ?_; intro g7 cap7 w10 hbag10 hgrew10)
    have hbw' := hbw.out
    have hB3s := hb3.out.size
    have u1 := hgrew10.cell r1 (hnb.out f hf3s)
    have hf10 := hgrew10.heap ((hbr9.out.block _ (heap_lt hfbH.out)).trans hfbH.out) (hnb.out f hf3s)
    refine ⟨(hSiH.out _).2 u1, ?_⟩
    repeat (go_big_quiet_step (fail))
    refine wpQuiet_nil ?_
    have z10 : w10.frozen? ⟨f, 2, none⟩ = false := fr_of hf10 2
    have hf10H := lh hf10
    have hbag10H := lh hbag10
    have hgrew10H := lh hgrew10
    clear hf10 hbag10 hgrew10 hf3s hfs hbw' hB3s
    go_wp2_with fail
    simp only [stepPost]
    go_wp2_with fail
    go_roundg (n - (k + 1))
    case measure => omega
    case rel =>
     refine ⟨k + 1, .slice (some ⟨g7, 0, none⟩) (k + 1) cap7, rfl, by omega, by go_num, heap_set _ _ _ _ _ _ _ hf10H.out, ?_, ?_⟩
     . rw [hnext.out]
       exact hbag10H.out.keep (fun b h1 h2 => heap_set_ne _ _ _ _ (by show b ≠ f; have := hs3.out; omega)) (by rw [size_set]; exact Nat.le_refl _)
     . exact (hgrew10H.out.tch (hT2.out.trans (Tch.of_new hbr9.out)) (fun b hb => (hbag2.out.lt b hb).1)).setCell ⟨f, 2, none⟩ (fun _ => rfl) _
  . have hkn' : k = n := by omega
    subst hkn'
    have hki : ¬ (k : Int) < (k : Int) := by omega
    have ht : l.take k = l := List.take_of_length_le (by rw [<- hN.out]; exact Nat.le_refl _)
    rw [ht] at hbag2
    clear ht hbag
    obtain ⟨Ah, ch, hvs, _⟩ := hbag2.out.form
    obtain ⟨ln, hln⟩ : ∃ ln, ln = (lhave l).length := ⟨_, rfl⟩
    rw [<- hln] at hvs
    replace hln := lh hln
    subst hvs
    have hrr := (hTc.heap hr3.out (show ¬ w.heap.size = f by have := hrf.out; omega))
    have hrrH := lh hrr
    obtain ⟨q0, q1, q2, _, _⟩ := blk3' hfb
    obtain ⟨e0, e1, e2, esh, efz⟩ := blk3' hrr
    clear hfb hTc hrr
    go_wp2_with fail
    (try simp only [Exit.inBlock, Exit.then])
    refine bodyPost_ret (results_cell_row rfl _ _ w.heap.size 74 #[.bool true, .string ⟨#[]⟩, .slice Ah ln ch] (0, 0) _ rfl (set3 hrrH.out) Tryz.underlying74 rfl (by kernel_rfl)) rfl ?_
    refine ⟨_, rfl, ⟨_, rfl, ?_⟩, ?_⟩
    . refine Bag.lower (hbag2.out.keep (fun b h1 h2 => ?_) ?_) hb3.out.size
      . rw [heap_set_ne _ _ _ _ (by show b ≠ w.heap.size; have := heap_lt hr3.out; omega), heap_set_ne _ _ _ _ (by show b ≠ w.heap.size; have := heap_lt hr3.out; omega), heap_set_ne _ _ _ _ (by show b ≠ w.heap.size; have := heap_lt hr3.out; omega)]
      . rw [size_set, size_set, size_set]; exact Nat.le_refl _
    . exact ((hbr.out.setCell hwr.out _).setCell hwr.out _).setCell hwr.out _
end Go.Proofs.YtbiioaggilaebaaGreatDoor.Pa
namespace Go.Proofs.YtbiioaggilaebaaGreatDoor.Pa
open Go Go.RowKit YtbiioaggilaebaaGreatDoorW.PrintWords B Tm Wi
open Lin (mrk)
def two3 (a m b n : Int) : Bool := (!(a == b) || (!(m == n))) && ((!(a == -1) || (!(m == 1))) && (!(b == -1) || (!(n == 0))))
theorem tail_two3 (own deps a m b n : Int) (nl : Nat) : tailOk own deps a m b n nl = (refOk own deps b n && two3 a m b n && decide (nl = 0)) := by
 unfold tailOk two3
 generalize (!(a == b) || (!(m == n))) = x
 generalize (!(a == -1) || (!(m == 1))) = y
 generalize (!(b == -1) || (!(n == 0))) = z
 generalize refOk own deps b n = r
 cases r <;> cases x <;> cases y <;> cases z <;> simp
theorem op_split (own deps k a m b n : Int) (ls : List ByteArray) : opOk own deps ⟨k, a, m, b, n, ls⟩ = (if k = 1 then (refOk own deps a m && (refOk own deps b n && two3 a m b n)) && (ls.all lineOk && decide (0 < ls.length)) else if k = 2 \/ k = 3 then (refOk own deps a m && (refOk own deps b n && two3 a m b n)) && decide (ls.length = 0) else if k = 4 \/ k = 5 then refOk own deps a m && decide (0 <= a /\ b = 0 /\ n = 0 /\ ls.length = 0) else false) := by
 unfold opOk
 have h0 := tail_two own deps a m b n k ls 0
 rw [tail_two3] at h0
 simp only [decide_true, Bool.and_true] at h0
 show (if k = 1 then _ else if k = 2 \/ k = 3 then _ else if k = 4 \/ k = 5 then refOk own deps a m && _ else false) = _
 rw [h0]
attribute [local go_sem high] ref_eqA
def TwoAt (two : Bool) (w1 : World) (v : Value) (wc : World) : Prop := v = .bool two /\ Below w1.heap.size w1 wc
theorem rop_c (own deps : Int) (k a m b n : Int) (ls : List ByteArray) (L : Option Addr) (cl : Nat) (w : World) (hT : TxAt w L cl ls) :
 Calls Tryz.prog 82 #[.agg #[.int .i64 k, .int .i64 a, .int .i64 m, .int .i64 b, .int .i64 n, .slice L ls.length cl], .int .i64 own, .int .i64 deps] w fun e w' => e = .returned (.bool (opOk own deps ⟨k, a, m, b, n, ls⟩)) /\ Below w.heap.size w w' := by
 rw [op_split]
 obtain ⟨h, hh⟩ : ∃ h, h = w.heap.size := ⟨_, rfl⟩
 obtain ⟨w1, hw1⟩ : ∃ w1, w1 = w.alloc (.cells #[.int .i64 k, .int .i64 a, .int .i64 m, .int .i64 b, .int .i64 n, .slice L ls.length cl] 38) := ⟨_, rfl⟩
 have hb1 := lh (show Below w.heap.size w w1 by rw [hw1]; exact Wi.below_alloc _ _)
 have hO1 : w1.heap[h]? = some (.cells #[.int .i64 k, .int .i64 a, .int .i64 m, .int .i64 b, .int .i64 n, .slice L ls.length cl] 38 (0, 0)) := by rw [hw1, hh]; exact heap_alloc_at _ _
 have hT1 := lh (hT.below hb1.out)
 have hsz := lh hT.2.2.2
 have hlen := lh hT.2.2.1
 obtain ⟨nl, hnl⟩ : ∃ nl, nl = ls.length := ⟨_, rfl⟩
 obtain ⟨r1, hr1⟩ : ∃ r1, r1 = refOk own deps a m := ⟨_, rfl⟩
 obtain ⟨r2, hr2⟩ : ∃ r2, r2 = refOk own deps b n := ⟨_, rfl⟩
 obtain ⟨x, hx⟩ : ∃ x, x = (!(a == b) || (!(m == n))) := ⟨_, rfl⟩
 obtain ⟨y, hy⟩ : ∃ y, y = (!(a == -1) || (!(m == 1))) := ⟨_, rfl⟩
 obtain ⟨z, hz⟩ : ∃ z, z = (!(b == -1) || (!(n == 0))) := ⟨_, rfl⟩
 obtain ⟨two, htwo⟩ : ∃ two, two = (r1 && (r2 && (x && (y && z)))) := ⟨_, rfl⟩
 have hres := lh (show (if k = 1 then (refOk own deps a m && (refOk own deps b n && two3 a m b n)) && (ls.all lineOk && decide (0 < ls.length)) else if k = 2 \/ k = 3 then (refOk own deps a m && (refOk own deps b n && two3 a m b n)) && decide (ls.length = 0) else if k = 4 \/ k = 5 then refOk own deps a m && decide (0 <= a /\ b = 0 /\ n = 0 /\ ls.length = 0) else false) = (if k = 1 then two && (ls.all lineOk && decide (0 < nl)) else if k = 2 \/ k = 3 then two && decide (nl = 0) else if k = 4 \/ k = 5 then r1 && decide (0 <= a /\ b = 0 /\ n = 0 /\ nl = 0) else false) by rw [htwo, hr1, hr2, hx, hy, hz, hnl]; rfl)
 obtain ⟨R, hR⟩ : ∃ R, R = (if k = 1 then (refOk own deps a m && (refOk own deps b n && two3 a m b n)) && (ls.all lineOk && decide (0 < ls.length)) else if k = 2 \/ k = 3 then (refOk own deps a m && (refOk own deps b n && two3 a m b n)) && decide (ls.length = 0) else if k = 4 \/ k = 5 then refOk own deps a m && decide (0 <= a /\ b = 0 /\ n = 0 /\ ls.length = 0) else false) := ⟨_, rfl⟩
 rw [<- hR]
 replace hR := lh (hR.trans hres.out)
 have CA := lh (fun W => rref_c own deps a m W)
 have CB := lh (fun W => rref_c own deps b n W)
 rw [<- hr1] at CA
 rw [<- hr2] at CB
 have CE := lh (fun W => rbottom_c W)
 have CF := lh (fun W => rtop_c W)
 rw [<- hnl] at hw1 hO1 ⊢
 replace hnl := lh hnl
 obtain ⟨TW, hTW⟩ : ∃ TW, TW = TwoAt two w1 := ⟨_, rfl⟩
 have hTWH := lh hTW
 have htwoH := lh htwo
 have hOH := lh hO1
 clear hres hr1 hr2 hT hTW htwo
 obtain ⟨o0, o1, o2, o3, o4, o5, _, _⟩ := six_facts hO1
 go_enter Tryz.func82, Tryz.ntmps82
 go_upto_region 1 with fail
 rw [<- hw1, <- hh]
 replace hw1 := lh hw1
 replace hh := lh hh
 clear hO1
 go_cut [7] (fun v wc => TW v wc)
 case first =>
  have q1 := Lat.cell o1
  have q2 := Lat.cell o2
  have q3 := Lat.cell o3
  have q4 := Lat.cell o4
  clear o0 o1 o2 o3 o4 o5
  cases r1 with
  | false =>
   refine wp_region_lat (by kernel_rfl) (by kernel_rfl) ?_
   repeat (go_big_quiet_step (fail))
   go_big_quiet_step ((go_at_call 125; exact lat_of (CA.out _)))
   repeat (go_big_quiet_step (fail))
   refine wpQuiet_nil ?_
   intro _ hw'
   obtain ⟨xl, hw''⟩ := hw'
   subst hw''
   go_wp2_with fail
   go_meet
   case rel => rw [hTWH.out]; exact ⟨by rw [htwoH.out]; rfl, xl.below⟩
  | true =>
   cases r2 with
   | false =>
    refine wp_region_lat (by kernel_rfl) (by kernel_rfl) ?_
    repeat (go_big_quiet_step (fail))
    go_big_quiet_step ((go_at_call 125; exact lat_of (CA.out _)))
    repeat (go_big_quiet_step (fail))
    go_big_quiet_step ((go_at_call 125; exact lat_of (CB.out _)))
    repeat (go_big_quiet_step (fail))
    refine wpQuiet_nil ?_
    intro _ hw'
    obtain ⟨xl, hw''⟩ := hw'
    subst hw''
    go_wp2_with fail
    go_meet
    case rel => rw [hTWH.out]; exact ⟨by rw [htwoH.out]; rfl, xl.below⟩
   | true =>
    cases x with
    | false =>
     replace hx := hx.symm
     refine wp_region_lat (by kernel_rfl) (by kernel_rfl) ?_
     repeat (go_big_quiet_step (fail))
     go_big_quiet_step ((go_at_call 125; exact lat_of (CA.out _)))
     repeat (go_big_quiet_step (fail))
     go_big_quiet_step ((go_at_call 125; exact lat_of (CB.out _)))
     repeat (go_big_quiet_step (fail))
     refine wpQuiet_nil ?_
     intro _ hw'
     obtain ⟨xl, hw''⟩ := hw'
     subst hw''
     go_wp2_with fail
     go_meet
     case rel => rw [hTWH.out]; exact ⟨by rw [htwoH.out]; rfl, xl.below⟩
    | true =>
     replace hx := hx.symm
     cases y with
     | false =>
      replace hy := hy.symm
      refine wp_region_lat (by kernel_rfl) (by kernel_rfl) ?_
      repeat (go_big_quiet_step (fail))
      go_big_quiet_step ((go_at_call 125; exact lat_of (CA.out _)))
      repeat (go_big_quiet_step (fail))
      go_big_quiet_step ((go_at_call 125; exact lat_of (CB.out _)))
      repeat (go_big_quiet_step (fail))
      go_big_quiet_step ((go_at_call 126; exact lat_of (CE.out _)))
      repeat (go_big_quiet_step (fail))
      refine wpQuiet_nil ?_
      intro _ hw'
      obtain ⟨xl, hw''⟩ := hw'
      subst hw''
      go_wp2_with fail
      go_meet
      case rel => rw [hTWH.out]; exact ⟨by rw [htwoH.out]; rfl, xl.below⟩
     | true =>
      replace hy := hy.symm
      cases z
      all_goals
       replace hz := hz.symm
       refine wp_region_lat (by kernel_rfl) (by kernel_rfl) ?_
       repeat (go_big_quiet_step (fail))
       go_big_quiet_step ((go_at_call 125; exact lat_of (CA.out _)))
       repeat (go_big_quiet_step (fail))
       go_big_quiet_step ((go_at_call 125; exact lat_of (CB.out _)))
       repeat (go_big_quiet_step (fail))
       go_big_quiet_step ((go_at_call 126; exact lat_of (CE.out _)))
       repeat (go_big_quiet_step (fail))
       go_big_quiet_step ((go_at_call 127; exact lat_of (CF.out _)))
       repeat (go_big_quiet_step (fail))
       refine wpQuiet_nil ?_
       intro _ hw'
       obtain ⟨xl, hw''⟩ := hw'
       subst hw''
       go_wp2_with fail
       go_meet
       case rel => rw [hTWH.out]; exact ⟨by rw [htwoH.out]; rfl, xl.below⟩
 case rest =>
  rw [hTWH.out] at hcut
  obtain ⟨rfl, hbc⟩ := hcut
  have hOc := lh ((hbc.block _ (heap_lt hOH.out)).trans hOH.out)
  have hTc := lh (hT1.out.below hbc)
  have hbw := lh (hb1.out.trans (hbc.mono hb1.out.size))
  clear hbc o0 o1 o2 o3 o4 o5 hx hy hz
  have hnl4 : nl <= 140737488351232 := by rw [hnl.out]; exact hlen.out
  obtain ⟨o0, o1, o2, o3, o4, o5, _, _⟩ := six_facts hOc.out
  by_cases k1 : k = 1
  . subst k1
    rw [if_pos rfl] at hR
    go_upto_region 5 with fail
    clear o0 o1 o2 o3 o4 o5
    go_loopg [8] nl (fun g' i W => ∃ j : Nat, g' = nl - j /\ j <= nl /\ i = .int .i64 j /\ Below wc.heap.size wc W /\ ∀ t, t < j -> lineOk (ls.getD t ByteArray.empty) = true)
    case atStart => exact ⟨0, rfl, by omega, rfl, Below.refl _ _, fun t ht => absurd ht (by omega)⟩
    case round =>
     obtain ⟨j, hg', hj, rfl, hbr, hok⟩ := hrel
     subst hg'
     have hokH := lh hok
     have hbrH := lh hbr
     have hOr := lh ((hbr.block _ (heap_lt hOc.out)).trans hOc.out)
     obtain ⟨o0, o1, o2, o3, o4, o5, _, _⟩ := six_facts hOr.out
     by_cases hjn : j < nl
     . have hji : (j : Int) < (nl : Int) := by omega
       have hcc := str_cell (hTc.out.below hbr).1 j (by rw [<- hnl.out]; exact hjn)
       obtain ⟨bq, oq, rfl, hcell⟩ := hcc
       obtain ⟨s, hs⟩ : ∃ s, s = ls.getD j ByteArray.empty := ⟨_, rfl⟩
       rw [<- hs] at hcell
       have hmem := lh (show s ∈ ls by rw [hs]; exact getD_mem' ls j _ (by rw [<- hnl.out]; exact hjn))
       have CO := lh (rline_c s (hsz.out s hmem.out) wr)
       replace hs := lh hs
       clear hok hbr
       go_wp2_with fail
       refine (CO.out).mono ?_
       rintro ev w5 ⟨rfl, hb5⟩
       have hb5H := lh (hbrH.out.trans (hb5.mono hbrH.out.size))
       clear hb5 o0 o1 o2 o3 o4 o5 hcell
       cases hr : lineOk s with
       | false =>
        have hrH := lh hr
        have hall := lh (show ls.all lineOk = false by rw [List.all_eq_false]; exact ⟨s, hmem.out, by rw [hr]; simp⟩)
        clear hr
        go_wp2_with fail
        go_ret
        exact ⟨ret_b (by rw [hR.out, hall.out, Bool.false_and, Bool.and_false]), hbw.out.trans (hb5H.out.mono hbw.out.size)⟩
       | true =>
        have hrH := lh hr
        clear hr
        go_wp2_with fail
        go_roundg (nl - (j + 1))
        case measure => omega
        case rel => exact ⟨j + 1, rfl, by omega, by go_num, hb5H.out, fun t ht => by
         by_cases e : t < j
         . exact hokH.out t e
         . rw [show t = j from by omega, <- hs.out]; exact hrH.out⟩
     . have hji : ¬ (j : Int) < (nl : Int) := by omega
       have hall := lh (show ls.all lineOk = true by
        refine List.all_eq_true.2 fun x hx => ?_
        obtain ⟨t, ht, rfl⟩ := List.getElem_of_mem hx
        have := hokH.out t (by have := hnl.out; omega)
        rw [List.getD_eq_getElem?_getD, List.getElem?_eq_getElem ht] at this
        exact this)
       clear hok hbr
       cases two with
       | false =>
        go_wp2_with fail
        go_ret
        exact ⟨ret_b (by rw [hR.out]; rfl), hbw.out.trans (hbrH.out.mono hbw.out.size)⟩
       | true =>
        go_wp2_with fail
        go_ret
        exact ⟨ret_b (by rw [hR.out, hall.out, Bool.true_and, Bool.true_and]), hbw.out.trans (hbrH.out.mono hbw.out.size)⟩
  . rw [if_neg k1] at hR
    have d1 : (k == 1) = false := by simpa using k1
    by_cases h23 : k = 2 \/ k = 3
    . rw [if_pos h23] at hR
      have h23' : (k == 2) = true \/ (k == 2) = false /\ (k == 3) = true := by rcases h23 with rfl | rfl <;> simp
      clear k1 h23
      rcases h23' with d2 | ⟨d2, d3⟩
      all_goals
       cases two with
       | false =>
        go_wp2_with fail
        go_ret
        exact ⟨ret_b (by rw [hR.out]; rfl), hbw.out⟩
       | true =>
        go_wp2_with fail
        go_ret
        exact ⟨ret_b (by rw [hR.out, Bool.true_and, Bool.eq_iff_iff]; simp), hbw.out⟩
    . rw [if_neg h23] at hR
      have d2 : (k == 2) = false := by simp; omega
      have d3 : (k == 3) = false := by simp; omega
      by_cases h45 : k = 4 \/ k = 5
      . rw [if_pos h45] at hR
        have h45' : (k == 4) = true \/ (k == 4) = false /\ (k == 5) = true := by rcases h45 with rfl | rfl <;> simp
        clear k1 h23 h45
        rcases h45' with d4 | ⟨d4, d5⟩
        all_goals
         go_wp2_with fail
         refine (CA.out wc).mono ?_
         rintro ev w5 ⟨rfl, hb5⟩
         have hb5H := lh (hbw.out.trans (hb5.mono hbw.out.size))
         have hO5 := lh ((hb5.block _ (heap_lt hOc.out)).trans hOc.out)
         clear hb5 o0 o1 o2 o3 o4 o5
         obtain ⟨o0, o1, o2, o3, o4, o5, _, _⟩ := six_facts hO5.out
         cases r1 with
         | false =>
          go_wp2_with fail
          go_ret
          exact ⟨ret_b (by rw [hR.out]; rfl), hb5H.out⟩
         | true =>
          by_cases ha : 0 <= a
          . cases hbn : (b == 0 && (n == 0)) with
            | false =>
             have hbnH := lh hbn
             go_wp2_with fail
             go_ret
             refine ⟨ret_b ?_, hb5H.out⟩
             rw [hR.out, Bool.true_and]
             symm
             rw [decide_eq_false_iff_not]
             rintro ⟨_, h1, h2, _⟩
             have := hbnH.out
             rw [h1, h2] at this
             cases this
            | true =>
             have hbnH := lh hbn
             go_wp2_with fail
             go_ret
             refine ⟨ret_b ?_, hb5H.out⟩
             have h1 := hbnH.out
             rw [Bool.and_eq_true, beq_iff_eq, beq_iff_eq] at h1
             rw [hR.out, Bool.true_and, Bool.eq_iff_iff]
             simp [ha, h1.1, h1.2]
          . have ha2 : a < 0 := by omega
            go_wp2_with fail
            go_ret
            refine ⟨ret_b ?_, hb5H.out⟩
            rw [hR.out, Bool.true_and]
            symm
            rw [decide_eq_false_iff_not]
            exact fun h => by have := h.1; omega
      . rw [if_neg h45] at hR
        have d4 : (k == 4) = false := by simp; omega
        have d5 : (k == 5) = false := by simp; omega
        clear k1 h23 h45
        go_wp2_with fail
        go_ret
        exact ⟨ret_b (by rw [hR.out]), hbw.out⟩
end Go.Proofs.YtbiioaggilaebaaGreatDoor.Pa
namespace Go.Proofs.YtbiioaggilaebaaGreatDoor.Pa
open Go Go.RowKit YtbiioaggilaebaaGreatDoorW.PrintWords B Tm Wi
theorem Bag.built {base : Nat} {w : World} {G : List F} {arr : Array Value} (hG : FC (fun b => base <= b /\ b < w.heap.size) w G arr.toList) (hb : base <= w.heap.size) (hl : G.length <= 1000000000) :
 Bag base (w.alloc (.cells arr 74)) (.slice (some ⟨w.heap.size, 0, none⟩) G.length G.length) G := by
 have hlen := FC.len hG
 refine ⟨arr.toList, ⟨hlen, .inr ⟨w.heap.size, G.length, arr, rfl, hb, heap_alloc_at _ _, Nat.le_refl _, by simp only [maxLen]; omega, by rw [<- Array.length_toList]; exact hlen, ?_⟩⟩, ?_⟩
 . rw [<- hlen, List.take_length]
 . exact FC.move (fun b ⟨h1, h2⟩ => ⟨⟨h1, by rw [size_alloc]; omega, fun e => by simp only [Value.ownBlock, Option.some.injEq] at e; omega⟩, heap_alloc_lt _ _ _ h2⟩) hG
theorem FC.two {ok : Nat -> Prop} {w : World} (s t : ByteArray) : FC ok w [txt s.data.toList, txt t.data.toList] [.bool false, .string s, .slice none 0 0, .bool false, .string t, .slice none 0 0] := FC.append (FC.texts t) (FC.texts s)
theorem pref_c (a m : Int) (w : World) (htab : Tab w) (hgB : 2 < w.heap.size) (ha : -1000000 <= a /\ a <= 1000000) (hm : -1000000 <= m /\ m <= 1000000) :
 Calls Tryz.prog 43 #[.agg #[.int .i64 a, .int .i64 m]] w fun ev w' => ∃ v, ev = .returned v /\ LForm w.heap.size w' v [nform a, nform m] /\ Below w.heap.size w w' := by
 obtain ⟨w1, hw1⟩ : ∃ w1, w1 = w.alloc (.cells #[.int .i64 a, .int .i64 m] 36) := ⟨_, rfl⟩
 obtain ⟨w2, hw2⟩ : ∃ w2, w2 = w1.alloc (.cells #[.bool false, .string ⟨#[]⟩, .slice none 0 0] 74) := ⟨_, rfl⟩
 have hs1 : w1.heap.size = w.heap.size + 1 := by rw [hw1]; simp
 have hb2 := lh (show Below w.heap.size w w2 by rw [hw2, hw1]; exact ((Below.refl _ _).alloc (Nat.le_refl _) _).alloc (by simp) _)
 have hP2 : w2.heap[w.heap.size]? = some (.cells #[.int .i64 a, .int .i64 m] 36 (0, 0)) := by rw [hw2, heap_alloc_lt _ _ _ (by omega), hw1]; exact heap_alloc_at _ _
 have hR2 := lh (show w2.heap[w.heap.size + 1]? = some (.cells #[.bool false, .string ⟨#[]⟩, .slice none 0 0] 74 (0, 0)) by rw [hw2, <- hs1]; exact heap_alloc_at _ _)
 have hz2 := lh (show w2.heap.size = w.heap.size + 2 by rw [hw2]; simp [hs1])
 have htabH := lh htab
 have hgBH := lh hgB
 obtain ⟨p0, p1, _, _⟩ := two_facts hP2
 obtain ⟨S, hS⟩ : ∃ S : World -> Prop, S = fun W => W.cell? ⟨w.heap.size, 0, none⟩ = some (.int .i64 a) /\ W.cell? ⟨w.heap.size, 1, none⟩ = some (.int .i64 m) := ⟨_, rfl⟩
 have hSi : ∀ W, S W ↔ (W.cell? ⟨w.heap.size, 0, none⟩ = some (.int .i64 a) /\ W.cell? ⟨w.heap.size, 1, none⟩ = some (.int .i64 m)) := fun W => by rw [hS]
 have hS0 : S w2.drew := (hSi _).2 ⟨p0, p1⟩
 have s1 : ∀ X : InS S, X.val.cell? ⟨w.heap.size, 0, none⟩ = some (.int .i64 a) := fun X => ((hSi X.val).1 X.mem).1
 have s2 : ∀ X : InS S, X.val.cell? ⟨w.heap.size, 1, none⟩ = some (.int .i64 m) := fun X => ((hSi X.val).1 X.mem).2
 have hne : Nonempty (InS S) := ⟨⟨w2.drew, hS0⟩⟩
 have hS0H := lh hS0
 have hSiH := lh hSi
 have CN := lh (fun (n : Int) (hn : -1000000 <= n /\ n <= 1000000) W (h : Below w.heap.size w W) => numi_c n (by omega) (by omega) W (htabH.out.keep h hgBH.out))
 have haH := lh ha
 have hmH := lh hm
 clear htab hgB hS hSi hS0 hP2 p0 p1 ha hm
 go_enter Tryz.func43, Tryz.ntmps43
 go_upto_region 1 with fail
 rw [<- hw1]
 try rw [hs1]
 rw [<- hw2]
 replace hw1 := lh hw1
 replace hw2 := lh hw2
 replace hs1 := lh hs1
 refine wp_region_mix S [0, 1, 3, 4] [.mem [0, 1, 3, 4], .keep 2, .keep 5, .keep 6, .keep 7, .last 8] (by kernel_rfl) (by kernel_rfl) hS0H.out ?_
 simp only [pick, List.getD_cons_zero, List.getD_cons_succ, wpMix]
 repeat (go_big_quiet_step (fail))
 refine wpQuiet_nil ?_
 have d := (hSiH.out _).1 hS0H.out
 have hbd := lh (show Below w.heap.size w w2.drew from hb2.out.drew)
 go_wp2_with (go_at_call 42; (with_reducible refine (CN.out a haH.out _ hbd.out).mono ?_); rintro ev w3 ⟨rfl, hb3⟩)
 have hb3w := lh (hbd.out.trans (hb3.mono hbd.out.size))
 have d3 := And.intro (keepc hb3 d.1) (keepc hb3 d.2)
 have hR3 := lh ((hb3.block _ (show w.heap.size + 1 < w2.drew.heap.size from heap_lt hR2.out)).trans hR2.out)
 unfold vtext
 refine ⟨(hSiH.out _).2 d3, ?_⟩
 go_wp2_with (go_at_call 42; (with_reducible refine (CN.out m hmH.out _ hb3w.out).mono ?_); rintro ev w4 ⟨rfl, hb4⟩)
 have hb4w := lh (hb3w.out.trans (hb4.mono hb3w.out.size))
 have d4 := And.intro (keepc hb4 d3.1) (keepc hb4 d3.2)
 have hR4 := lh ((hb4.block _ (heap_lt hR3.out)).trans hR3.out)
 unfold vtext
 refine ⟨(hSiH.out _).2 d4, ?_⟩
 go_wp2_with fail
 have d5 := And.intro (cell_alloc d4.1 (.cells #[.bool false, .string ⟨(Lib.itoa a).toArray⟩, .slice none 0 0, .bool false, .string ⟨(Lib.itoa m).toArray⟩, .slice none 0 0] 74)) (cell_alloc d4.2 (.cells #[.bool false, .string ⟨(Lib.itoa a).toArray⟩, .slice none 0 0, .bool false, .string ⟨(Lib.itoa m).toArray⟩, .slice none 0 0] 74))
 obtain ⟨q, hq⟩ : ∃ q, q = w4.heap.size := ⟨_, rfl⟩
 obtain ⟨w5, hw5⟩ : ∃ w5, w5 = w4.alloc (.cells #[.bool false, .string ⟨(Lib.itoa a).toArray⟩, .slice none 0 0, .bool false, .string ⟨(Lib.itoa m).toArray⟩, .slice none 0 0] 74) := ⟨_, rfl⟩
 have hbag5 := lh (show Bag (w.heap.size + 2) w5 (.slice (some ⟨q, 0, none⟩) 2 2) [nform a, nform m] by
  have := Bag.built (base := w.heap.size + 2) (w := w4) (G := [txt (⟨(Lib.itoa a).toArray⟩ : ByteArray).data.toList, txt (⟨(Lib.itoa m).toArray⟩ : ByteArray).data.toList]) (arr := #[.bool false, .string ⟨(Lib.itoa a).toArray⟩, .slice none 0 0, .bool false, .string ⟨(Lib.itoa m).toArray⟩, .slice none 0 0]) (FC.two _ _) (heap_lt hR4.out) (by show 2 <= 1000000000; omega)
  rw [hw5, hq]
  simpa [nform] using this)
 have hb5w := lh (show Below w.heap.size w w5 by rw [hw5]; exact hb4w.out.alloc hb4w.out.size _)
 have hR5 := lh (show w5.heap[w.heap.size + 1]? = some (.cells #[.bool false, .string ⟨#[]⟩, .slice none 0 0] 74 (0, 0)) by rw [hw5]; exact (heap_alloc_lt _ _ _ (heap_lt hR4.out)).trans hR4.out)
 rw [<- hw5] at d5 ⊢
 rw [<- hq]
 replace hw5 := lh hw5
 replace hq := lh hq
 clear hb3 hb4 d d3 d4
 refine ⟨(hSiH.out _).2 d5, ?_⟩
 go_wp2_with (go_at_call 41; (with_reducible refine (list_c _ _ _ _).mono ?_); rintro ev w6 ⟨rfl, hb6⟩)
 unfold vlist
 have hb6w := lh (hb5w.out.trans (hb6.mono hb5w.out.size))
 have d6 := And.intro (keepc hb6 d5.1) (keepc hb6 d5.2)
 have hR6 := (hb6.block _ (heap_lt hR5.out)).trans hR5.out
 have hR6H := lh hR6
 have hbag6 := lh (hbag5.out.keep (w' := w6) (fun b h1 h2 => hb6.block b h2) hb6.size)
 obtain ⟨e0, e1, e2, esh, efz⟩ := blk3' hR6
 clear hR6 hb6 d5
 refine ⟨(hSiH.out _).2 d6, ?_⟩
 go_wp2_with fail
 simp only [stepPost]
 go_wp2_with fail
 (try simp only [Exit.inBlock, Exit.then])
 refine bodyPost_ret (results_cell_row rfl _ _ (w.heap.size + 1) 74 #[.bool true, .string ⟨#[]⟩, .slice (some ⟨q, 0, none⟩) 2 2] (0, 0) _ rfl (set3 hR6H.out) Tryz.underlying74 rfl (by kernel_rfl)) rfl ?_
 refine ⟨_, rfl, ⟨_, rfl, ?_⟩, ?_⟩
 . refine Bag.lower (hbag6.out.keep (fun b h1 h2 => ?_) ?_) (Nat.le_add_right _ _)
   . rw [heap_set_ne _ _ _ _ (by show b ≠ w.heap.size + 1; omega), heap_set_ne _ _ _ _ (by show b ≠ w.heap.size + 1; omega), heap_set_ne _ _ _ _ (by show b ≠ w.heap.size + 1; omega)]
   . rw [size_set, size_set, size_set]; exact Nat.le_refl _
 . exact ((hb6w.out.setCell (Nat.le_succ _) _).setCell (Nat.le_succ _) _).setCell (Nat.le_succ _) _
end Go.Proofs.YtbiioaggilaebaaGreatDoor.Pa
namespace Go.Proofs.YtbiioaggilaebaaGreatDoor.Tm
open Go Go.RowKit B Bld
theorem rnum_c (n : Int) (h0 : -9223372036854775808 <= n) (h1 : n <= 9223372036854775807) (w : World) : Calls Tryz.prog 89 #[.int .i64 n] w fun ev w' => ev = .returned (vtext ⟨(Lib.itoa n).toArray⟩) /\ Below w.heap.size w w' := by
 obtain ⟨w0, hw0⟩ : ∃ w0, w0 = w.alloc (.cells #[.bool false, .string ⟨#[]⟩, .slice none 0 0] 74) := ⟨_, rfl⟩
 have hb0 : Below w.heap.size w w0 := by rw [hw0]; exact (Below.refl _ _).alloc (Nat.le_refl _) _
 have hg : w0.heap[w.heap.size]? = some (.cells #[.bool false, .string ⟨#[]⟩, .slice none 0 0] 74 (0, 0)) := by rw [hw0]; exact heap_alloc_at _ _
 have CI := lh (digits_c n h0 h1 w0)
 have hgH := lh hg
 have hb0H := lh hb0
 clear hg hb0
 go_enter Tryz.func89, Tryz.ntmps89
 go_wp2_with fail
 rw [<- hw0]
 replace hw0 := lh hw0
 refine (CI.out).mono ?_
 rintro ev w1 ⟨rfl, hb1⟩
 have hb1H := lh hb1
 clear hb1
 obtain ⟨t, ht⟩ : ∃ t : ByteArray, t = ⟨(Lib.itoa n).toArray⟩ := ⟨_, rfl⟩
 rw [<- ht]
 replace ht := lh ht
 go_wp2_with fail
 refine (rtext_c _ w1).mono ?_
 rintro ev w2 ⟨rfl, hb2⟩
 have hg2 : w2.heap[w.heap.size]? = some (.cells #[.bool false, .string ⟨#[]⟩, .slice none 0 0] 74 (0, 0)) := by
  have hs := heap_lt hgH.out
  rw [hb2.block _ (Nat.lt_of_lt_of_le hs hb1H.out.size), hb1H.out.block _ hs]
  exact hgH.out
 have hbb := lh (hb0H.out.trans ((hb1H.out.mono (Nat.le_of_lt (heap_lt hgH.out))).trans (hb2.mono (Nat.le_trans (Nat.le_of_lt (heap_lt hgH.out)) hb1H.out.size))))
 unfold vtext
 obtain ⟨k0, k1, k2, hsh, hfz⟩ := blk3 hg2
 clear hb2
 go_wp2_with fail
 (try simp only [Exit.inBlock, Exit.then])
 refine bodyPost_ret (results_cell_row rfl _ _ w.heap.size 74 #[.bool false, .string t, .slice none 0 0] (0, 0) _ rfl (set3 hg2) Tryz.underlying74 rfl (by kernel_rfl)) rfl ⟨by rw [<- ht.out]; rfl, ?_⟩
 exact ((hbb.out.setCell (Nat.le_refl _) _).setCell (Nat.le_refl _) _).setCell (Nat.le_refl _) _
end Go.Proofs.YtbiioaggilaebaaGreatDoor.Tm
namespace Go.Proofs.YtbiioaggilaebaaGreatDoor.Pa
open Go Go.RowKit YtbiioaggilaebaaGreatDoorW.PrintWords B Tm Wi
theorem rtwo_c (a m : Int) (w : World) (ha : -1000000 <= a /\ a <= 1000000) (hm : -1000000 <= m /\ m <= 1000000) :
 Calls Tryz.prog 90 #[.agg #[.int .i64 a, .int .i64 m]] w fun ev w' => ∃ v, ev = .returned v /\ LForm w.heap.size w' v [nform a, nform m] /\ Below w.heap.size w w' := by
 obtain ⟨w1, hw1⟩ : ∃ w1, w1 = w.alloc (.cells #[.int .i64 a, .int .i64 m] 36) := ⟨_, rfl⟩
 obtain ⟨w2, hw2⟩ : ∃ w2, w2 = w1.alloc (.cells #[.bool false, .string ⟨#[]⟩, .slice none 0 0] 74) := ⟨_, rfl⟩
 have hs1 : w1.heap.size = w.heap.size + 1 := by rw [hw1]; simp
 have hb2 := lh (show Below w.heap.size w w2 by rw [hw2, hw1]; exact ((Below.refl _ _).alloc (Nat.le_refl _) _).alloc (by simp) _)
 have hP2 : w2.heap[w.heap.size]? = some (.cells #[.int .i64 a, .int .i64 m] 36 (0, 0)) := by rw [hw2, heap_alloc_lt _ _ _ (by omega), hw1]; exact heap_alloc_at _ _
 have hR2 := lh (show w2.heap[w.heap.size + 1]? = some (.cells #[.bool false, .string ⟨#[]⟩, .slice none 0 0] 74 (0, 0)) by rw [hw2, <- hs1]; exact heap_alloc_at _ _)
 have hz2 := lh (show w2.heap.size = w.heap.size + 2 by rw [hw2]; simp [hs1])
 obtain ⟨p0, p1, _, _⟩ := two_facts hP2
 obtain ⟨S, hS⟩ : ∃ S : World -> Prop, S = fun W => W.cell? ⟨w.heap.size, 0, none⟩ = some (.int .i64 a) /\ W.cell? ⟨w.heap.size, 1, none⟩ = some (.int .i64 m) := ⟨_, rfl⟩
 have hSi : ∀ W, S W ↔ (W.cell? ⟨w.heap.size, 0, none⟩ = some (.int .i64 a) /\ W.cell? ⟨w.heap.size, 1, none⟩ = some (.int .i64 m)) := fun W => by rw [hS]
 have hS0 : S w2.drew := (hSi _).2 ⟨p0, p1⟩
 have s1 : ∀ X : InS S, X.val.cell? ⟨w.heap.size, 0, none⟩ = some (.int .i64 a) := fun X => ((hSi X.val).1 X.mem).1
 have s2 : ∀ X : InS S, X.val.cell? ⟨w.heap.size, 1, none⟩ = some (.int .i64 m) := fun X => ((hSi X.val).1 X.mem).2
 have hne : Nonempty (InS S) := ⟨⟨w2.drew, hS0⟩⟩
 have hS0H := lh hS0
 have hSiH := lh hSi
 have CN := lh (fun (n : Int) (hn : -1000000 <= n /\ n <= 1000000) W (h : Below w.heap.size w W) => rnum_c n (by omega) (by omega) W)
 have haH := lh ha
 have hmH := lh hm
 clear hS hSi hS0 hP2 p0 p1 ha hm
 go_enter Tryz.func90, Tryz.ntmps90
 go_upto_region 1 with fail
 rw [<- hw1]
 try rw [hs1]
 rw [<- hw2]
 replace hw1 := lh hw1
 replace hw2 := lh hw2
 replace hs1 := lh hs1
 refine wp_region_mix S [0, 1, 3, 4] [.mem [0, 1, 3, 4], .keep 2, .keep 5, .keep 6, .keep 7, .last 8] (by kernel_rfl) (by kernel_rfl) hS0H.out ?_
 simp only [pick, List.getD_cons_zero, List.getD_cons_succ, wpMix]
 repeat (go_big_quiet_step (fail))
 refine wpQuiet_nil ?_
 have d := (hSiH.out _).1 hS0H.out
 have hbd := lh (show Below w.heap.size w w2.drew from hb2.out.drew)
 go_wp2_with (go_at_call 89; (with_reducible refine (CN.out a haH.out _ hbd.out).mono ?_); rintro ev w3 ⟨rfl, hb3⟩)
 have hb3w := lh (hbd.out.trans (hb3.mono hbd.out.size))
 have d3 := And.intro (keepc hb3 d.1) (keepc hb3 d.2)
 have hR3 := lh ((hb3.block _ (show w.heap.size + 1 < w2.drew.heap.size from heap_lt hR2.out)).trans hR2.out)
 unfold vtext
 refine ⟨(hSiH.out _).2 d3, ?_⟩
 go_wp2_with (go_at_call 89; (with_reducible refine (CN.out m hmH.out _ hb3w.out).mono ?_); rintro ev w4 ⟨rfl, hb4⟩)
 have hb4w := lh (hb3w.out.trans (hb4.mono hb3w.out.size))
 have d4 := And.intro (keepc hb4 d3.1) (keepc hb4 d3.2)
 have hR4 := lh ((hb4.block _ (heap_lt hR3.out)).trans hR3.out)
 unfold vtext
 refine ⟨(hSiH.out _).2 d4, ?_⟩
 go_wp2_with fail
 have d5 := And.intro (cell_alloc d4.1 (.cells #[.bool false, .string ⟨(Lib.itoa a).toArray⟩, .slice none 0 0, .bool false, .string ⟨(Lib.itoa m).toArray⟩, .slice none 0 0] 74)) (cell_alloc d4.2 (.cells #[.bool false, .string ⟨(Lib.itoa a).toArray⟩, .slice none 0 0, .bool false, .string ⟨(Lib.itoa m).toArray⟩, .slice none 0 0] 74))
 obtain ⟨q, hq⟩ : ∃ q, q = w4.heap.size := ⟨_, rfl⟩
 obtain ⟨w5, hw5⟩ : ∃ w5, w5 = w4.alloc (.cells #[.bool false, .string ⟨(Lib.itoa a).toArray⟩, .slice none 0 0, .bool false, .string ⟨(Lib.itoa m).toArray⟩, .slice none 0 0] 74) := ⟨_, rfl⟩
 have hbag5 := lh (show Bag (w.heap.size + 2) w5 (.slice (some ⟨q, 0, none⟩) 2 2) [nform a, nform m] by
  have := Bag.built (base := w.heap.size + 2) (w := w4) (G := [txt (⟨(Lib.itoa a).toArray⟩ : ByteArray).data.toList, txt (⟨(Lib.itoa m).toArray⟩ : ByteArray).data.toList]) (arr := #[.bool false, .string ⟨(Lib.itoa a).toArray⟩, .slice none 0 0, .bool false, .string ⟨(Lib.itoa m).toArray⟩, .slice none 0 0]) (FC.two _ _) (heap_lt hR4.out) (by show 2 <= 1000000000; omega)
  rw [hw5, hq]
  simpa [nform] using this)
 have hb5w := lh (show Below w.heap.size w w5 by rw [hw5]; exact hb4w.out.alloc hb4w.out.size _)
 have hR5 := lh (show w5.heap[w.heap.size + 1]? = some (.cells #[.bool false, .string ⟨#[]⟩, .slice none 0 0] 74 (0, 0)) by rw [hw5]; exact (heap_alloc_lt _ _ _ (heap_lt hR4.out)).trans hR4.out)
 rw [<- hw5] at d5 ⊢
 rw [<- hq]
 replace hw5 := lh hw5
 replace hq := lh hq
 clear hb3 hb4 d d3 d4
 refine ⟨(hSiH.out _).2 d5, ?_⟩
 go_wp2_with (go_at_call 87; (with_reducible refine (rlist_c _ _ _ _).mono ?_); rintro ev w6 ⟨rfl, hb6⟩)
 unfold vlist
 have hb6w := lh (hb5w.out.trans (hb6.mono hb5w.out.size))
 have d6 := And.intro (keepc hb6 d5.1) (keepc hb6 d5.2)
 have hR6 := (hb6.block _ (heap_lt hR5.out)).trans hR5.out
 have hR6H := lh hR6
 have hbag6 := lh (hbag5.out.keep (w' := w6) (fun b h1 h2 => hb6.block b h2) hb6.size)
 obtain ⟨e0, e1, e2, esh, efz⟩ := blk3' hR6
 clear hR6 hb6 d5
 refine ⟨(hSiH.out _).2 d6, ?_⟩
 go_wp2_with fail
 simp only [stepPost]
 go_wp2_with fail
 (try simp only [Exit.inBlock, Exit.then])
 refine bodyPost_ret (results_cell_row rfl _ _ (w.heap.size + 1) 74 #[.bool true, .string ⟨#[]⟩, .slice (some ⟨q, 0, none⟩) 2 2] (0, 0) _ rfl (set3 hR6H.out) Tryz.underlying74 rfl (by kernel_rfl)) rfl ?_
 refine ⟨_, rfl, ⟨_, rfl, ?_⟩, ?_⟩
 . refine Bag.lower (hbag6.out.keep (fun b h1 h2 => ?_) ?_) (Nat.le_add_right _ _)
   . rw [heap_set_ne _ _ _ _ (by show b ≠ w.heap.size + 1; omega), heap_set_ne _ _ _ _ (by show b ≠ w.heap.size + 1; omega), heap_set_ne _ _ _ _ (by show b ≠ w.heap.size + 1; omega)]
   . rw [size_set, size_set, size_set]; exact Nat.le_refl _
 . exact ((hb6w.out.setCell (Nat.le_succ _) _).setCell (Nat.le_succ _) _).setCell (Nat.le_succ _) _
end Go.Proofs.YtbiioaggilaebaaGreatDoor.Pa
