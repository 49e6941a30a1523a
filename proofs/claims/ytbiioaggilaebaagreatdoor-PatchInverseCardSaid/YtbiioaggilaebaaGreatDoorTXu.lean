/- What LawPatchInverse lean on, part u of 29: the texts PaT, PaJ. -/
import Derived.Test.YtbiioaggilaebaaGreatDoorTX0
import Derived.Test.YtbiioaggilaebaaGreatDoorTXl
import Derived.Test.YtbiioaggilaebaaGreatDoorTXs
import Derived.Test.YtbiioaggilaebaaGreatDoorTXt
set_option linter.all false
set_option maxRecDepth 100000
set_option maxHeartbeats 16000000
namespace Go.Proofs.YtbiioaggilaebaaGreatDoor.Pa
open Go Go.RowKit YtbiioaggilaebaaGreatDoorW.PrintWords B Tm Wi
theorem rform_c (note : ByteArray) (D : Option Addr) (dc : Nat) (deps : List ByteArray) (A : Option Addr) (ac : Nat) (ops : List Op) (w : World) (hD : TxAt w D dc deps) (hO : OpsAt w A ac ops) (hfit : pfits note deps ops = true) :
 Calls Tryz.prog 49 #[.agg #[.string note, .slice D deps.length dc, .slice A ops.length ac]] w fun e w' => ∃ q n c, e = .returned (.agg #[.bool true, .string ⟨#[]⟩, .slice q n c]) /\ FK (fun b => w.heap.size <= b /\ b < w'.heap.size) w' (pform note deps ops) [.bool true, .string ⟨#[]⟩, .slice q n c] /\ Below w.heap.size w w' := by
 obtain ⟨g, hg⟩ : ∃ g, g = w.heap.size := ⟨_, rfl⟩
 obtain ⟨w1, hw1⟩ : ∃ w1, w1 = w.alloc (.cells #[.string note, .slice D deps.length dc, .slice A ops.length ac] 25) := ⟨_, rfl⟩
 obtain ⟨w2, hw2⟩ : ∃ w2, w2 = w1.alloc (.cells #[.bool false, .string ⟨#[]⟩, .slice none 0 0] 74) := ⟨_, rfl⟩
 have hs1 : w1.heap.size = g + 1 := by rw [hw1, hg]; simp
 have hb2 := lh (show Below w.heap.size w w2 by rw [hw2, hw1]; exact ((Below.refl _ _).alloc (Nat.le_refl _) _).alloc (by simp) _)
 have hP1 : w1.heap[g]? = some (.cells #[.string note, .slice D deps.length dc, .slice A ops.length ac] 25 (0, 0)) := by rw [hw1, hg]; exact heap_alloc_at _ _
 have hP2 : PatAt w2 g note D deps.length dc A ops.length ac := by unfold PatAt; rw [hw2]; exact (heap_alloc_lt _ _ _ (heap_lt hP1)).trans hP1
 have hR2 := lh (show w2.heap[g + 1]? = some (.cells #[.bool false, .string ⟨#[]⟩, .slice none 0 0] 74 (0, 0)) by rw [hw2, <- hs1]; exact heap_alloc_at _ _)
 have hz2 := lh (show w2.heap.size = g + 2 by rw [hw2]; simp [hs1])
 have hDH := lh hD
 have hOH := lh hO
 have hop5 := lh (fun o ho => pfits_op hfit o ho)
 have hszs := lh (show note.size <= 100 /\ deps.length <= 64 /\ ops.length <= 400 /\ made ops <= 300 by
  unfold pfits at hfit
  simp only [Bool.and_eq_true, decide_eq_true_eq] at hfit
  exact ⟨hfit.1.1, hfit.1.2.1, hfit.1.2.2, hfit.2.2.2⟩)
 obtain ⟨nd, hnd⟩ : ∃ nd, nd = deps.length := ⟨_, rfl⟩
 obtain ⟨no, hno⟩ : ∃ no, no = ops.length := ⟨_, rfl⟩
 have hnd4 : nd <= 64 := by rw [hnd]; exact hszs.out.2.1
 have hno4 : no <= 400 := by rw [hno]; exact hszs.out.2.2.1
 rw [<- hnd, <- hno] at hw1 hP2 ⊢
 have hgw := lh (show w.heap.size = g from hg.symm)
 clear hD hO hfit hP1
 replace hP2 := lh hP2
 replace hnd := lh hnd
 replace hno := lh hno
 have C0 := lh (fun W => rlist_c none 0 0 W)
 go_enter Tryz.func49, Tryz.ntmps49
 go_upto_region 1 with fail
 rw [<- hw1, <- hg]
 try rw [hs1]
 rw [<- hw2]
 replace hw1 := lh hw1
 replace hw2 := lh hw2
 replace hs1 := lh hs1
 replace hg := lh hg
 go_wp2_with fail
 refine (C0.out w2).mono ?_
 rintro ev w3 ⟨rfl, hb⟩
 unfold vlist
 have hb3 := lh (hb2.out.trans (hb.mono hb2.out.size))
 have hP3 := lh (show PatAt w3 g note D nd dc A no ac from (hb.block _ (heap_lt hP2.out)).trans hP2.out)
 have hR3 := lh ((hb.block _ (heap_lt hR2.out)).trans hR2.out)
 clear hb
 obtain ⟨f, hf⟩ : ∃ f, f = w3.heap.size := ⟨_, rfl⟩
 obtain ⟨w4, hw4⟩ : ∃ w4, w4 = w3.alloc (.cells #[.bool true, .string ⟨#[]⟩, .slice none 0 0] 74) := ⟨_, rfl⟩
 have hf4 := lh (show w4.heap[f]? = some (.cells #[.bool true, .string ⟨#[]⟩, .slice none 0 0] 74 (0, 0)) by rw [hw4, hf]; exact heap_alloc_at _ _)
 have hs4 := lh (show w4.heap.size = f + 1 by rw [hw4, hf]; simp)
 have hP4 := lh (show PatAt w4 g note D nd dc A no ac by unfold PatAt; rw [hw4]; exact (heap_alloc_lt _ _ _ (heap_lt hP3.out)).trans hP3.out)
 have hR4 := lh (show w4.heap[g + 1]? = some (.cells #[.bool false, .string ⟨#[]⟩, .slice none 0 0] 74 (0, 0)) by rw [hw4]; exact (heap_alloc_lt _ _ _ (heap_lt hR3.out)).trans hR3.out)
 have hb4 := lh (show Below w.heap.size w w4 by rw [hw4]; exact hb3.out.alloc hb3.out.size _)
 have hgf := lh (show g + 1 < f by rw [hf]; exact heap_lt hR3.out)
 go_upto_region 2 with fail
 rw [<- hw4, <- hf]
 replace hw4 := lh hw4
 replace hf := lh hf
 go_upto_region 3 with fail
 go_loopg [4] nd (fun g' i W => ∃ (k : Nat) (v : Value), g' = nd - k /\ k <= nd /\ i = .int .i64 k /\ W.heap[f]? = some (.cells #[.bool true, .string ⟨#[]⟩, v] 74 (0, 0)) /\ Bag w4.heap.size W v (lhave (deps.take k)) /\ Tch (fun b => b = f) w4 W)
 case atStart => exact ⟨0, .slice none 0 0, rfl, by omega, rfl, hf4.out, Bag.nil _ _, Tch.refl _ _⟩
 case round =>
  obtain ⟨k, v, hg', hk, rfl, hfb, hbag, hTc⟩ := hrel
  subst hg'
  have hfbH := lh hfb
  have hbag2 := lh hbag
  have hT2 := lh hTc
  have hbr := lh (show Below w.heap.size w wr from hb4.out.trans (hTc.below (B := w.heap.size) hb4.out.size (fun k hk _ => by subst hk; have := hgf.out; have := hgw.out; omega)))
  have hPr := lh (show PatAt wr g note D nd dc A no ac from hTc.heap hP4.out (show ¬ g = f by have := hgf.out; omega))
  obtain ⟨p0, p1, p2, _, _⟩ := blk3' hPr.out
  by_cases hkn : k < nd
  . have hki : (k : Int) < (nd : Int) := by omega
    have hkl : k < deps.length := by rw [<- hnd.out]; exact hkn
    obtain ⟨b, o, rfl, hcell0⟩ := str_cell hDH.out.1 k hkl
    have hcell := keepc hbr.out hcell0
    have hbw := lh (show b < w.heap.size from World.block_lt_of_cell? w _ hcell0)
    clear hcell0
    have hnext := lh (lhave_take deps k hkl)
    obtain ⟨x, hx⟩ : ∃ x, x = deps.getD k ByteArray.empty := ⟨_, rfl⟩
    rw [<- hx] at hcell hnext
    replace hx := lh hx
    have hq2 : wr.cell? ⟨f, 2, none⟩ = some v := by rw [cell_of hfb]; rfl
    obtain ⟨S, hS⟩ : ∃ S : World -> Prop, S = fun W => W.cell? ⟨f, 2, none⟩ = some v /\ W.cell? ⟨g, 1, none⟩ = some (.slice (some ⟨b, o, none⟩) nd dc) /\ W.cell? ⟨b, o + k, none⟩ = some (.string x) := ⟨_, rfl⟩
    have hSi : ∀ W, S W ↔ (W.cell? ⟨f, 2, none⟩ = some v /\ W.cell? ⟨g, 1, none⟩ = some (.slice (some ⟨b, o, none⟩) nd dc) /\ W.cell? ⟨b, o + k, none⟩ = some (.string x)) := fun W => by rw [hS]
    have hS0 : S wr.drew := (hSi _).2 ⟨hq2, p1, hcell⟩
    have s1 : ∀ X : InS S, X.val.cell? ⟨f, 2, none⟩ = some v := fun X => ((hSi X.val).1 X.mem).1
    have s2 : ∀ X : InS S, X.val.cell? ⟨g, 1, none⟩ = some (.slice (some ⟨b, o, none⟩) nd dc) := fun X => ((hSi X.val).1 X.mem).2.1
    have s3 : ∀ X : InS S, X.val.cell? ⟨b, o + k, none⟩ = some (.string x) := fun X => ((hSi X.val).1 X.mem).2.2
    have hne : Nonempty (InS S) := ⟨⟨wr.drew, hS0⟩⟩
    have hS0H := lh hS0
    have hSiH := lh hSi
    clear hS hSi hq2 hfb hbag hTc hS0
    go_upto_region 5 with fail
    clear p0 p1 p2 hcell
    refine wp_region_mix S [0, 1, 2, 3, 4, 5, 6] [.mem [0, 1, 2, 3, 4, 5, 6], .keep 7, .keep 8, .keep 9, .pure [10], .last 11] (by kernel_rfl) (by kernel_rfl) hS0H.out ?_
    simp only [pick, List.getD_cons_zero, List.getD_cons_succ, wpMix]
    repeat (go_big_quiet_step (fail))
    refine wpQuiet_nil ?_
    have hf4s := heap_lt hf4.out
    have hg4s := heap_lt hP4.out
    have hnb := lh (show ∀ b, b < w4.heap.size -> some b ≠ v.ownBlock from fun b hb e => by have := (hbag2.out.lt _ e.symm).1; omega)
    obtain ⟨d1, d2, d3⟩ := (hSiH.out _).1 hS0H.out
    go_wp2_with (go_at_call 88; (with_reducible refine (rtext_c _ _).mono ?_); rintro ev w9 ⟨rfl, hb9⟩)
    have r1 := keepc hb9 d1
    have r2 := keepc hb9 d2
    have r3 := keepc hb9 d3
    have hbr9 := lh (show Below wr.heap.size wr w9 from ((Below.refl wr.heap.size wr).drew).trans hb9)
    have hbag9 := lh (hbag2.out.keep (w' := w9) (fun b h1 h2 => hbr9.out.block b h2) hbr9.out.size)
    clear hb9
    unfold vtext
    refine ⟨(hSiH.out _).2 ⟨r1, r2, r3⟩, ?_⟩
    go_wp2_with fail
    refine ⟨(hSiH.out _).2 ⟨cell_alloc r1 _, cell_alloc r2 _, cell_alloc r3 _⟩, ?_⟩
    have hlen := lh (show (lhave (deps.take k)).length = k from by unfold lhave; rw [List.length_map, List.length_take]; omega)
    go_wp2_with (at_builtin; refine bag_app (by rfl) _ _ _ (by rfl) Tryz.underlying72 (by rfl) k 1 1 (by rfl) (by rfl) hbag9.out (FC.texts _) hlen.out (by rfl) (by omega) (by omega) (Nat.le_trans hT2.out.size hbr9.out.size) ?_; intro g7 cap7 w10 hbag10 hgrew10)
    have hbw' := hbw.out
    have hB4s := hb4.out.size
    have u1 := hgrew10.cell r1 (hnb.out f hf4s)
    have u2 := hgrew10.cell r2 (hnb.out g hg4s)
    have u3 := hgrew10.cell r3 (hnb.out b (by omega))
    have hf10 := hgrew10.heap ((hbr9.out.block _ (heap_lt hfbH.out)).trans hfbH.out) (hnb.out f hf4s)
    refine ⟨(hSiH.out _).2 ⟨u1, u2, u3⟩, ?_⟩
    repeat (go_big_quiet_step (fail))
    refine wpQuiet_nil ?_
    have z10 : w10.frozen? ⟨f, 2, none⟩ = false := fr_of hf10 2
    have hf10H := lh hf10
    have hbag10H := lh hbag10
    have hgrew10H := lh hgrew10
    clear hf10 hbag10 hgrew10 hf4s hg4s hbw' hB4s
    go_wp2_with fail
    simp only [stepPost]
    go_wp2_with fail
    go_roundg (nd - (k + 1))
    case measure => omega
    case rel =>
     refine ⟨k + 1, .slice (some ⟨g7, 0, none⟩) (k + 1) cap7, rfl, by omega, by go_num, heap_set _ _ _ _ _ _ _ hf10H.out, ?_, ?_⟩
     . rw [hnext.out]
       exact hbag10H.out.keep (fun b h1 h2 => heap_set_ne _ _ _ _ (by show b ≠ f; have := hs4.out; omega)) (by rw [size_set]; exact Nat.le_refl _)
     . exact (hgrew10H.out.tch (hT2.out.trans (Tch.of_new hbr9.out)) (fun b hb => (hbag2.out.lt b hb).1)).setCell ⟨f, 2, none⟩ (fun _ => rfl) _
  . have hkn' : k = nd := by omega
    subst hkn'
    have hki : ¬ (k : Int) < (k : Int) := by omega
    have ht : deps.take k = deps := List.take_of_length_le (by rw [<- hnd.out]; exact Nat.le_refl _)
    rw [ht] at hbag2
    clear ht hbag
    obtain ⟨Av, cv, hv, _⟩ := hbag2.out.form
    obtain ⟨nv, hnv⟩ : ∃ nv, nv = (lhave deps).length := ⟨_, rfl⟩
    rw [<- hnv] at hv
    replace hnv := lh hnv
    subst hv
    have hRr := lh (hTc.heap hR4.out (show ¬ g + 1 = f by have := hgf.out; omega))
    have hsr := lh (show w4.heap.size <= wr.heap.size from hTc.size)
    clear hfb hTc hT2
    obtain ⟨wa, hwa⟩ : ∃ wa, wa = wr := ⟨_, rfl⟩
    subst hwa
    go_wp2_with fail
    refine (C0.out wa).mono ?_
    rintro ev w6 ⟨rfl, hb⟩
    unfold vlist
    have hb6 := lh (hbr.out.trans (hb.mono hbr.out.size))
    have hP6 := lh (show PatAt w6 g note D k dc A no ac from (hb.block _ (heap_lt hPr.out)).trans hPr.out)
    have hR6 := lh ((hb.block _ (heap_lt hRr.out)).trans hRr.out)
    have hF6 := lh ((hb.block _ (heap_lt hfbH.out)).trans hfbH.out)
    have hbag6 := lh (hbag2.out.keep (w' := w6) (fun b h1 h2 => hb.block b h2) hb.size)
    have hs6 := lh (show w4.heap.size <= w6.heap.size from Nat.le_trans hsr.out hb.size)
    clear hb p0 p1 p2
    obtain ⟨f2, hf2⟩ : ∃ f2, f2 = w6.heap.size := ⟨_, rfl⟩
    obtain ⟨w7, hw7⟩ : ∃ w7, w7 = w6.alloc (.cells #[.bool true, .string ⟨#[]⟩, .slice none 0 0] 74) := ⟨_, rfl⟩
    have hf7 := lh (show w7.heap[f2]? = some (.cells #[.bool true, .string ⟨#[]⟩, .slice none 0 0] 74 (0, 0)) by rw [hw7, hf2]; exact heap_alloc_at _ _)
    have hs7 := lh (show w7.heap.size = f2 + 1 by rw [hw7, hf2]; simp)
    have hP7 := lh (show PatAt w7 g note D k dc A no ac by unfold PatAt; rw [hw7]; exact (heap_alloc_lt _ _ _ (heap_lt hP6.out)).trans hP6.out)
    have hR7 := lh (show w7.heap[g + 1]? = some (.cells #[.bool false, .string ⟨#[]⟩, .slice none 0 0] 74 (0, 0)) by rw [hw7]; exact (heap_alloc_lt _ _ _ (heap_lt hR6.out)).trans hR6.out)
    have hF7 := lh (show w7.heap[f]? = some (.cells #[.bool true, .string ⟨#[]⟩, .slice Av nv cv] 74 (0, 0)) by rw [hw7]; exact (heap_alloc_lt _ _ _ (heap_lt hF6.out)).trans hF6.out)
    have hbag7 := lh (show Bag w4.heap.size w7 (.slice Av nv cv) (lhave deps) by rw [hw7]; exact hbag6.out.keep (fun b h1 h2 => heap_alloc_lt _ _ _ h2) (by simp))
    have hb7 := lh (show Below w.heap.size w w7 by rw [hw7]; exact hb6.out.alloc hb6.out.size _)
    have hff := lh (show f < f2 by rw [hf2]; exact heap_lt hF6.out)
    go_upto_region 7 with fail
    rw [<- hw7, <- hf2]
    replace hw7 := lh hw7
    replace hf2 := lh hf2
    go_upto_region 8 with fail
    go_loopg [6] no (fun g' i W => ∃ (j : Nat) (v : Value), g' = no - j /\ j <= no /\ i = .int .i64 j /\ W.heap[f2]? = some (.cells #[.bool true, .string ⟨#[]⟩, v] 74 (0, 0)) /\ Bag w7.heap.size W v ((ops.take j).map oform) /\ Tch (fun b => b = f2) w7 W)
    case atStart => exact ⟨0, .slice none 0 0, rfl, by omega, rfl, hf7.out, Bag.nil _ _, Tch.refl _ _⟩
    case round =>
     obtain ⟨j, v2, hg', hj, rfl, hfb2, hbag, hTc⟩ := hrel
     subst hg'
     have hfb2H := lh hfb2
     have hbagO := lh hbag
     have hTO := lh hTc
     have hbrO := lh (show Below w.heap.size w wr from hb7.out.trans (hTc.below (B := w.heap.size) hb7.out.size (fun k hk _ => by subst hk; have := hff.out; have := hgf.out; have := hgw.out; omega)))
     have hPO := lh (show PatAt wr g note D k dc A no ac from hTc.heap hP7.out (show ¬ g = f2 by have := hff.out; have := hgf.out; omega))
     obtain ⟨p0, p1, p2, _, _⟩ := blk3' hPO.out
     by_cases hjn : j < no
     . have hji : (j : Int) < (no : Int) := by omega
       obtain ⟨⟨kk, ka, km, kb, kn, kl⟩, ho⟩ : ∃ o, ops[j]? = some o := ⟨ops[j]'(by rw [<- hno.out]; exact hjn), List.getElem?_eq_getElem _⟩
       obtain ⟨⟨x1, x2⟩, ⟨⟨x3, x4⟩, x5, x6⟩, ⟨⟨x7, x8⟩, x9, x10⟩, _, hkl⟩ := hop5.out _ (List.mem_of_getElem? ho)
       simp only at x1 x2 x3 x4 x5 x6 x7 x8 x9 x10 hkl
       have hkl3 : kl.length <= 300 := by
        have h2 := made_step ops j _ ho
        have h3 := made_take ops (j + 1)
        have h5 := hszs.out.2.2.2
        have h6 : kl.length = mk1 ⟨kk, ka, km, kb, kn, kl⟩ := hkl
        omega
       obtain ⟨b, of, L, cl, hAe, o0, o1, o2, o3, o4, o5, hT⟩ := hOH.out.get j _ ho
       subst hAe
       have hTw := lh hT
       have hnext2 := lh (omap_take ops j _ ho)
       have hkkb := lh (show -1000000 <= kk /\ kk <= 1000000 by omega)
       have hkab := lh (show -1000000 <= ka /\ ka <= 1000000 by omega)
       have hkmb := lh (show -1000000 <= km /\ km <= 1000000 by omega)
       have hkbb := lh (show -1000000 <= kb /\ kb <= 1000000 by omega)
       have hknb := lh (show -1000000 <= kn /\ kn <= 1000000 by omega)
       clear x1 x2 x3 x4 x5 x6 x7 x8 x9 x10 hkl ho hT
       obtain ⟨nl, hnl⟩ : ∃ nl, nl = kl.length := ⟨_, rfl⟩
       have hnl3 : nl <= 300 := by omega
       have o5' : w.cell? ⟨b, of + j * 6 + 5, none⟩ = some (.slice L nl cl) := by rw [hnl]; exact o5
       replace hnl := lh hnl
       clear o5 hkl3
       replace o0 := keepc hbrO.out o0
       replace o1 := keepc hbrO.out o1
       replace o2 := keepc hbrO.out o2
       replace o3 := keepc hbrO.out o3
       replace o4 := keepc hbrO.out o4
       replace o5' := keepc hbrO.out o5'
       obtain ⟨u, hu⟩ : ∃ u, u = wr.heap.size := ⟨_, rfl⟩
       obtain ⟨w8, hw8⟩ : ∃ w8, w8 = wr.alloc (.cells #[.int .i64 kk, .int .i64 ka, .int .i64 km, .int .i64 kb, .int .i64 kn, .slice L nl cl] 38) := ⟨_, rfl⟩
       have hU8 := lh (show w8.heap[u]? = some (.cells #[.int .i64 kk, .int .i64 ka, .int .i64 km, .int .i64 kb, .int .i64 kn, .slice L nl cl] 38 (0, 0)) by rw [hw8, hu]; exact heap_alloc_at _ _)
       have hbr8 := lh (show Below wr.heap.size wr w8 by rw [hw8]; exact Wi.below_alloc _ _)
       go_upto_region 11 with fail
       rw [<- hw8, <- hu]
       replace hw8 := lh hw8
       replace hu := lh hu
       clear p0 p1 p2 o0 o1 o2 o3 o4 o5'
       go_wp2_with fail
       refine (C0.out w8).mono ?_
       rintro ev w9 ⟨rfl, hb⟩
       unfold vlist
       have hbr9' := lh (hbr8.out.trans (hb.mono hbr8.out.size))
       have hU9 := lh ((hb.block _ (heap_lt hU8.out)).trans hU8.out)
       clear hb
       obtain ⟨f3, hf3⟩ : ∃ f3, f3 = w9.heap.size := ⟨_, rfl⟩
       obtain ⟨w10, hw10⟩ : ∃ w10, w10 = w9.alloc (.cells #[.bool true, .string ⟨#[]⟩, .slice none 0 0] 74) := ⟨_, rfl⟩
       have hf10 := lh (show w10.heap[f3]? = some (.cells #[.bool true, .string ⟨#[]⟩, .slice none 0 0] 74 (0, 0)) by rw [hw10, hf3]; exact heap_alloc_at _ _)
       have hs10 := lh (show w10.heap.size = f3 + 1 by rw [hw10, hf3]; simp)
       have hU10 := lh (show w10.heap[u]? = some (.cells #[.int .i64 kk, .int .i64 ka, .int .i64 km, .int .i64 kb, .int .i64 kn, .slice L nl cl] 38 (0, 0)) by rw [hw10]; exact (heap_alloc_lt _ _ _ (heap_lt hU9.out)).trans hU9.out)
       have hbr10 := lh (show Below wr.heap.size wr w10 by rw [hw10]; exact hbr9'.out.alloc hbr9'.out.size _)
       have hb10 := lh (hbrO.out.trans (hbr10.out.mono hbrO.out.size))
       have huf := lh (show u < f3 by rw [hf3]; exact heap_lt hU9.out)
       obtain ⟨wb, hwb⟩ : ∃ wb, wb = wr := ⟨_, rfl⟩
       subst hwb
       clear hfb2 hbag hTc
       go_upto_region 12 with fail
       rw [<- hw10, <- hf3]
       replace hw10 := lh hw10
       replace hf3 := lh hf3
       go_upto_region 13 with fail
       go_loopg [9] nl (fun g' i W => ∃ (m : Nat) (v : Value), g' = nl - m /\ m <= nl /\ i = .int .i64 m /\ W.heap[f3]? = some (.cells #[.bool true, .string ⟨#[]⟩, v] 74 (0, 0)) /\ Bag w10.heap.size W v (lhave (kl.take m)) /\ Tch (fun b => b = f3) w10 W)
       case atStart => exact ⟨0, .slice none 0 0, rfl, by omega, rfl, hf10.out, Bag.nil _ _, Tch.refl _ _⟩
       case round =>
        obtain ⟨k, v, hg', hk, rfl, hfb, hbag, hTc⟩ := hrel
        subst hg'
        have hfbH := lh hfb
        have hbag2 := lh hbag
        have hT2 := lh hTc
        have hbr := lh (show Below w.heap.size w wr from hb10.out.trans (hTc.below (B := w.heap.size) hb10.out.size (fun k hk _ => by subst hk; have := huf.out; have := hu.out; have := hbrO.out.size; omega)))
        have hUr := lh (hTc.heap hU10.out (show ¬ u = f3 by have := huf.out; omega))
        obtain ⟨u0, u1, u2, u3, u4, u5', _, _⟩ := six_facts hUr.out
        by_cases hkn : k < nl
        . have hki : (k : Int) < (nl : Int) := by omega
          have hkl : k < kl.length := by rw [<- hnl.out]; exact hkn
          obtain ⟨b, o, rfl, hcell0⟩ := str_cell hTw.out.1 k hkl
          have hcell := keepc hbr.out hcell0
          have hbw := lh (show b < w.heap.size from World.block_lt_of_cell? w _ hcell0)
          clear hcell0
          have hnext := lh (lhave_take kl k hkl)
          obtain ⟨x, hx⟩ : ∃ x, x = kl.getD k ByteArray.empty := ⟨_, rfl⟩
          rw [<- hx] at hcell hnext
          replace hx := lh hx
          have hq2 : wr.cell? ⟨f3, 2, none⟩ = some v := by rw [cell_of hfb]; rfl
          obtain ⟨S, hS⟩ : ∃ S : World -> Prop, S = fun W => W.cell? ⟨f3, 2, none⟩ = some v /\ W.cell? ⟨u, 5, none⟩ = some (.slice (some ⟨b, o, none⟩) nl cl) /\ W.cell? ⟨b, o + k, none⟩ = some (.string x) := ⟨_, rfl⟩
          have hSi : ∀ W, S W ↔ (W.cell? ⟨f3, 2, none⟩ = some v /\ W.cell? ⟨u, 5, none⟩ = some (.slice (some ⟨b, o, none⟩) nl cl) /\ W.cell? ⟨b, o + k, none⟩ = some (.string x)) := fun W => by rw [hS]
          have hS0 : S wr.drew := (hSi _).2 ⟨hq2, u5', hcell⟩
          have s1 : ∀ X : InS S, X.val.cell? ⟨f3, 2, none⟩ = some v := fun X => ((hSi X.val).1 X.mem).1
          have s2 : ∀ X : InS S, X.val.cell? ⟨u, 5, none⟩ = some (.slice (some ⟨b, o, none⟩) nl cl) := fun X => ((hSi X.val).1 X.mem).2.1
          have s3 : ∀ X : InS S, X.val.cell? ⟨b, o + k, none⟩ = some (.string x) := fun X => ((hSi X.val).1 X.mem).2.2
          have hne : Nonempty (InS S) := ⟨⟨wr.drew, hS0⟩⟩
          have hS0H := lh hS0
          have hSiH := lh hSi
          clear hS hSi hq2 hfb hbag hTc hS0
          go_upto_region 15 with fail
          clear u0 u1 u2 u3 u4 u5' hcell
          refine wp_region_mix S [0, 1, 2, 3, 4, 5, 6] [.mem [0, 1, 2, 3, 4, 5, 6], .keep 7, .keep 8, .keep 9, .pure [10], .last 11] (by kernel_rfl) (by kernel_rfl) hS0H.out ?_
          simp only [pick, List.getD_cons_zero, List.getD_cons_succ, wpMix]
          repeat (go_big_quiet_step (fail))
          refine wpQuiet_nil ?_
          have hf10s := heap_lt hf10.out
          have hg4s := heap_lt hU10.out
          have hnb := lh (show ∀ b, b < w10.heap.size -> some b ≠ v.ownBlock from fun b hb e => by have := (hbag2.out.lt _ e.symm).1; omega)
          obtain ⟨d1, d2, d3⟩ := (hSiH.out _).1 hS0H.out
          go_wp2_with (go_at_call 88; (with_reducible refine (rtext_c _ _).mono ?_); rintro ev w19 ⟨rfl, hb19⟩)
          have r1 := keepc hb19 d1
          have r2 := keepc hb19 d2
          have r3 := keepc hb19 d3
          have hbr19 := lh (show Below wr.heap.size wr w19 from ((Below.refl wr.heap.size wr).drew).trans hb19)
          have hbag19 := lh (hbag2.out.keep (w' := w19) (fun b h1 h2 => hbr19.out.block b h2) hbr19.out.size)
          clear hb19
          unfold vtext
          refine ⟨(hSiH.out _).2 ⟨r1, r2, r3⟩, ?_⟩
          go_wp2_with fail
          refine ⟨(hSiH.out _).2 ⟨cell_alloc r1 _, cell_alloc r2 _, cell_alloc r3 _⟩, ?_⟩
          have hlen := lh (show (lhave (kl.take k)).length = k from by unfold lhave; rw [List.length_map, List.length_take]; omega)
          go_wp2_with (at_builtin; refine bag_app (by rfl) _ _ _ (by rfl) Tryz.underlying72 (by rfl) k 1 1 (by rfl) (by rfl) hbag19.out (FC.texts _) hlen.out (by rfl) (by omega) (by omega) (Nat.le_trans hT2.out.size hbr19.out.size) ?_; intro g7 cap7 w20 hbag20 hgrew20)
          have hbw' := hbw.out
          have hB4s := hb10.out.size
          have u1 := hgrew20.cell r1 (hnb.out f3 hf10s)
          have u2 := hgrew20.cell r2 (hnb.out u hg4s)
          have u3 := hgrew20.cell r3 (hnb.out b (by omega))
          have hg20 := hgrew20.heap ((hbr19.out.block _ (heap_lt hfbH.out)).trans hfbH.out) (hnb.out f3 hf10s)
          refine ⟨(hSiH.out _).2 ⟨u1, u2, u3⟩, ?_⟩
          repeat (go_big_quiet_step (fail))
          refine wpQuiet_nil ?_
          have z20 : w20.frozen? ⟨f3, 2, none⟩ = false := fr_of hg20 2
          have hg20H := lh hg20
          have hbag20H := lh hbag20
          have hgrew20H := lh hgrew20
          clear hg20 hbag20 hgrew20 hf10s hg4s hbw' hB4s
          go_wp2_with fail
          simp only [stepPost]
          go_wp2_with fail
          go_roundg (nl - (k + 1))
          case measure => omega
          case rel =>
           refine ⟨k + 1, .slice (some ⟨g7, 0, none⟩) (k + 1) cap7, rfl, by omega, by go_num, heap_set _ _ _ _ _ _ _ hg20H.out, ?_, ?_⟩
           . rw [hnext.out]
             exact hbag20H.out.keep (fun b h1 h2 => heap_set_ne _ _ _ _ (by show b ≠ f3; have := hs10.out; omega)) (by rw [size_set]; exact Nat.le_refl _)
           . exact (hgrew20H.out.tch (hT2.out.trans (Tch.of_new hbr19.out)) (fun b hb => (hbag2.out.lt b hb).1)).setCell ⟨f3, 2, none⟩ (fun _ => rfl) _
        . have hkn' : k = nl := by omega
          subst hkn'
          have hki : ¬ (k : Int) < (k : Int) := by omega
          have ht : kl.take k = kl := List.take_of_length_le (by rw [<- hnl.out]; exact Nat.le_refl _)
          rw [ht] at hbag2
          clear ht hbag
          obtain ⟨Al, cal, hv, _⟩ := hbag2.out.form
          obtain ⟨nal, hnal⟩ : ∃ nal, nal = (lhave kl).length := ⟨_, rfl⟩
          rw [<- hnal] at hv
          replace hnal := lh hnal
          subst hv
          have hbc := lh (show Below wb.heap.size wb wr from hbr10.out.trans (hTc.below (B := wb.heap.size) hbr10.out.size (fun k hk _ => by subst hk; have := huf.out; have := hu.out; omega)))
          have hFl := lh (fk_lower (bag_fk hbag2.out (by unfold lhave; rw [List.length_map]; have := hnl.out; omega)) hbr10.out.size)
          have hq2 : wr.cell? ⟨f2, 2, none⟩ = some v2 := keepc hbc.out (show wb.cell? ⟨f2, 2, none⟩ = some v2 by rw [cell_of hfb2H.out]; rfl)
          obtain ⟨S, hS⟩ : ∃ S : World -> Prop, S = fun W => W.cell? ⟨f2, 2, none⟩ = some v2 /\ W.heap[u]? = some (.cells #[.int .i64 kk, .int .i64 ka, .int .i64 km, .int .i64 kb, .int .i64 kn, .slice L k cl] 38 (0, 0)) /\ W.heap[f3]? = some (.cells #[.bool true, .string ⟨#[]⟩, .slice Al nal cal] 74 (0, 0)) := ⟨_, rfl⟩
          have hSi : ∀ W, S W ↔ (W.cell? ⟨f2, 2, none⟩ = some v2 /\ W.heap[u]? = some (.cells #[.int .i64 kk, .int .i64 ka, .int .i64 km, .int .i64 kb, .int .i64 kn, .slice L k cl] 38 (0, 0)) /\ W.heap[f3]? = some (.cells #[.bool true, .string ⟨#[]⟩, .slice Al nal cal] 74 (0, 0))) := fun W => by rw [hS]
          have hS0 : S wr.drew := (hSi _).2 ⟨hq2, hUr.out, hfbH.out⟩
          have s1 : ∀ X : InS S, X.val.cell? ⟨f2, 2, none⟩ = some v2 := fun X => ((hSi X.val).1 X.mem).1
          have s2 : ∀ X : InS S, X.val.cell? ⟨u, 0, none⟩ = some (.int .i64 kk) := fun X => (six_facts ((hSi X.val).1 X.mem).2.1).1
          have s3 : ∀ X : InS S, X.val.cell? ⟨u, 1, none⟩ = some (.int .i64 ka) := fun X => (six_facts ((hSi X.val).1 X.mem).2.1).2.1
          have s4 : ∀ X : InS S, X.val.cell? ⟨u, 2, none⟩ = some (.int .i64 km) := fun X => (six_facts ((hSi X.val).1 X.mem).2.1).2.2.1
          have s5 : ∀ X : InS S, X.val.cell? ⟨u, 3, none⟩ = some (.int .i64 kb) := fun X => (six_facts ((hSi X.val).1 X.mem).2.1).2.2.2.1
          have s6 : ∀ X : InS S, X.val.cell? ⟨u, 4, none⟩ = some (.int .i64 kn) := fun X => (six_facts ((hSi X.val).1 X.mem).2.1).2.2.2.2.1
          have s7 : ∀ X : InS S, X.val.cell? ⟨f3, 0, none⟩ = some (.bool true) := fun X => (blk3' ((hSi X.val).1 X.mem).2.2).1
          have s8 : ∀ X : InS S, X.val.cell? ⟨f3, 1, none⟩ = some (.string ⟨#[]⟩) := fun X => (blk3' ((hSi X.val).1 X.mem).2.2).2.1
          have s9 : ∀ X : InS S, X.val.cell? ⟨f3, 2, none⟩ = some (.slice Al nal cal) := fun X => (blk3' ((hSi X.val).1 X.mem).2.2).2.2.1
          have hne : Nonempty (InS S) := ⟨⟨wr.drew, hS0⟩⟩
          have hS0H := lh hS0
          have hSiH := lh hSi
          clear hS hSi hS0 hfb hq2 hTc
          go_upto_region 16 with fail
          clear u0 u1 u2 u3 u4 u5'
          refine wp_region_mix S [0, 1, 2, 3, 5, 6, 8, 9, 11] [.mem [0, 1, 2, 3, 5, 6, 8, 9, 11], .keep 4, .keep 7, .keep 10, .keep 12, .keep 13, .keep 14, .keep 15, .pure [16], .last 17] (by kernel_rfl) (by kernel_rfl) hS0H.out ?_
          simp only [pick, List.getD_cons_zero, List.getD_cons_succ, wpMix]
          repeat (go_big_quiet_step (fail))
          refine wpQuiet_nil ?_
          clear s1 s2 s3 s4 s5 s6 s7 s8 s9
          have e5 := lh ((hSiH.out _).1 hS0H.out)
          have y5 := lh (show Below wr.heap.size wr wr.drew from (Below.refl _ _).drew)
          go_wp2_with (go_at_call 89; (with_reducible refine (rnum_c kk (by have := hkkb.out; omega) (by have := hkkb.out; omega) _).mono ?_); rintro ev z6 ⟨rfl, hb6'⟩)
          have y6 := lh (y5.out.trans (hb6'.mono y5.out.size))
          have e6 := lh (show _ /\ _ /\ _ from ⟨keepc hb6' e5.out.1, (hb6'.block _ (heap_lt e5.out.2.1)).trans e5.out.2.1, (hb6'.block _ (heap_lt e5.out.2.2)).trans e5.out.2.2⟩)
          clear hb6'
          unfold vtext
          refine ⟨(hSiH.out _).2 e6.out, ?_⟩
          go_wp2_with (go_at_call 90; (with_reducible refine (rtwo_c ka km _ hkab.out hkmb.out).mono ?_); rintro ev z7 ⟨v7, rfl, hl7, hb7'⟩)
          obtain ⟨A7, n7, c7, rfl, hF7'⟩ := hl7.fk (by simp)
          have y7 := lh (y6.out.trans (hb7'.mono y6.out.size))
          have e7 := lh (show _ /\ _ /\ _ from ⟨keepc hb7' e6.out.1, (hb7'.block _ (heap_lt e6.out.2.1)).trans e6.out.2.1, (hb7'.block _ (heap_lt e6.out.2.2)).trans e6.out.2.2⟩)
          replace hF7' := lh (fk_lower hF7' (Nat.le_trans hbc.out.size y6.out.size))
          clear hb7' hl7
          refine ⟨(hSiH.out _).2 e7.out, ?_⟩
          go_wp2_with (go_at_call 90; (with_reducible refine (rtwo_c kb kn _ hkbb.out hknb.out).mono ?_); rintro ev z8 ⟨v8, rfl, hl8, hb8'⟩)
          obtain ⟨A8, n8, c8, rfl, hF8'⟩ := hl8.fk (by simp)
          have y8 := lh (y7.out.trans (hb8'.mono y7.out.size))
          have e8 := lh (show _ /\ _ /\ _ from ⟨keepc hb8' e7.out.1, (hb8'.block _ (heap_lt e7.out.2.1)).trans e7.out.2.1, (hb8'.block _ (heap_lt e7.out.2.2)).trans e7.out.2.2⟩)
          replace hF7' := lh (fk_keep hF7'.out hb8')
          replace hF8' := lh (fk_lower hF8' (Nat.le_trans hbc.out.size y7.out.size))
          have hFl8 := lh (fk_keep hFl.out y8.out)
          clear hb8' hl8
          refine ⟨(hSiH.out _).2 e8.out, ?_⟩
          go_wp2_with fail
          obtain ⟨q, hq⟩ : ∃ q, q = z8.heap.size := ⟨_, rfl⟩
          obtain ⟨z9, hz9⟩ : ∃ z9, z9 = z8.alloc (.cells #[.bool false, .string ⟨(Lib.itoa kk).toArray⟩, .slice none 0 0, .bool true, .string ⟨#[]⟩, .slice A7 n7 c7, .bool true, .string ⟨#[]⟩, .slice A8 n8 c8, .bool true, .string ⟨#[]⟩, .slice Al nal cal] 74) := ⟨_, rfl⟩
          have hbag9' := lh (show Bag wb.heap.size z9 (.slice (some ⟨q, 0, none⟩) 4 4) [nform kk, rform ka km, rform kb kn, tform kl] by
           rw [hz9, hq]
           exact Bag.built (G := [nform kk, rform ka km, rform kb kn, tform kl]) (fc_four (fk_num kk) hF7'.out hF8'.out hFl8.out) (Nat.le_trans hbc.out.size y8.out.size) (by show 4 <= 1000000000; omega))
          have y9 := lh (show Below wr.heap.size wr z9 by rw [hz9]; exact y8.out.alloc y8.out.size _)
          have e9 := lh (show z9.cell? ⟨f2, 2, none⟩ = some v2 /\ z9.heap[u]? = some (.cells #[.int .i64 kk, .int .i64 ka, .int .i64 km, .int .i64 kb, .int .i64 kn, .slice L k cl] 38 (0, 0)) /\ z9.heap[f3]? = some (.cells #[.bool true, .string ⟨#[]⟩, .slice Al nal cal] 74 (0, 0)) by rw [hz9]; exact ⟨cell_alloc e8.out.1 _, (heap_alloc_lt _ _ _ (heap_lt e8.out.2.1)).trans e8.out.2.1, (heap_alloc_lt _ _ _ (heap_lt e8.out.2.2)).trans e8.out.2.2⟩)
          rw [<- hz9, <- hq]
          replace hz9 := lh hz9
          replace hq := lh hq
          clear hF7' hF8' hFl8
          refine ⟨(hSiH.out _).2 e9.out, ?_⟩
          go_wp2_with (go_at_call 87; (with_reducible refine (rlist_c _ _ _ _).mono ?_); rintro ev z10 ⟨rfl, hb10'⟩)
          unfold vlist
          have y10 := lh (y9.out.trans (hb10'.mono y9.out.size))
          have e10 := lh (show _ /\ _ /\ _ from ⟨keepc hb10' e9.out.1, (hb10'.block _ (heap_lt e9.out.2.1)).trans e9.out.2.1, (hb10'.block _ (heap_lt e9.out.2.2)).trans e9.out.2.2⟩)
          have hF10 := lh (show FK (fun b => wb.heap.size <= b /\ b < z10.heap.size) z10 (oform ⟨kk, ka, km, kb, kn, kl⟩) [.bool true, .string ⟨#[]⟩, .slice (some ⟨q, 0, none⟩) 4 4] from bag_fk (hbag9'.out.keep (w' := z10) (fun b h1 h2 => hb10'.block b h2) hb10'.size) (by simp))
          clear hb10'
          refine ⟨(hSiH.out _).2 e10.out, ?_⟩
          go_wp2_with fail
          refine ⟨(hSiH.out _).2 ⟨cell_alloc e10.out.1 _, (heap_alloc_lt _ _ _ (heap_lt e10.out.2.1)).trans e10.out.2.1, (heap_alloc_lt _ _ _ (heap_lt e10.out.2.2)).trans e10.out.2.2⟩, ?_⟩
          have hvb := lh (show ∀ b, v2.ownBlock = some b -> w7.heap.size <= b /\ b < wb.heap.size from fun b hb => hbagO.out.lt b hb)
          have x10 := lh (show Below wb.heap.size wb z10 from hbc.out.trans (y10.out.mono hbc.out.size))
          have hbagZ := lh (hbagO.out.keep (w' := z10) (fun b h1 h2 => x10.out.block b h2) x10.out.size)
          have hlen := lh (show ((ops.take j).map oform).length = j from by rw [List.length_map, List.length_take]; have := hno.out; omega)
          have h7b := lh (show w7.heap.size <= wb.heap.size from hTO.out.size)
          have hG10 := lh (show FC (fun b => w7.heap.size <= b /\ b < z10.heap.size /\ some b ≠ v2.ownBlock) z10 [oform ⟨kk, ka, km, kb, kn, kl⟩] [.bool true, .string ⟨#[]⟩, .slice (some ⟨q, 0, none⟩) 4 4] from ⟨_, _, _, [], rfl, FK.move (fun b ⟨h1, h2⟩ => ⟨⟨Nat.le_trans h7b.out h1, h2, fun e => by have := (hvb.out b e.symm).2; omega⟩, rfl⟩) _ _ hF10.out, rfl⟩)
          go_wp2_with (at_builtin; refine bag_app (by rfl) _ _ _ (by rfl) Tryz.underlying72 (by rfl) j 1 1 (by rfl) (by rfl) hbagZ.out hG10.out hlen.out (by rfl) (by omega) (by omega) (Nat.le_trans h7b.out x10.out.size) ?_; intro g7 cap7 z12 hbag12 hgrew12)
          have hf7s := heap_lt hf7.out
          have hnb := lh (show ∀ b, b < w7.heap.size -> some b ≠ v2.ownBlock from fun b hb e => by have := (hvb.out _ e.symm).1; omega)
          have hnw := lh (show ∀ b, wb.heap.size <= b -> some b ≠ v2.ownBlock from fun b hb e => by have := (hvb.out _ e.symm).2; omega)
          have e12 := lh (show _ /\ _ /\ _ from ⟨hgrew12.cell e10.out.1 (hnb.out f2 hf7s), hgrew12.heap e10.out.2.1 (hnw.out u (by rw [hu.out]; exact Nat.le_refl _)), hgrew12.heap e10.out.2.2 (hnw.out f3 (by have := huf.out; have := hu.out; omega))⟩)
          have hf12 := hgrew12.heap ((x10.out.block _ (heap_lt hfb2H.out)).trans hfb2H.out) (hnb.out f2 hf7s)
          refine ⟨(hSiH.out _).2 e12.out, ?_⟩
          repeat (go_big_quiet_step (fail))
          refine wpQuiet_nil ?_
          have ee12 : z12.cell? ⟨f2, 2, none⟩ = some v2 := e12.out.1
          have zz12 : z12.frozen? ⟨f2, 2, none⟩ = false := fr_of hf12 2
          have hf12H := lh hf12
          have hbag12H := lh hbag12
          have hgrew12H := lh hgrew12
          clear hf12 hbag12 hgrew12 hf7s
          go_wp2_with fail
          simp only [stepPost]
          go_wp2_with fail
          go_roundg (no - (j + 1))
          case measure => omega
          case rel =>
           refine ⟨j + 1, .slice (some ⟨g7, 0, none⟩) (j + 1) cap7, rfl, by omega, by go_num, heap_set _ _ _ _ _ _ _ hf12H.out, ?_, ?_⟩
           . rw [hnext2.out]
             exact hbag12H.out.keep (fun b h1 h2 => heap_set_ne _ _ _ _ (by show b ≠ f2; have := hs7.out; omega)) (by rw [size_set]; exact Nat.le_refl _)
           . exact (hgrew12H.out.tch (hTO.out.trans (Tch.of_new x10.out)) (fun b hb => (hvb.out b hb).1)).setCell ⟨f2, 2, none⟩ (fun _ => rfl) _
     . have hjn' : j = no := by omega
       subst hjn'
       have hji : ¬ (j : Int) < (j : Int) := by omega
       have ht : ops.take j = ops := List.take_of_length_le (by rw [<- hno.out]; exact Nat.le_refl _)
       rw [ht] at hbagO
       clear ht hbag
       obtain ⟨Ao, co, hv, _⟩ := hbagO.out.form
       obtain ⟨nvo, hnvo⟩ : ∃ nvo, nvo = (ops.map oform).length := ⟨_, rfl⟩
       rw [<- hnvo] at hv
       replace hnvo := lh hnvo
       subst hv
       have hRO := lh (hTc.heap hR7.out (show ¬ g + 1 = f2 by have := hff.out; have := hgf.out; omega))
       have hFO := lh (hTc.heap hF7.out (show ¬ f = f2 by have := hff.out; omega))
       have hFd := lh (show FK (fun b => g + 2 <= b /\ b < wr.heap.size) wr (tform deps) [.bool true, .string ⟨#[]⟩, .slice Av nv cv] from by
        have h := bag_fk hbag6.out (by unfold lhave; rw [List.length_map]; have := hszs.out.2.1; omega)
        refine FK.move (fun b ⟨h1, h2⟩ => ⟨⟨by have := hs4.out; have := hgf.out; omega, by have := hf2.out; have := hs7.out; have := hTc.size; omega⟩, (hTc.block b (by have := hf2.out; have := hs7.out; omega) (fun e => by have := hf2.out; omega)).trans (by rw [hw7.out]; exact heap_alloc_lt _ _ _ h2)⟩) _ _ h)
       have hFo := lh (show FK (fun b => g + 2 <= b /\ b < wr.heap.size) wr (lst (ops.map oform)) [.bool true, .string ⟨#[]⟩, .slice Ao nvo co] from fk_lower (bag_fk hbagO.out (by rw [List.length_map]; have := hszs.out.2.2.1; omega)) (by have := hs7.out; have := hff.out; have := hgf.out; omega))
       obtain ⟨S, hS⟩ : ∃ S : World -> Prop, S = fun W => W.heap[f]? = some (.cells #[.bool true, .string ⟨#[]⟩, .slice Av nv cv] 74 (0, 0)) /\ W.heap[f2]? = some (.cells #[.bool true, .string ⟨#[]⟩, .slice Ao nvo co] 74 (0, 0)) /\ PatAt W g note D k dc A j ac := ⟨_, rfl⟩
       have hSi : ∀ W, S W ↔ (W.heap[f]? = some (.cells #[.bool true, .string ⟨#[]⟩, .slice Av nv cv] 74 (0, 0)) /\ W.heap[f2]? = some (.cells #[.bool true, .string ⟨#[]⟩, .slice Ao nvo co] 74 (0, 0)) /\ PatAt W g note D k dc A j ac) := fun W => by rw [hS]
       have hS0 : S wr.drew := (hSi _).2 ⟨hFO.out, hfb2H.out, hPO.out⟩
       have s1 : ∀ X : InS S, X.val.cell? ⟨f, 0, none⟩ = some (.bool true) := fun X => (blk3' ((hSi X.val).1 X.mem).1).1
       have s2 : ∀ X : InS S, X.val.cell? ⟨f, 1, none⟩ = some (.string ⟨#[]⟩) := fun X => (blk3' ((hSi X.val).1 X.mem).1).2.1
       have s3 : ∀ X : InS S, X.val.cell? ⟨f, 2, none⟩ = some (.slice Av nv cv) := fun X => (blk3' ((hSi X.val).1 X.mem).1).2.2.1
       have s4 : ∀ X : InS S, X.val.cell? ⟨f2, 0, none⟩ = some (.bool true) := fun X => (blk3' ((hSi X.val).1 X.mem).2.1).1
       have s5 : ∀ X : InS S, X.val.cell? ⟨f2, 1, none⟩ = some (.string ⟨#[]⟩) := fun X => (blk3' ((hSi X.val).1 X.mem).2.1).2.1
       have s6 : ∀ X : InS S, X.val.cell? ⟨f2, 2, none⟩ = some (.slice Ao nvo co) := fun X => (blk3' ((hSi X.val).1 X.mem).2.1).2.2.1
       have s7 : ∀ X : InS S, X.val.cell? ⟨g, 0, none⟩ = some (.string note) := fun X => (blk3' ((hSi X.val).1 X.mem).2.2).1
       have hne : Nonempty (InS S) := ⟨⟨wr.drew, hS0⟩⟩
       have hS0H := lh hS0
       have hSiH := lh hSi
       clear hS hSi hS0 hfb2 hTc
       go_upto_region 17 with fail
       clear p0 p1 p2
       refine wp_region_mix S [1, 2, 4, 5] [.mem [1, 2, 4, 5], .keep 0, .keep 3, .keep 6, .keep 7, .last 8] (by kernel_rfl) (by kernel_rfl) hS0H.out ?_
       simp only [pick, List.getD_cons_zero, List.getD_cons_succ, wpMix]
       repeat (go_big_quiet_step (fail))
       refine wpQuiet_nil ?_
       clear s1 s2 s3 s4 s5 s6 s7
       have e1 := lh ((hSiH.out _).1 hS0H.out)
       have y1 := lh (show Below wr.heap.size wr wr.drew from (Below.refl _ _).drew)
       go_wp2_with (go_at_call 88; (with_reducible refine (rtext_c _ _).mono ?_); rintro ev z5 ⟨rfl, hb5'⟩)
       have y5 := lh (y1.out.trans (hb5'.mono y1.out.size))
       have e5 := lh (show _ /\ _ /\ PatAt z5 g note D k dc A j ac from ⟨(hb5'.block _ (heap_lt e1.out.1)).trans e1.out.1, (hb5'.block _ (heap_lt e1.out.2.1)).trans e1.out.2.1, (hb5'.block _ (heap_lt e1.out.2.2)).trans e1.out.2.2⟩)
       clear hb5'
       unfold vtext
       refine ⟨(hSiH.out _).2 e5.out, ?_⟩
       go_wp2_with (go_at_call 88; (with_reducible refine (rtext_c _ _).mono ?_); rintro ev z6 ⟨rfl, hb6'⟩)
       have y6 := lh (y5.out.trans (hb6'.mono y5.out.size))
       have e6 := lh (show _ /\ _ /\ PatAt z6 g note D k dc A j ac from ⟨(hb6'.block _ (heap_lt e5.out.1)).trans e5.out.1, (hb6'.block _ (heap_lt e5.out.2.1)).trans e5.out.2.1, (hb6'.block _ (heap_lt e5.out.2.2)).trans e5.out.2.2⟩)
       clear hb6'
       unfold vtext
       refine ⟨(hSiH.out _).2 e6.out, ?_⟩
       go_wp2_with fail
       obtain ⟨q, hq⟩ : ∃ q, q = z6.heap.size := ⟨_, rfl⟩
       obtain ⟨z7, hz7⟩ : ∃ z7, z7 = z6.alloc (.cells #[.bool false, .string ⟨#[116, 97, 109, 98, 111, 117, 114]⟩, .slice none 0 0, .bool false, .string note, .slice none 0 0, .bool true, .string ⟨#[]⟩, .slice Av nv cv, .bool true, .string ⟨#[]⟩, .slice Ao nvo co] 74) := ⟨_, rfl⟩
       have hg2r := lh (show g + 2 <= wr.heap.size from heap_lt hRO.out)
       have hbagZ := lh (show Bag (g + 2) z7 (.slice (some ⟨q, 0, none⟩) 4 4) [txt tambourB.data.toList, txt note.data.toList, tform deps, lst (ops.map oform)] by
        rw [hz7, hq]
        exact Bag.built (G := [txt tambourB.data.toList, txt note.data.toList, tform deps, lst (ops.map oform)]) (fc_four (FK.text _ _ tambourB) (FK.text _ _ note) (fk_keep hFd.out y6.out) (fk_keep hFo.out y6.out)) (Nat.le_trans hg2r.out y6.out.size) (by show 4 <= 1000000000; omega))
       have y7 := lh (show Below wr.heap.size wr z7 by rw [hz7]; exact y6.out.alloc y6.out.size _)
       have e7 := lh (show z7.heap[f]? = some (.cells #[.bool true, .string ⟨#[]⟩, .slice Av nv cv] 74 (0, 0)) /\ z7.heap[f2]? = some (.cells #[.bool true, .string ⟨#[]⟩, .slice Ao nvo co] 74 (0, 0)) /\ PatAt z7 g note D k dc A j ac by unfold PatAt; rw [hz7]; exact ⟨(heap_alloc_lt _ _ _ (heap_lt e6.out.1)).trans e6.out.1, (heap_alloc_lt _ _ _ (heap_lt e6.out.2.1)).trans e6.out.2.1, (heap_alloc_lt _ _ _ (heap_lt e6.out.2.2)).trans e6.out.2.2⟩)
       rw [<- hz7, <- hq]
       replace hz7 := lh hz7
       replace hq := lh hq
       refine ⟨(hSiH.out _).2 e7.out, ?_⟩
       go_wp2_with (go_at_call 87; (with_reducible refine (rlist_c _ _ _ _).mono ?_); rintro ev z8 ⟨rfl, hb8'⟩)
       unfold vlist
       have y8 := lh (y7.out.trans (hb8'.mono y7.out.size))
       have e8 := lh (show _ /\ _ /\ PatAt z8 g note D k dc A j ac from ⟨(hb8'.block _ (heap_lt e7.out.1)).trans e7.out.1, (hb8'.block _ (heap_lt e7.out.2.1)).trans e7.out.2.1, (hb8'.block _ (heap_lt e7.out.2.2)).trans e7.out.2.2⟩)
       have hF8' := lh (bag_fk (hbagZ.out.keep (w' := z8) (fun b h1 h2 => hb8'.block b h2) hb8'.size) (by simp))
       have hR8 := (y8.out.block _ (heap_lt hRO.out)).trans hRO.out
       have hR8H := lh hR8
       obtain ⟨c0, c1, c2, csh, cfz⟩ := blk3' hR8
       clear hb8' hR8
       refine ⟨(hSiH.out _).2 e8.out, ?_⟩
       go_wp2_with fail
       simp only [stepPost]
       go_wp2_with fail
       (try simp only [Exit.inBlock, Exit.then])
       refine bodyPost_ret (results_cell_row rfl _ _ (g + 1) 74 #[.bool true, .string ⟨#[]⟩, .slice (some ⟨q, 0, none⟩) 4 4] (0, 0) _ rfl (set3 hR8H.out) Tryz.underlying74 rfl (by kernel_rfl)) rfl ?_
       refine ⟨_, _, _, rfl, ?_, ?_⟩
       . refine FK.move (fun b ⟨h1, h2⟩ => ⟨⟨by have := hgw.out; omega, by rw [size_set, size_set, size_set]; exact h2⟩, ?_⟩) _ _ hF8'.out
         rw [heap_set_ne _ _ _ _ (by show b ≠ g + 1; omega), heap_set_ne _ _ _ _ (by show b ≠ g + 1; omega), heap_set_ne _ _ _ _ (by show b ≠ g + 1; omega)]
       . have hx := hbrO.out.trans (y8.out.mono hbrO.out.size)
         have hgg : w.heap.size <= g + 1 := by have := hgw.out; omega
         exact ((hx.setCell hgg _).setCell hgg _).setCell hgg _
end Go.Proofs.YtbiioaggilaebaaGreatDoor.Pa
namespace Go.Proofs.YtbiioaggilaebaaGreatDoor.Pa
open Go Go.RowKit YtbiioaggilaebaaGreatDoorW.PrintWords B Tm Wi
theorem tch_bel {w w1 : World} (h : Tch (fun _ => False) w w1) : Below w.heap.size w w1 := h.below (Nat.le_refl _) (fun _ h => h.elim)
def pname (note : ByteArray) (deps : List ByteArray) (ops : List Op) : ByteArray := ⟨(Sha.nameL (pbytes note deps ops)).toArray⟩
def nmOf (note : ByteArray) (deps : List ByteArray) (ops : List Op) : Value :=
 if pright note deps ops then .tuple #[.string (pname note deps ops), .nilIface] else .tuple #[.string ⟨#[]⟩, .iface 54 (.int .i64 10)]
theorem pright_len {note : ByteArray} {deps : List ByteArray} {ops : List Op} (h : pright note deps ops = true) : (pbytes note deps ops).length <= 65536 := by
 unfold pright at h
 simp only [Bool.and_eq_true, decide_eq_true_eq] at h
 exact h.2
theorem pname_c (note : ByteArray) (D : Option Addr) (dc : Nat) (deps : List ByteArray) (A : Option Addr) (ac : Nat) (ops : List Op) (w : World) (hD : TxAt w D dc deps) (hO : OpsAt w A ac ops) (htab : Tab w) (hgB : 2 < w.heap.size) :
 Calls Tryz.prog 11 #[.agg #[.string note, .slice D deps.length dc, .slice A ops.length ac]] w fun e w' => e = .returned (nmOf note deps ops) /\ Below w.heap.size w w' := by
 obtain ⟨w1, hw1⟩ : ∃ w1, w1 = w.alloc (.cells #[.string note, .slice D deps.length dc, .slice A ops.length ac] 25) := ⟨_, rfl⟩
 have hb1 := lh (show Below w.heap.size w w1 by rw [hw1]; exact Wi.below_alloc _ _)
 have hP1 : w1.heap[w.heap.size]? = some (.cells #[.string note, .slice D deps.length dc, .slice A ops.length ac] 25 (0, 0)) := by rw [hw1]; exact heap_alloc_at _ _
 have CW := pwrite_c note D dc deps A ac ops w1 (hD.below hb1.out) (hO.below hb1.out) (htab.keep hb1.out hgB) (Nat.lt_of_lt_of_le hgB hb1.out.size)
 obtain ⟨R, hR⟩ : ∃ R, R = nmOf note deps ops := ⟨_, rfl⟩
 rw [<- hR]
 obtain ⟨nd, hnd⟩ : ∃ nd, nd = deps.length := ⟨_, rfl⟩
 obtain ⟨no, hno⟩ : ∃ no, no = ops.length := ⟨_, rfl⟩
 rw [<- hnd, <- hno] at hw1 hP1 CW ⊢
 replace hnd := lh hnd
 replace hno := lh hno
 obtain ⟨p0, p1, p2, _, _⟩ := blk3' hP1
 clear hD hO htab hgB hP1
 unfold nmOf at hR
 unfold wrOf at CW
 cases hr : pright note deps ops with
 | false =>
  rw [hr] at CW hR
  simp only [Bool.false_eq_true, if_false] at CW hR
  replace CW := lh CW
  replace hR := lh hR
  clear hr
  go_enter Tryz.func11, Tryz.ntmps11
  go_upto_region 1 with fail
  rw [<- hw1]
  replace hw1 := lh hw1
  go_wp2_with fail
  refine (CW.out).mono ?_
  rintro ev w2 ⟨rfl, hb2⟩
  replace hb2 := lh (hb1.out.trans (hb2.mono hb1.out.size))
  go_wp2_with fail
  go_ret2
  exact ⟨by rw [hR.out]; rfl, hb2.out⟩
 | true =>
  rw [hr] at CW hR
  simp only [if_true] at CW hR
  obtain ⟨s, hs⟩ : ∃ s : ByteArray, s = ⟨(pbytes note deps ops).toArray⟩ := ⟨_, rfl⟩
  rw [<- hs] at CW
  have hsl : s.data.toList = pbytes note deps ops := by rw [hs]
  have hss : s.size <= 65536 := by rw [<- toList_size, hsl]; exact pright_len hr
  have CN := fun W => lh (Sha.Name_any s (by omega) W)
  have hnm : (⟨(Sha.nameL s.data.toList).toArray⟩ : ByteArray) = pname note deps ops := by rw [hsl]; rfl
  rw [hnm] at CN
  replace CW := lh CW
  replace hR := lh hR
  replace hs := lh hs
  clear hr hsl hss hnm
  generalize pname note deps ops = nm at *
  go_enter Tryz.func11, Tryz.ntmps11
  go_upto_region 1 with fail
  rw [<- hw1]
  replace hw1 := lh hw1
  go_wp2_with fail
  refine (CW.out).mono ?_
  rintro ev w2 ⟨rfl, hb2⟩
  replace hb2 := lh (hb1.out.trans (hb2.mono hb1.out.size))
  go_wp2_with fail
  refine ((CN w2).out).mono ?_
  rintro ev w3 ⟨rfl, ht⟩
  have hb3 := lh (hb2.out.trans ((tch_bel ht).mono hb2.out.size))
  clear ht
  go_wp2_with fail
  go_ret2
  exact ⟨by rw [hR.out]; rfl, hb3.out⟩
theorem pright_c (note : ByteArray) (D : Option Addr) (dc : Nat) (deps : List ByteArray) (A : Option Addr) (ac : Nat) (ops : List Op) (w : World) (hD : TxAt w D dc deps) (hO : OpsAt w A ac ops) (htab : Tab w) (hgB : 2 < w.heap.size) :
 Calls Tryz.prog 19 #[.agg #[.string note, .slice D deps.length dc, .slice A ops.length ac]] w fun e w' => e = .returned (.bool (pright note deps ops)) /\ Below w.heap.size w w' := by
 obtain ⟨w1, hw1⟩ : ∃ w1, w1 = w.alloc (.cells #[.string note, .slice D deps.length dc, .slice A ops.length ac] 25) := ⟨_, rfl⟩
 have hb1 := lh (show Below w.heap.size w w1 by rw [hw1]; exact Wi.below_alloc _ _)
 have hP1 : w1.heap[w.heap.size]? = some (.cells #[.string note, .slice D deps.length dc, .slice A ops.length ac] 25 (0, 0)) := by rw [hw1]; exact heap_alloc_at _ _
 have CW := pwrite_c note D dc deps A ac ops w1 (hD.below hb1.out) (hO.below hb1.out) (htab.keep hb1.out hgB) (Nat.lt_of_lt_of_le hgB hb1.out.size)
 obtain ⟨nd, hnd⟩ : ∃ nd, nd = deps.length := ⟨_, rfl⟩
 obtain ⟨no, hno⟩ : ∃ no, no = ops.length := ⟨_, rfl⟩
 rw [<- hnd, <- hno] at hw1 hP1 CW ⊢
 replace hnd := lh hnd
 replace hno := lh hno
 obtain ⟨p0, p1, p2, _, _⟩ := blk3' hP1
 clear hD hO htab hgB hP1
 unfold wrOf at CW
 generalize pbytes note deps ops = bs at *
 cases hr : pright note deps ops with
 | false =>
  rw [hr] at CW
  simp only [Bool.false_eq_true, if_false] at CW
  replace CW := lh CW
  clear hr
  go_enter Tryz.func19, Tryz.ntmps19
  go_upto_region 1 with fail
  rw [<- hw1]
  replace hw1 := lh hw1
  go_wp2_with fail
  refine (CW.out).mono ?_
  rintro ev w2 ⟨rfl, hb2⟩
  replace hb2 := lh (hb1.out.trans (hb2.mono hb1.out.size))
  go_wp2_with fail
  go_ret
  exact ⟨rfl, hb2.out⟩
 | true =>
  rw [hr] at CW
  simp only [if_true] at CW
  generalize (⟨bs.toArray⟩ : ByteArray) = s at *
  replace CW := lh CW
  clear hr
  go_enter Tryz.func19, Tryz.ntmps19
  go_upto_region 1 with fail
  rw [<- hw1]
  replace hw1 := lh hw1
  go_wp2_with fail
  refine (CW.out).mono ?_
  rintro ev w2 ⟨rfl, hb2⟩
  replace hb2 := lh (hb1.out.trans (hb2.mono hb1.out.size))
  go_wp2_with fail
  go_ret
  exact ⟨rfl, hb2.out⟩
end Go.Proofs.YtbiioaggilaebaaGreatDoor.Pa
