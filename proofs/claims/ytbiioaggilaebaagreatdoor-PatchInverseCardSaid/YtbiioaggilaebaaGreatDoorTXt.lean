/- What LawPatchInverse lean on, part t of 29: the texts PaI. -/
import Derived.Test.YtbiioaggilaebaaGreatDoorTX0
import Derived.Test.YtbiioaggilaebaaGreatDoorTXk
import Derived.Test.YtbiioaggilaebaaGreatDoorTXs
set_option linter.all false
set_option maxRecDepth 100000
set_option maxHeartbeats 16000000
namespace Go.Proofs.YtbiioaggilaebaaGreatDoor.Pa
open Go Go.RowKit YtbiioaggilaebaaGreatDoorW.PrintWords B Tm Wi
theorem LForm.fk {base : Nat} {w : World} {v : Value} {l : List F} (h : LForm base w v l) (hl : l.length <= 140737488355328) : ∃ A n c, v = .agg #[.bool true, .string ⟨#[]⟩, .slice A n c] /\ FK (fun b => base <= b /\ b < w.heap.size) w (lst l) [.bool true, .string ⟨#[]⟩, .slice A n c] := by
 obtain ⟨u, rfl, hb⟩ := h
 obtain ⟨A, c, rfl, h1, h2, h3⟩ := hb.form
 refine ⟨A, l.length, c, rfl, ?_⟩
 unfold lst FK
 exact ⟨A, c, rfl, h1, hl, h3⟩
theorem fk_keep {base : Nat} {w w' : World} {f : F} {cs : List Value} (h : FK (fun b => base <= b /\ b < w.heap.size) w f cs) (hb : Below w.heap.size w w') : FK (fun b => base <= b /\ b < w'.heap.size) w' f cs :=
 FK.move (fun b ⟨h1, h2⟩ => ⟨⟨h1, Nat.lt_of_lt_of_le h2 hb.size⟩, hb.block b h2⟩) _ _ h
theorem omap_take (l : List Op) (k : Nat) (o : Op) (h : l[k]? = some o) : (l.take (k + 1)).map oform = (l.take k).map oform ++ [oform o] := by
 rw [List.take_add_one, h, Option.toList_some, List.map_append]
 rfl
theorem fc_four {ok : Nat -> Prop} {w : World} {f1 f2 f3 f4 : F} {a0 a1 a2 b0 b1 b2 c0 c1 c2 d0 d1 d2 : Value} (h1 : FK ok w f1 [a0, a1, a2]) (h2 : FK ok w f2 [b0, b1, b2]) (h3 : FK ok w f3 [c0, c1, c2]) (h4 : FK ok w f4 [d0, d1, d2]) :
 FC ok w [f1, f2, f3, f4] [a0, a1, a2, b0, b1, b2, c0, c1, c2, d0, d1, d2] := ⟨_, _, _, _, rfl, h1, _, _, _, _, rfl, h2, _, _, _, _, rfl, h3, _, _, _, _, rfl, h4, rfl⟩
theorem fk_num {ok : Nat -> Prop} {w : World} (x : Int) : FK ok w (nform x) [.bool false, .string ⟨(Lib.itoa x).toArray⟩, .slice none 0 0] := by
 have := FK.text ok w (⟨(Lib.itoa x).toArray⟩ : ByteArray)
 unfold nform
 simpa using this
theorem bag_fk {base : Nat} {w : World} {A : Option Addr} {n c : Nat} {l : List F} (h : Bag base w (.slice A n c) l) (hl : l.length <= 140737488355328) : FK (fun b => base <= b /\ b < w.heap.size) w (lst l) [.bool true, .string ⟨#[]⟩, .slice A n c] := by
 obtain ⟨A', c', e, h1, h2, h3⟩ := h.form
 injection e with e1 e2 e3
 subst e1 e2 e3
 unfold lst FK
 exact ⟨_, _, rfl, h1, hl, h3⟩
theorem fk_lower {base base' : Nat} {w : World} {f : F} {cs : List Value} (h : FK (fun b => base <= b /\ b < w.heap.size) w f cs) (hb : base' <= base) : FK (fun b => base' <= b /\ b < w.heap.size) w f cs :=
 FK.move (fun b ⟨h1, h2⟩ => ⟨⟨Nat.le_trans hb h1, h2⟩, rfl⟩) _ _ h
def wrOf (note : ByteArray) (deps : List ByteArray) (ops : List Op) : Value :=
 if pright note deps ops then .tuple #[.string ⟨(pbytes note deps ops).toArray⟩, .nilIface] else .tuple #[.string ⟨#[]⟩, .iface 54 (.int .i64 10)]
def PatAt (W : World) (g : Nat) (note : ByteArray) (D : Option Addr) (nd dc : Nat) (A : Option Addr) (no ac : Nat) : Prop := W.heap[g]? = some (.cells #[.string note, .slice D nd dc, .slice A no ac] 25 (0, 0))
theorem pwrite_c (note : ByteArray) (D : Option Addr) (dc : Nat) (deps : List ByteArray) (A : Option Addr) (ac : Nat) (ops : List Op) (w : World) (hD : TxAt w D dc deps) (hO : OpsAt w A ac ops) (htab : Tab w) (hgB : 2 < w.heap.size) :
 Calls Tryz.prog 15 #[.agg #[.string note, .slice D deps.length dc, .slice A ops.length ac]] w fun e w' => e = .returned (wrOf note deps ops) /\ Below w.heap.size w w' := by
 obtain ⟨g, hg⟩ : ∃ g, g = w.heap.size := ⟨_, rfl⟩
 obtain ⟨w1, hw1⟩ : ∃ w1, w1 = w.alloc (.cells #[.string note, .slice D deps.length dc, .slice A ops.length ac] 25) := ⟨_, rfl⟩
 have hb1 := lh (show Below w.heap.size w w1 by rw [hw1]; exact Wi.below_alloc _ _)
 have hP1 : PatAt w1 g note D deps.length dc A ops.length ac := by unfold PatAt; rw [hw1, hg]; exact heap_alloc_at _ _
 obtain ⟨R, hR⟩ : ∃ R, R = wrOf note deps ops := ⟨_, rfl⟩
 rw [<- hR]
 have CF := lh (fits_c note D dc deps A ac ops w1 (hD.below hb1.out) (hO.below hb1.out))
 have hDH := lh hD
 have hOH := lh hO
 have htabH := lh htab
 have hgBH := lh hgB
 obtain ⟨nd, hnd⟩ : ∃ nd, nd = deps.length := ⟨_, rfl⟩
 obtain ⟨no, hno⟩ : ∃ no, no = ops.length := ⟨_, rfl⟩
 rw [<- hnd, <- hno] at hw1 hP1 CF ⊢
 have hgw := lh (show w.heap.size <= g by rw [hg]; exact Nat.le_refl _)
 clear hD hO htab hgB
 replace hnd := lh hnd
 replace hno := lh hno
 obtain ⟨p0, p1, p2, _, _⟩ := blk3' hP1
 replace hP1 := lh hP1
 have C0 := lh (fun W => list_c none 0 0 W)
 go_enter Tryz.func15, Tryz.ntmps15
 go_upto_region 1 with fail
 rw [<- hw1, <- hg]
 replace hw1 := lh hw1
 replace hg := lh hg
 go_wp2_with fail
 refine (CF.out).mono ?_
 rintro ev w2 ⟨rfl, hb⟩
 have hb2 := lh (hb1.out.trans (hb.mono hb1.out.size))
 have hP2 := lh (show PatAt w2 g note D nd dc A no ac from (hb.block _ (heap_lt hP1.out)).trans hP1.out)
 clear hb p0 p1 p2 CF
 cases hfit : pfits note deps ops with
 | false =>
  have hRv : R = .tuple #[.string ⟨#[]⟩, .iface 54 (.int .i64 10)] := by rw [hR]; unfold wrOf pright; rw [hfit]; rfl
  clear hfit hR
  replace hRv := lh hRv
  go_wp2_with fail
  go_ret2
  exact ⟨by rw [hRv.out]; rfl, hb2.out⟩
 | true =>
  replace hR := lh hR
  have hfitH := lh hfit
  have hop5 := lh (fun o ho => pfits_op hfit o ho)
  have hszs := lh (show note.size <= 100 /\ deps.length <= 64 /\ ops.length <= 400 by
   unfold pfits at hfit
   simp only [Bool.and_eq_true, decide_eq_true_eq] at hfit
   exact hfit.1)
  have hplen := lh (pbytes_len hfit)
  clear hfit
  have hno4 : no <= 400 := by rw [hno.out]; exact hszs.out.2.2
  go_upto_region 3 with fail
  go_wp2_with fail
  refine (C0.out w2).mono ?_
  rintro ev w3 ⟨rfl, hb⟩
  unfold vlist
  have hb3 := lh (hb2.out.trans (hb.mono hb2.out.size))
  have hP3 := lh (show PatAt w3 g note D nd dc A no ac from (hb.block _ (heap_lt hP2.out)).trans hP2.out)
  clear hb
  obtain ⟨f, hf⟩ : ∃ f, f = w3.heap.size := ⟨_, rfl⟩
  obtain ⟨w4, hw4⟩ : ∃ w4, w4 = w3.alloc (.cells #[.bool true, .string ⟨#[]⟩, .slice none 0 0] 74) := ⟨_, rfl⟩
  have hf4 := lh (show w4.heap[f]? = some (.cells #[.bool true, .string ⟨#[]⟩, .slice none 0 0] 74 (0, 0)) by rw [hw4, hf]; exact heap_alloc_at _ _)
  have hs4 := lh (show w4.heap.size = f + 1 by rw [hw4, hf]; simp)
  have hP4 := lh (show PatAt w4 g note D nd dc A no ac by unfold PatAt; rw [hw4]; exact (heap_alloc_lt _ _ _ (heap_lt hP3.out)).trans hP3.out)
  have hb4 := lh (show Below w.heap.size w w4 by rw [hw4]; exact hb3.out.alloc hb3.out.size _)
  have hgf := lh (show g < f by rw [hf]; exact heap_lt hP3.out)
  obtain ⟨p0, p1, p2, _, _⟩ := blk3' hP3.out
  go_upto_region 4 with fail
  rw [<- hw4, <- hf]
  replace hw4 := lh hw4
  replace hf := lh hf
  clear p0 p1 p2
  obtain ⟨p0, p1, p2, _, _⟩ := blk3' hP4.out
  go_upto_region 5 with fail
  clear p0 p1 p2
  go_loopg [17] no (fun g' i W => ∃ (k : Nat) (v : Value), g' = no - k /\ k <= no /\ i = .int .i64 k /\ W.heap[f]? = some (.cells #[.bool true, .string ⟨#[]⟩, v] 74 (0, 0)) /\ Bag w4.heap.size W v ((ops.take k).map oform) /\ Tch (fun b => b = f) w4 W)
  case atStart => exact ⟨0, .slice none 0 0, rfl, by omega, rfl, hf4.out, Bag.nil _ _, Tch.refl _ _⟩
  case round =>
   obtain ⟨k, v, hg', hk, rfl, hfb, hbag, hTc⟩ := hrel
   subst hg'
   have hfbH := lh hfb
   have hbag2 := lh hbag
   have hT2 := lh hTc
   have hbr := lh (show Below w.heap.size w wr from hb4.out.trans (hTc.below (B := w.heap.size) hb4.out.size (fun k hk _ => by subst hk; have := hgf.out; have := hgw.out; omega)))
   have hPr := lh (show PatAt wr g note D nd dc A no ac from hTc.heap hP4.out (show ¬ g = f by have := hgf.out; omega))
   clear hbag hTc
   by_cases hkn : k < no
   . have hki : (k : Int) < (no : Int) := by omega
     obtain ⟨⟨kk, ka, km, kb, kn, kl⟩, ho⟩ : ∃ o, ops[k]? = some o := ⟨ops[k]'(by rw [<- hno.out]; exact hkn), List.getElem?_eq_getElem _⟩
     obtain ⟨⟨x1, x2⟩, ⟨⟨x3, x4⟩, x5, x6⟩, ⟨⟨x7, x8⟩, x9, x10⟩, _, hkl⟩ := hop5.out _ (List.mem_of_getElem? ho)
     simp only at x1 x2 x3 x4 x5 x6 x7 x8 x9 x10 hkl
     have hkl3 := lh (show kl.length <= 100000000 by
      have h1 := (hOH.out.below hbr.out).get k _ ho
      have h2 := made_step ops k _ ho
      have h3 := made_take ops (k + 1)
      have h4 := hplen.out
      have h5 : made ops <= 300 := by
       have := hfitH.out
       unfold pfits at this
       simp only [Bool.and_eq_true, decide_eq_true_eq] at this
       exact this.2.2.2
      have h6 : kl.length = mk1 ⟨kk, ka, km, kb, kn, kl⟩ := hkl
      omega)
     obtain ⟨b, of, L, cl, hAe, o0, o1, o2, o3, o4, o5, hT⟩ := (hOH.out.below hbr.out).get k _ ho
     subst hAe
     have hTH := lh hT
     have hnext := lh (omap_take ops k _ ho)
     have hkkb := lh (show -1000000 <= kk /\ kk <= 1000000 by omega)
     have hkab := lh (show -1000000 <= ka /\ ka <= 1000000 by omega)
     have hkmb := lh (show -1000000 <= km /\ km <= 1000000 by omega)
     have hkbb := lh (show -1000000 <= kb /\ kb <= 1000000 by omega)
     have hknb := lh (show -1000000 <= kn /\ kn <= 1000000 by omega)
     clear x1 x2 x3 x4 x5 x6 x7 x8 x9 x10 hkl ho hT
     obtain ⟨nl, hnl⟩ : ∃ nl, nl = kl.length := ⟨_, rfl⟩
     have o5' : wr.cell? ⟨b, of + k * 6 + 5, none⟩ = some (.slice L nl cl) := by rw [hnl]; exact o5
     replace hnl := lh hnl
     clear o5
     obtain ⟨u, hu⟩ : ∃ u, u = wr.heap.size := ⟨_, rfl⟩
     obtain ⟨w5, hw5⟩ : ∃ w5, w5 = wr.alloc (.cells #[.int .i64 kk, .int .i64 ka, .int .i64 km, .int .i64 kb, .int .i64 kn, .slice L nl cl] 38) := ⟨_, rfl⟩
     have hU5 := lh (show w5.heap[u]? = some (.cells #[.int .i64 kk, .int .i64 ka, .int .i64 km, .int .i64 kb, .int .i64 kn, .slice L nl cl] 38 (0, 0)) by rw [hw5, hu]; exact heap_alloc_at _ _)
     have hbr5 := lh (show Below wr.heap.size wr w5 by rw [hw5]; exact Wi.below_alloc _ _)
     have hfb5 := lh (show w5.heap[f]? = some (.cells #[.bool true, .string ⟨#[]⟩, v] 74 (0, 0)) by rw [hw5]; exact (heap_alloc_lt _ _ _ (heap_lt hfbH.out)).trans hfbH.out)
     have hb5 := lh (hbr.out.trans (hbr5.out.mono hbr.out.size))
     have hs5 := lh (show w5.heap.size = u + 1 by rw [hw5, hu]; simp)
     obtain ⟨p0, p1, p2, _, _⟩ := blk3' hPr.out
     go_upto_region 7 with fail
     rw [<- hw5, <- hu]
     replace hw5 := lh hw5
     replace hu := lh hu
     clear p0 p1 p2 o0 o1 o2 o3 o4 o5'
     have hq2 : w5.cell? ⟨f, 2, none⟩ = some v := by rw [cell_of hfb5.out]; rfl
     obtain ⟨u0, u1, u2, u3, u4, u5, _, _⟩ := six_facts hU5.out
     obtain ⟨S, hS⟩ : ∃ S : World -> Prop, S = fun W => W.cell? ⟨f, 2, none⟩ = some v /\ W.heap[u]? = some (.cells #[.int .i64 kk, .int .i64 ka, .int .i64 km, .int .i64 kb, .int .i64 kn, .slice L nl cl] 38 (0, 0)) := ⟨_, rfl⟩
     have hSi : ∀ W, S W ↔ (W.cell? ⟨f, 2, none⟩ = some v /\ W.heap[u]? = some (.cells #[.int .i64 kk, .int .i64 ka, .int .i64 km, .int .i64 kb, .int .i64 kn, .slice L nl cl] 38 (0, 0))) := fun W => by rw [hS]
     have hS0 : S w5.drew := (hSi _).2 ⟨hq2, hU5.out⟩
     have s1 : ∀ X : InS S, X.val.cell? ⟨f, 2, none⟩ = some v := fun X => ((hSi X.val).1 X.mem).1
     have s2 : ∀ X : InS S, X.val.cell? ⟨u, 0, none⟩ = some (.int .i64 kk) := fun X => (six_facts ((hSi X.val).1 X.mem).2).1
     have s3 : ∀ X : InS S, X.val.cell? ⟨u, 1, none⟩ = some (.int .i64 ka) := fun X => (six_facts ((hSi X.val).1 X.mem).2).2.1
     have s4 : ∀ X : InS S, X.val.cell? ⟨u, 2, none⟩ = some (.int .i64 km) := fun X => (six_facts ((hSi X.val).1 X.mem).2).2.2.1
     have s5 : ∀ X : InS S, X.val.cell? ⟨u, 3, none⟩ = some (.int .i64 kb) := fun X => (six_facts ((hSi X.val).1 X.mem).2).2.2.2.1
     have s6 : ∀ X : InS S, X.val.cell? ⟨u, 4, none⟩ = some (.int .i64 kn) := fun X => (six_facts ((hSi X.val).1 X.mem).2).2.2.2.2.1
     have s7 : ∀ X : InS S, X.val.cell? ⟨u, 5, none⟩ = some (.slice L nl cl) := fun X => (six_facts ((hSi X.val).1 X.mem).2).2.2.2.2.2.1
     have hne : Nonempty (InS S) := ⟨⟨w5.drew, hS0⟩⟩
     have hS0H := lh hS0
     have hSiH := lh hSi
     clear hS hSi hS0 hfb hq2 u0 u1 u2 u3 u4 u5
     refine wp_region_mix S [0, 1, 2, 3, 5, 6, 8, 9, 11, 12] [.mem [0, 1, 2, 3, 5, 6, 8, 9, 11, 12], .keep 4, .keep 7, .keep 10, .keep 13, .keep 14, .keep 15, .keep 16, .keep 17, .pure [18], .last 19] (by kernel_rfl) (by kernel_rfl) hS0H.out ?_
     simp only [pick, List.getD_cons_zero, List.getD_cons_succ, wpMix]
     repeat (go_big_quiet_step (fail))
     refine wpQuiet_nil ?_
     clear s1 s2 s3 s4 s5 s6 s7
     have d5 := lh ((hSiH.out _).1 hS0H.out)
     have y5 := lh (show Below w5.heap.size w5 w5.drew from (Below.refl _ _).drew)
     have hT5 := lh (fun W (h : Below w5.heap.size w5 W) => htabH.out.keep (hb5.out.trans (h.mono hb5.out.size)) hgBH.out)
     have hg5 := lh (fun W (h : Below w5.heap.size w5 W) => Nat.lt_of_lt_of_le hgBH.out (Nat.le_trans hb5.out.size h.size))
     go_wp2_with (go_at_call 42; (with_reducible refine (numi_c kk (by have := hkkb.out; omega) (by have := hkkb.out; omega) _ (hT5.out _ y5.out)).mono ?_); rintro ev w6 ⟨rfl, hb6⟩)
     have y6 := lh (y5.out.trans (hb6.mono y5.out.size))
     have d6 := lh (show _ /\ _ from ⟨keepc hb6 d5.out.1, (hb6.block _ (heap_lt d5.out.2)).trans d5.out.2⟩)
     clear hb6
     unfold vtext
     refine ⟨(hSiH.out _).2 d6.out, ?_⟩
     go_wp2_with (go_at_call 43; (with_reducible refine (pref_c ka km _ (hT5.out _ y6.out) (hg5.out _ y6.out) hkab.out hkmb.out).mono ?_); rintro ev w7 ⟨v7, rfl, hl7, hb7⟩)
     obtain ⟨A7, n7, c7, rfl, hF7⟩ := hl7.fk (by simp)
     have y7 := lh (y6.out.trans (hb7.mono y6.out.size))
     have d7 := lh (show _ /\ _ from ⟨keepc hb7 d6.out.1, (hb7.block _ (heap_lt d6.out.2)).trans d6.out.2⟩)
     replace hF7 := lh (fk_lower hF7 y6.out.size)
     clear hb7 hl7
     refine ⟨(hSiH.out _).2 d7.out, ?_⟩
     go_wp2_with (go_at_call 43; (with_reducible refine (pref_c kb kn _ (hT5.out _ y7.out) (hg5.out _ y7.out) hkbb.out hknb.out).mono ?_); rintro ev w8 ⟨v8, rfl, hl8, hb8⟩)
     obtain ⟨A8, n8, c8, rfl, hF8⟩ := hl8.fk (by simp)
     have y8 := lh (y7.out.trans (hb8.mono y7.out.size))
     have d8 := lh (show _ /\ _ from ⟨keepc hb8 d7.out.1, (hb8.block _ (heap_lt d7.out.2)).trans d7.out.2⟩)
     replace hF7 := lh (fk_keep hF7.out hb8)
     replace hF8 := lh (fk_lower hF8 y7.out.size)
     clear hb8 hl8
     refine ⟨(hSiH.out _).2 d8.out, ?_⟩
     have CX := lh (show Calls Tryz.prog 44 #[.slice L nl cl] w8 _ from by
      have := texts_c L cl kl w8 ((hTH.out.below hbr5.out).below y8.out) hkl3.out
      rw [<- hnl.out] at this
      exact this)
     go_wp2_with (go_at_call 44; (with_reducible refine (CX.out).mono ?_); rintro ev w9 ⟨v9, rfl, hl9, hb9⟩)
     clear CX
     obtain ⟨A9, n9, c9, rfl, hF9⟩ := hl9.fk (by unfold lhave; rw [List.length_map]; have := hkl3.out; omega)
     have y9 := lh (y8.out.trans (hb9.mono y8.out.size))
     have d9 := lh (show _ /\ _ from ⟨keepc hb9 d8.out.1, (hb9.block _ (heap_lt d8.out.2)).trans d8.out.2⟩)
     replace hF7 := lh (fk_keep hF7.out hb9)
     replace hF8 := lh (fk_keep hF8.out hb9)
     replace hF9 := lh (fk_lower hF9 y8.out.size)
     clear hb9 hl9
     refine ⟨(hSiH.out _).2 d9.out, ?_⟩
     go_wp2_with fail
     obtain ⟨q, hq⟩ : ∃ q, q = w9.heap.size := ⟨_, rfl⟩
     obtain ⟨w10, hw10⟩ : ∃ w10, w10 = w9.alloc (.cells #[.bool false, .string ⟨(Lib.itoa kk).toArray⟩, .slice none 0 0, .bool true, .string ⟨#[]⟩, .slice A7 n7 c7, .bool true, .string ⟨#[]⟩, .slice A8 n8 c8, .bool true, .string ⟨#[]⟩, .slice A9 n9 c9] 74) := ⟨_, rfl⟩
     have hbag10 := lh (show Bag w5.heap.size w10 (.slice (some ⟨q, 0, none⟩) 4 4) [nform kk, rform ka km, rform kb kn, tform kl] by
      rw [hw10, hq]
      exact Bag.built (G := [nform kk, rform ka km, rform kb kn, tform kl]) (fc_four (fk_num kk) hF7.out hF8.out hF9.out) y9.out.size (by show 4 <= 1000000000; omega))
     have y10 := lh (show Below w5.heap.size w5 w10 by rw [hw10]; exact y9.out.alloc y9.out.size _)
     have d10 := lh (show w10.cell? ⟨f, 2, none⟩ = some v /\ w10.heap[u]? = some (.cells #[.int .i64 kk, .int .i64 ka, .int .i64 km, .int .i64 kb, .int .i64 kn, .slice L nl cl] 38 (0, 0)) by rw [hw10]; exact ⟨cell_alloc d9.out.1 _, (heap_alloc_lt _ _ _ (heap_lt d9.out.2)).trans d9.out.2⟩)
     rw [<- hw10, <- hq]
     replace hw10 := lh hw10
     replace hq := lh hq
     clear hF7 hF8 hF9
     refine ⟨(hSiH.out _).2 d10.out, ?_⟩
     go_wp2_with (go_at_call 41; (with_reducible refine (list_c _ _ _ _).mono ?_); rintro ev w11 ⟨rfl, hb11⟩)
     unfold vlist
     have y11 := lh (y10.out.trans (hb11.mono y10.out.size))
     have d11 := lh (show _ /\ _ from ⟨keepc hb11 d10.out.1, (hb11.block _ (heap_lt d10.out.2)).trans d10.out.2⟩)
     have hF11 := lh (show FK (fun b => w5.heap.size <= b /\ b < w11.heap.size) w11 (oform ⟨kk, ka, km, kb, kn, kl⟩) [.bool true, .string ⟨#[]⟩, .slice (some ⟨q, 0, none⟩) 4 4] by
      obtain ⟨A', n', c', e, h⟩ := LForm.fk (l := [nform kk, rform ka km, rform kb kn, tform kl]) ⟨_, rfl, hbag10.out.keep (w' := w11) (fun b h1 h2 => hb11.block b h2) hb11.size⟩ (by simp)
      rw [<- (by injection e with e; exact (List.cons.inj (List.cons.inj (List.cons.inj (congrArg Array.toList e)).2).2).1 : Value.slice (some ⟨q, 0, none⟩) 4 4 = Value.slice A' n' c')] at h
      exact h)
     clear hb11
     refine ⟨(hSiH.out _).2 d11.out, ?_⟩
     go_wp2_with fail
     refine ⟨(hSiH.out _).2 ⟨cell_alloc d11.out.1 _, (heap_alloc_lt _ _ _ (heap_lt d11.out.2)).trans d11.out.2⟩, ?_⟩
     have hvb := lh (show ∀ b, v.ownBlock = some b -> w4.heap.size <= b /\ b < wr.heap.size from fun b hb => hbag2.out.lt b hb)
     have z11 := lh (show Below wr.heap.size wr w11 from hbr5.out.trans (y11.out.mono hbr5.out.size))
     have hbag11 := lh (hbag2.out.keep (w' := w11) (fun b h1 h2 => z11.out.block b h2) z11.out.size)
     have hlen := lh (show ((ops.take k).map oform).length = k from by rw [List.length_map, List.length_take]; have := hno.out; omega)
     have h45 := lh (show w4.heap.size <= w5.heap.size from Nat.le_trans hT2.out.size hbr5.out.size)
     have hG11 := lh (show FC (fun b => w4.heap.size <= b /\ b < w11.heap.size /\ some b ≠ v.ownBlock) w11 [oform ⟨kk, ka, km, kb, kn, kl⟩] [.bool true, .string ⟨#[]⟩, .slice (some ⟨q, 0, none⟩) 4 4] from ⟨_, _, _, [], rfl, FK.move (fun b ⟨h1, h2⟩ => ⟨⟨Nat.le_trans h45.out h1, h2, fun e => by have := (hvb.out b e.symm).2; have := hbr5.out.size; omega⟩, rfl⟩) _ _ hF11.out, rfl⟩)
     go_wp2_with (at_builtin; refine bag_app (by rfl) _ _ _ (by rfl) Tryz.underlying72 (by rfl) k 1 1 (by rfl) (by rfl) hbag11.out hG11.out hlen.out (by rfl) (by omega) (by omega) (Nat.le_trans hT2.out.size z11.out.size) ?_; intro g7 cap7 w12 hbag12 hgrew12)
     have hf4s := heap_lt hf4.out
     have hnb := lh (show ∀ b, b < w4.heap.size -> some b ≠ v.ownBlock from fun b hb e => by have := (hbag2.out.lt _ e.symm).1; omega)
     have hub := lh (show some u ≠ v.ownBlock from fun e => by have := (hvb.out u e.symm).2; have := hu.out; omega)
     have d12 := lh (show _ /\ _ from ⟨hgrew12.cell d11.out.1 (hnb.out f hf4s), hgrew12.heap d11.out.2 hub.out⟩)
     have hf12 := hgrew12.heap ((z11.out.block _ (heap_lt hfbH.out)).trans hfbH.out) (hnb.out f hf4s)
     refine ⟨(hSiH.out _).2 d12.out, ?_⟩
     repeat (go_big_quiet_step (fail))
     refine wpQuiet_nil ?_
     have e12 : w12.cell? ⟨f, 2, none⟩ = some v := d12.out.1
     have z12 : w12.frozen? ⟨f, 2, none⟩ = false := fr_of hf12 2
     have hf12H := lh hf12
     have hbag12H := lh hbag12
     have hgrew12H := lh hgrew12
     clear hf12 hbag12 hgrew12 hf4s
     go_wp2_with fail
     simp only [stepPost]
     go_wp2_with fail
     go_roundg (no - (k + 1))
     case measure => omega
     case rel =>
      refine ⟨k + 1, .slice (some ⟨g7, 0, none⟩) (k + 1) cap7, rfl, by omega, by go_num, heap_set _ _ _ _ _ _ _ hf12H.out, ?_, ?_⟩
      . rw [hnext.out]
        exact hbag12H.out.keep (fun b h1 h2 => heap_set_ne _ _ _ _ (by show b ≠ f; have := hs4.out; omega)) (by rw [size_set]; exact Nat.le_refl _)
      . exact (hgrew12H.out.tch (hT2.out.trans (Tch.of_new z11.out)) (fun b hb => (hbag2.out.lt b hb).1)).setCell ⟨f, 2, none⟩ (fun _ => rfl) _
   . have hkn' : k = no := by omega
     subst hkn'
     have hki : ¬ (k : Int) < (k : Int) := by omega
     have ht : ops.take k = ops := List.take_of_length_le (by rw [<- hno.out]; exact Nat.le_refl _)
     rw [ht] at hbag2
     clear ht
     obtain ⟨Av, cv, hv, _⟩ := hbag2.out.form
     obtain ⟨nv, hnv⟩ : ∃ nv, nv = (ops.map oform).length := ⟨_, rfl⟩
     rw [<- hnv] at hv
     replace hnv := lh hnv
     subst hv
     have hFr := lh (bag_fk hbag2.out (by rw [List.length_map]; have := hszs.out.2.2; omega))
     obtain ⟨r0, r1, r2, _, _⟩ := blk3' hfb
     obtain ⟨p0, p1, p2, _, _⟩ := blk3' hPr.out
     obtain ⟨S, hS⟩ : ∃ S : World -> Prop, S = fun W => W.heap[f]? = some (.cells #[.bool true, .string ⟨#[]⟩, .slice Av nv cv] 74 (0, 0)) /\ PatAt W g note D nd dc A k ac := ⟨_, rfl⟩
     have hSi : ∀ W, S W ↔ (W.heap[f]? = some (.cells #[.bool true, .string ⟨#[]⟩, .slice Av nv cv] 74 (0, 0)) /\ PatAt W g note D nd dc A k ac) := fun W => by rw [hS]
     have hS0 : S wr.drew := (hSi _).2 ⟨hfbH.out, hPr.out⟩
     have s1 : ∀ X : InS S, X.val.cell? ⟨f, 0, none⟩ = some (.bool true) := fun X => (blk3' ((hSi X.val).1 X.mem).1).1
     have s2 : ∀ X : InS S, X.val.cell? ⟨f, 1, none⟩ = some (.string ⟨#[]⟩) := fun X => (blk3' ((hSi X.val).1 X.mem).1).2.1
     have s3 : ∀ X : InS S, X.val.cell? ⟨f, 2, none⟩ = some (.slice Av nv cv) := fun X => (blk3' ((hSi X.val).1 X.mem).1).2.2.1
     have s4 : ∀ X : InS S, X.val.cell? ⟨g, 0, none⟩ = some (.string note) := fun X => (blk3' ((hSi X.val).1 X.mem).2).1
     have s5 : ∀ X : InS S, X.val.cell? ⟨g, 1, none⟩ = some (.slice D nd dc) := fun X => (blk3' ((hSi X.val).1 X.mem).2).2.1
     have hne : Nonempty (InS S) := ⟨⟨wr.drew, hS0⟩⟩
     have hS0H := lh hS0
     have hSiH := lh hSi
     clear hS hSi hS0 hfb
     go_upto_region 9 with fail
     clear r0 r1 r2 p0 p1 p2
     refine wp_region_mix S [1, 2, 4, 5, 7] [.mem [1, 2, 4, 5, 7], .keep 0, .keep 3, .keep 6, .keep 8, .keep 9, .keep 10, .pure [11, 12, 13, 14, 15]] (by kernel_rfl) (by kernel_rfl) hS0H.out ?_
     simp only [pick, List.getD_cons_zero, List.getD_cons_succ, wpMix]
     repeat (go_big_quiet_step (fail))
     refine wpQuiet_nil ?_
     clear s1 s2 s3 s4 s5
     have d1 := lh ((hSiH.out _).1 hS0H.out)
     have y1 := lh (show Below wr.heap.size wr wr.drew from (Below.refl _ _).drew)
     go_wp2_with (go_at_call 46; (with_reducible refine (text_c _ _).mono ?_); rintro ev w5 ⟨rfl, hb5⟩)
     have y5 := lh (y1.out.trans (hb5.mono y1.out.size))
     have d5 := lh (show _ /\ PatAt w5 g note D nd dc A k ac from ⟨(hb5.block _ (heap_lt d1.out.1)).trans d1.out.1, (hb5.block _ (heap_lt d1.out.2)).trans d1.out.2⟩)
     clear hb5
     unfold vtext
     refine ⟨(hSiH.out _).2 d5.out, ?_⟩
     go_wp2_with (go_at_call 46; (with_reducible refine (text_c _ _).mono ?_); rintro ev w6 ⟨rfl, hb6⟩)
     have y6 := lh (y5.out.trans (hb6.mono y5.out.size))
     have d6 := lh (show _ /\ PatAt w6 g note D nd dc A k ac from ⟨(hb6.block _ (heap_lt d5.out.1)).trans d5.out.1, (hb6.block _ (heap_lt d5.out.2)).trans d5.out.2⟩)
     clear hb6
     unfold vtext
     refine ⟨(hSiH.out _).2 d6.out, ?_⟩
     have CX := lh (show Calls Tryz.prog 44 #[.slice D nd dc] w6 _ from by
      have := texts_c D dc deps w6 (hDH.out.below (hbr.out.trans (y6.out.mono hbr.out.size))) (by have := hszs.out.2.1; omega)
      rw [<- hnd.out] at this
      exact this)
     go_wp2_with (go_at_call 44; (with_reducible refine (CX.out).mono ?_); rintro ev w7 ⟨v7, rfl, hl7, hb7⟩)
     clear CX
     obtain ⟨A7, n7, c7, rfl, hF7⟩ := hl7.fk (by unfold lhave; rw [List.length_map]; have := hszs.out.2.1; omega)
     have y7 := lh (y6.out.trans (hb7.mono y6.out.size))
     have d7 := lh (show _ /\ PatAt w7 g note D nd dc A k ac from ⟨(hb7.block _ (heap_lt d6.out.1)).trans d6.out.1, (hb7.block _ (heap_lt d6.out.2)).trans d6.out.2⟩)
     have h4r := lh (show w4.heap.size <= wr.heap.size from hT2.out.size)
     replace hF7 := lh (fk_lower hF7 (Nat.le_trans h4r.out y6.out.size))
     have hFo := lh (fk_keep hFr.out y7.out)
     clear hb7 hl7
     refine ⟨(hSiH.out _).2 d7.out, ?_⟩
     go_wp2_with fail
     obtain ⟨q, hq⟩ : ∃ q, q = w7.heap.size := ⟨_, rfl⟩
     obtain ⟨w8, hw8⟩ : ∃ w8, w8 = w7.alloc (.cells #[.bool false, .string ⟨#[116, 97, 109, 98, 111, 117, 114]⟩, .slice none 0 0, .bool false, .string note, .slice none 0 0, .bool true, .string ⟨#[]⟩, .slice A7 n7 c7, .bool true, .string ⟨#[]⟩, .slice Av nv cv] 74) := ⟨_, rfl⟩
     have hbag8 := lh (show Bag w4.heap.size w8 (.slice (some ⟨q, 0, none⟩) 4 4) [txt tambourB.data.toList, txt note.data.toList, tform deps, lst (ops.map oform)] by
      rw [hw8, hq]
      exact Bag.built (G := [txt tambourB.data.toList, txt note.data.toList, tform deps, lst (ops.map oform)]) (fc_four (FK.text _ _ tambourB) (FK.text _ _ note) hF7.out hFo.out) (Nat.le_trans h4r.out y7.out.size) (by show 4 <= 1000000000; omega))
     have y8 := lh (show Below wr.heap.size wr w8 by rw [hw8]; exact y7.out.alloc y7.out.size _)
     have d8 := lh (show w8.heap[f]? = some (.cells #[.bool true, .string ⟨#[]⟩, .slice Av nv cv] 74 (0, 0)) /\ PatAt w8 g note D nd dc A k ac by unfold PatAt; rw [hw8]; exact ⟨(heap_alloc_lt _ _ _ (heap_lt d7.out.1)).trans d7.out.1, (heap_alloc_lt _ _ _ (heap_lt d7.out.2)).trans d7.out.2⟩)
     rw [<- hw8, <- hq]
     replace hw8 := lh hw8
     replace hq := lh hq
     clear hF7 hFo
     refine ⟨(hSiH.out _).2 d8.out, ?_⟩
     go_wp2_with (go_at_call 41; (with_reducible refine (list_c _ _ _ _).mono ?_); rintro ev w9 ⟨rfl, hb9⟩)
     unfold vlist
     have y9 := lh (y8.out.trans (hb9.mono y8.out.size))
     have d9 := lh (show _ /\ PatAt w9 g note D nd dc A k ac from ⟨(hb9.block _ (heap_lt d8.out.1)).trans d8.out.1, (hb9.block _ (heap_lt d8.out.2)).trans d8.out.2⟩)
     have hF9 := bag_fk (hbag8.out.keep (w' := w9) (fun b h1 h2 => hb9.block b h2) hb9.size) (by simp)
     have hV9 : FV w9.heap.size w9 (pform note deps ops) [.bool true, .string ⟨#[]⟩, .slice (some ⟨q, 0, none⟩) 4 4] := FK.toFV (fun b ⟨_, h⟩ => h) _ _ hF9
     have x9 := hbr.out.trans (y9.out.mono hbr.out.size)
     have CWo := lh (fun h => write_any (pform note deps ops) _ _ _ w9 hV9 (pform_right _ _ _) (by have := pform_depth note deps ops; omega) h (htabH.out.keep x9 hgBH.out) (Nat.lt_of_lt_of_le hgBH.out x9.size))
     have CWb := lh (fun h => write_big (pform note deps ops) _ _ _ w9 hV9 (pform_right _ _ _) (by have := pform_depth note deps ops; omega) h (by have : (pform note deps ops).bytes.length <= 300000 := hplen.out; omega) (htabH.out.keep x9 hgBH.out) (Nat.lt_of_lt_of_le hgBH.out x9.size))
     have x9H := lh x9
     clear hb9 hF9 hV9 x9
     refine ⟨(hSiH.out _).2 d9.out, ?_⟩
     by_cases hsz : (pform note deps ops).bytes.length <= 65536
     . have hRv : R = .tuple #[.string ⟨(pform note deps ops).bytes.toArray⟩, .nilIface] := by
        rw [hR.out]; unfold wrOf pright pbytes; rw [hfitH.out, decide_eq_true hsz]; rfl
       have CW := lh (CWo.out hsz)
       replace hRv := lh hRv
       clear hsz CWo CWb
       obtain ⟨tx, htx⟩ : ∃ tx : ByteArray, tx = ⟨(pform note deps ops).bytes.toArray⟩ := ⟨_, rfl⟩
       rw [<- htx] at CW hRv
       replace htx := lh htx
       go_wp2_with (go_at_call 45; (with_reducible refine (CW.out).mono ?_); rintro ev w10 ⟨rfl, hb10⟩)
       have d10 := lh (show _ /\ PatAt w10 g note D nd dc A k ac from ⟨(hb10.block _ (heap_lt d9.out.1)).trans d9.out.1, (hb10.block _ (heap_lt d9.out.2)).trans d9.out.2⟩)
       have x10 := lh (x9H.out.trans (hb10.mono x9H.out.size))
       clear hb10
       refine ⟨(hSiH.out _).2 d10.out, ?_⟩
       repeat (go_big_quiet_step (fail))
       refine wpQuiet_nil ?_
       go_wp2_with fail
       go_ret2
       exact ⟨by rw [hRv.out]; rfl, x10.out⟩
     . have hRv : R = .tuple #[.string ⟨#[]⟩, .iface 54 (.int .i64 10)] := by
        rw [hR.out]; unfold wrOf pright pbytes; rw [hfitH.out, decide_eq_false hsz]; rfl
       have CW := lh (CWb.out (by omega))
       replace hRv := lh hRv
       clear hsz CWo CWb
       go_wp2_with (go_at_call 45; (with_reducible refine (CW.out).mono ?_); rintro ev w10 ⟨rfl, hb10⟩)
       have d10 := lh (show _ /\ PatAt w10 g note D nd dc A k ac from ⟨(hb10.block _ (heap_lt d9.out.1)).trans d9.out.1, (hb10.block _ (heap_lt d9.out.2)).trans d9.out.2⟩)
       have x10 := lh (x9H.out.trans (hb10.mono x9H.out.size))
       clear hb10
       refine ⟨(hSiH.out _).2 d10.out, ?_⟩
       repeat (go_big_quiet_step (fail))
       refine wpQuiet_nil ?_
       go_wp2_with fail
       go_ret2
       exact ⟨by rw [hRv.out]; rfl, x10.out⟩
end Go.Proofs.YtbiioaggilaebaaGreatDoor.Pa
