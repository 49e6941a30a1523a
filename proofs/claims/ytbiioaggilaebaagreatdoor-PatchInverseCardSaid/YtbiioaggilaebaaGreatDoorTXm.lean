/- What LawPatchInverse lean on, part m of 29: the texts TmJ, Pbottomx1, Ptopx1, Popx2, RefR. -/
import Derived.Test.YtbiioaggilaebaaGreatDoorTX0
import Derived.Test.YtbiioaggilaebaaGreatDoorTXb
import Derived.Test.YtbiioaggilaebaaGreatDoorTXj
import Derived.Test.YtbiioaggilaebaaGreatDoorTXl
import Derived.Deep.DeepFit
import Derived.Deep.RegionHeld3
import Derived.Deep.QuietTactic
import Derived.BigQuiet
set_option linter.all false
set_option maxRecDepth 100000
set_option maxHeartbeats 16000000
namespace Go.Proofs.YtbiioaggilaebaaGreatDoor.Tm
open Go Go.RowKit B Bld Sha
theorem infoF : ∃ i, Tryz.prog.info? 74 = some i /\ i.zero = some (.agg #[.bool false, .string ⟨#[]⟩, .slice none 0 0]) /\ i.size = 3 /\ i.bytes = 48 := by
 have h : (Tryz.prog.info? 74).map (fun i => (i.zero, i.size, i.bytes)) = some (some (.agg #[.bool false, .string ⟨#[]⟩, .slice none 0 0]), 3, 48) := by kernel_rfl
 match hi : Tryz.prog.info? 74, h with
 | some i, h =>
  simp only [Option.map_some, Option.some.injEq, Prod.mk.injEq] at h
  exact ⟨i, rfl, h.1, h.2.1, h.2.2⟩
def ItemAt (g deep : Nat) : Prop := ∀ (s : ByteArray) (w : World), RdAt w g s -> s.size <= 65536 -> Calls Tryz.prog 93 #[.pointer (some ⟨g, 0, none⟩), .int .i64 deep] w (ItemPost g deep s w)
def ItRel (g deep : Nat) (s1 : List UInt8) (w : World) (W : World) (L : List F) (v : Value) (r : ByteArray) : Prop :=
 RdAt W g r /\ W.heap[w.heap.size]? = some (.cells #[.bool false, .string ⟨#[]⟩, .slice none 0 0] 74 (0, 0)) /\
 W.heap[w.heap.size + 1]? = some (.cells #[.bool true, .string ⟨#[]⟩, v] 74 (0, 0)) /\ Bag (w.heap.size + 2) W v L /\ LoopSpec deep s1 L r.data.toList /\ Tch (fun k => k = g) w W
theorem size_alloc (w : World) (o : Obj) : (w.alloc o).heap.size = w.heap.size + 1 := by simp
theorem blk3 {X : World} {b : Nat} {x y z : Value} {t : TypeId} (h : X.heap[b]? = some (.cells #[x, y, z] t (0, 0))) :
 X.cell? ⟨b, 0, none⟩ = some x /\ X.cell? ⟨b, 1, none⟩ = some y /\ X.cell? ⟨b, 2, none⟩ = some z /\ X.shape? b = some (t, 3) /\ ∀ i, X.frozen? ⟨b, i, none⟩ = false :=
 ⟨by rw [cell_of h]; rfl, by rw [cell_of h]; rfl, by rw [cell_of h]; rfl, by simp [World.shape?, h], fr_of h⟩
theorem itemPost_no {g deep : Nat} {s r : ByteArray} {w W : World} (hg : g < w.heap.size) (hr : RdAt W g r) (hsp : ItemSpec deep s.data.toList (.mk false [] []) false r.data.toList) (ht : Tch (fun k => k = g) w W) (x y z : Value) :
 ItemPost g deep s w (.returned (.tuple #[.agg #[.bool false, .string ⟨#[]⟩, .slice none 0 0], .bool false])) (((W.setCell ⟨w.heap.size, 0, none⟩ x).setCell ⟨w.heap.size, 1, none⟩ y).setCell ⟨w.heap.size, 2, none⟩ z) := by
 refine ⟨.mk false [] [], _, _, _, false, r, rfl, FK.text _ _ ⟨#[]⟩, ?_, hsp, tch_set3 ht (Nat.le_refl _) _ _ _⟩
 unfold RdAt
 rw [set3_ne (by omega)]
 exact hr
theorem item_list_c (g deep : Nat) (hd9 : deep <= 8) (ih : deep < 8 -> ItemAt g (deep + 1)) (s : ByteArray) (w : World) (hg : RdAt w g s) (hs : s.size <= 65536) (h0 : s.data.toList[0]? = some 40) :
 Calls Tryz.prog 93 #[.pointer (some ⟨g, 0, none⟩), .int .i64 deep] w (ItemPost g deep s w) := by
 have hs1 : 1 <= s.size := by
  rw [<- toList_size]
  have := (List.getElem?_eq_some_iff.1 h0).1
  omega
 obtain ⟨s1, hs1e⟩ : ∃ s1, s.data.toList = 40 :: s1 := by
  generalize s.data.toList = l at *
  cases l with
  | nil => cases h0
  | cons a l =>
   simp only [List.getElem?_cons_zero, Option.some.injEq] at h0
   exact ⟨l, by rw [h0]⟩
 have hs1i : (1 : Int) <= (s.size : Int) := by omega
 have hgl := heap_lt hg
 obtain ⟨w0, hw0⟩ : ∃ w0, w0 = w.alloc (.cells #[.bool false, .string ⟨#[]⟩, .slice none 0 0] 74) := ⟨_, rfl⟩
 have hsz0 : w0.heap.size = w.heap.size + 1 := by rw [hw0]; simp
 have hg0 : RdAt w0 g s := by rw [hw0]; unfold RdAt; rw [heap_alloc_lt _ _ _ hgl]; exact hg
 have hr0 : w0.heap[w.heap.size]? = some (.cells #[.bool false, .string ⟨#[]⟩, .slice none 0 0] 74 (0, 0)) := by rw [hw0]; exact heap_alloc_at _ _
 have ht0 : Tch (fun k => k = g) w w0 := by rw [hw0]; exact (Tch.refl _ _).alloc _
 obtain ⟨w1, hw1⟩ : ∃ w1, w1 = w0.alloc (.cells #[.bool true, .string ⟨#[]⟩, .slice none 0 0] 74) := ⟨_, rfl⟩
 have hsz1 : w1.heap.size = w.heap.size + 2 := by rw [hw1]; simp [hsz0]
 have hg1 : RdAt w1 g s := by rw [hw1]; unfold RdAt; rw [heap_alloc_lt _ _ _ (heap_lt hg0)]; exact hg0
 have hr1 : w1.heap[w.heap.size]? = some (.cells #[.bool false, .string ⟨#[]⟩, .slice none 0 0] 74 (0, 0)) := by rw [hw1, heap_alloc_lt _ _ _ (heap_lt hr0)]; exact hr0
 have hf1 : w1.heap[w.heap.size + 1]? = some (.cells #[.bool true, .string ⟨#[]⟩, .slice none 0 0] 74 (0, 0)) := by rw [hw1, <- hsz0]; exact heap_alloc_at _ _
 have ht1 : Tch (fun k => k = g) w w1 := by rw [hw1]; exact ht0.alloc _
 have hc0 : w0.cell? ⟨g, 0, none⟩ = some (.string s) := by rw [cell_of hg0]; rfl
 have hc1 : w1.cell? ⟨g, 0, none⟩ = some (.string s) := by rw [cell_of hg1]; rfl
 have hz1 : w1.frozen? ⟨g, 0, none⟩ = false := fr_of hg1 0
 have CP := Tryz.strings_HasPrefix s ⟨#[40]⟩ w0
 have hpre : Lib.hasPrefix s.data.toList (⟨#[40]⟩ : ByteArray).data.toList = true := by
  show [40].isPrefixOf s.data.toList = true
  rw [hs1e]
  simp [List.isPrefixOf]
 rw [hpre] at CP
 have CPH := lh CP
 have hrel0 : ItRel g deep s1 w (w1.setCell ⟨g, 0, none⟩ (.string (s.extract 1 s.size))) [] (.slice none 0 0) (s.extract 1 s.size) := by
  have hne1 : w.heap.size ≠ g := by omega
  have hne2 : w.heap.size + 1 ≠ g := by omega
  refine ⟨rdAt_set hg1 _, by rw [heap_set_ne _ _ _ _ hne1]; exact hr1, by rw [heap_set_ne _ _ _ _ hne2]; exact hf1, Bag.nil _ _, ?_, ht1.setCell ⟨g, 0, none⟩ (fun _ => rfl) _⟩
  rw [extract_toList, hs1e]
  exact loop_zero deep s1
 have hrel0H := lh hrel0
 have hsx : (s.extract 1 s.size).size = s.size - 1 := by rw [<- toList_size, extract_toList, List.length_drop, toList_size]
 have hsxH := lh hsx
 replace hgl := lh hgl
 replace hs1e := lh hs1e
 replace hs := lh hs
 have ihH := lh ih
 have hsz0H := lh hsz0
 clear hrel0 hsx CP hpre hg hg0 hg1 hr0 hr1 hf1 ht0 ht1 hsz1 h0 ih hsz0
 go_enter Tryz.func93, Tryz.ntmps93
 go_upto_region 1 with fail
 rw [<- hw0]
 replace hw0 := lh hw0
 go_wp2_with fail
 refine (CPH.out).mono ?_
 rintro ev w2 ⟨rfl, rfl⟩
 go_upto_region 3 with fail
 rw [hsz0H.out, <- hw1]
 replace hw1 := lh hw1
 go_wp2_with fail
 go_loopg [] (s.size - 1) (fun g' W => ∃ L v r, g' = r.size /\ ItRel g deep s1 w W L v r)
 case atStart => exact ⟨[], .slice none 0 0, s.extract 1 s.size, by rw [hsxH.out], hrel0H.out⟩
 case round =>
  obtain ⟨L, v, r, hgk, hR⟩ := hrel
  have hrg := hR.1
  have hblk := hR.2.1
  have hfb := hR.2.2.1
  have hlp := hR.2.2.2.2.1
  have hT := hR.2.2.2.2.2
  obtain ⟨k0, k1, k2, hsh, hfz⟩ := blk3 hblk
  obtain ⟨f0, f1, f2, _, hfzf⟩ := blk3 hfb
  have cg : wr.cell? ⟨g, 0, none⟩ = some (.string r) := by rw [cell_of hrg]; rfl
  have zg : wr.frozen? ⟨g, 0, none⟩ = false := fr_of hrg 0
  have hRH := lh hR
  replace hgk := lh hgk
  replace hrg := lh hrg
  replace hblk := lh hblk
  replace hfb := lh hfb
  replace hlp := lh hlp
  replace hT := lh hT
  clear hR
  by_cases hd8 : deep < 8
  . have hd8i : (deep : Int) < 8 := by omega
    by_cases hr0 : r.size = 0
    . have hre : r.toList = [] := by rw [ByteArray.toList_eq]; exact List.eq_nil_of_length_eq_zero (by rw [toList_size]; exact hr0)
      have hsp := lh (item_stop hlp.out (.inr (List.eq_nil_of_length_eq_zero (by rw [toList_size]; exact hr0))) (.mk false [] []))
      rw [<- hs1e.out] at hsp
      go_wp2_with fail
      (try simp only [Exit.inBlock, Exit.then])
      refine bodyPost_ret (results_cell_tmp rfl _ _ w.heap.size 74 #[.bool false, .string ⟨#[]⟩, .slice none 0 0] (0, 0) _ rfl (set3 hblk.out) Tryz.underlying74 rfl (by kernel_rfl) _ rfl) rfl ?_
      exact itemPost_no hgl.out hrg.out hsp.out hT.out _ _ _
    . have hre1 : ¬ r.toList = [] := by
       rw [ByteArray.toList_eq]
       intro e
       exact hr0 (by rw [<- toList_size, e]; rfl)
      have hre2 : r.toList.isEmpty = false := by simpa using hre1
      have hrp : 0 < r.size := by omega
      have hrpi : (0 : Int) < (r.size : Int) := by omega
      obtain ⟨a, ha⟩ : ∃ a, a = r[0]'hrp := ⟨_, rfl⟩
      have hl0 : r.data.toList[0]? = some a := by rw [ha, Array.getElem?_toList, Array.getElem?_eq_getElem hrp]; rfl
      by_cases h41 : a = 41
      . have q41 : (((r[0]'hrp).toNat : Int) == 41) = true := by rw [<- ha, h41]; rfl
        obtain ⟨A, c, rfl, hLc, hcm, hks⟩ := hRH.out.2.2.2.1.form
        have hr41 : r.data.toList = 41 :: r.data.toList.drop 1 := by
         rw [h41] at hl0
         generalize r.data.toList = q at *
         cases q with
         | nil => cases hl0
         | cons x q =>
          simp only [List.getElem?_cons_zero, Option.some.injEq] at hl0
          rw [hl0]; rfl
        have hl1 := hlp.out
        rw [hr41] at hl1
        have hLb : L.length <= 65536 := by
         have h1 := hl1.1.1
         have h2 := hs.out
         rw [<- toList_size, hs1e.out] at h2
         simp only [List.length_cons] at h1 h2
         omega
        have hsp := lh (item_end hl1 hLb)
        rw [<- hs1e.out, <- extract_toList] at hsp
        have hn5 : ¬ w.heap.size = g := by have := hgl.out; omega
        have hn6 : ¬ g = w.heap.size := by have := hgl.out; omega
        have hn7 : ¬ w.heap.size + 1 = g := by have := hgl.out; omega
        have hn8 : ¬ g = w.heap.size + 1 := by have := hgl.out; omega
        have hr1i : (1 : Int) <= (r.size : Int) := by omega
        have hks := lh hks
        obtain ⟨nL, hnL⟩ : ∃ nL, nL = L.length := ⟨_, rfl⟩
        rw [<- hnL] at f2 hLc
        have hLc := lh hLc
        replace hnL := lh hnL
        clear hr41 hl0 hl1 ha h41 hRH
        go_wp2_with fail
        (try simp only [Exit.inBlock, Exit.then])
        have hblk2 : (wr.setCell ⟨g, 0, none⟩ (.string (r.extract 1 r.size))).heap[w.heap.size]? = some (.cells #[.bool false, .string ⟨#[]⟩, .slice none 0 0] 74 (0, 0)) := by
         rw [heap_set_ne _ _ _ _ hn5]; exact hblk.out
        refine bodyPost_ret (results_cell_tmp rfl _ _ w.heap.size 74 #[.bool true, .string ⟨#[]⟩, .slice A nL c] (0, 0) _ rfl (set3 hblk2) Tryz.underlying74 rfl (by kernel_rfl) _ rfl) rfl ?_
        refine ⟨.mk true [] L, _, _, _, true, r.extract 1 r.size, rfl, ?_, ?_, hsp.out, tch_set3 (hT.out.setCell ⟨g, 0, none⟩ (fun _ => rfl) _) (Nat.le_refl _) _ _ _⟩
        . unfold FK
          rw [hnL.out]
          refine ⟨A, c, rfl, by rw [<- hnL.out]; exact hLc.out, by omega, FKs.move (fun b hb => ⟨⟨by omega, by rw [size_set, size_set, size_set, size_set]; exact hb.2⟩, by rw [set3_ne (by omega), heap_set_ne _ _ _ _ (by show b ≠ g; have := hgl.out; omega)]⟩) L A 0 hks.out⟩
        . unfold RdAt
          rw [set3_ne hn6]
          exact rdAt_set hrg.out _
      . have q41 : (((r[0]'hrp).toNat : Int) == 41) = false := by
         rw [<- ha, beq_eq_false_iff_ne]
         intro h
         exact h41 (UInt8.toNat_inj.1 (by have : ((41 : UInt8).toNat : Int) = 41 := rfl; omega))
        have hn41 : r.data.toList[0]? ≠ some 41 := by rw [hl0]; simpa using h41
        have hrb : r.size + L.length <= 65536 := by
         have h1 := hlp.out.1.1
         have h2 := hs.out
         rw [toList_size] at h1
         rw [<- toList_size, hs1e.out] at h2
         simp only [List.length_cons] at h2
         omega
        have CI := ihH.out hd8 r wr hrg.out (by omega)
        rw [show ((deep + 1 : Nat) : Int) = (deep : Int) + 1 from by omega] at CI
        have CIH := lh CI
        have hn41H := lh hn41
        have hrbH := lh hrb
        clear CI hn41 hl0 ha h41 hrb
        go_wp2_with fail
        refine (CIH.out).mono ?_
        rintro ev w3 ⟨f, x0, x1, x2, ok, r3, rfl, hFK, hg3, hsp3, hT3⟩
        have hb3 := hT3.heap hblk.out (show ¬ w.heap.size = g by have := hgl.out; omega)
        have hf3 := hT3.heap hfb.out (show ¬ w.heap.size + 1 = g by have := hgl.out; omega)
        have hB3 := hRH.out.2.2.2.1.keep (w' := w3) (fun b h1 h2 => hT3.block b h2 (show ¬ b = g by have := hgl.out; omega)) hT3.size
        have hTT := hT.out.trans hT3
        obtain ⟨fb, ft, fl⟩ := f
        have hFK2 := hFK
        unfold FK at hFK2
        obtain ⟨A2, c2, hcs, _⟩ := hFK2
        simp only [List.cons.injEq, and_true] at hcs
        obtain ⟨rfl, rfl, rfl⟩ := hcs
        obtain ⟨w4, hw4⟩ : ∃ w4, w4 = w3.alloc (.cells #[.bool fb, .string ⟨ft.toArray⟩, .slice A2 fl.length c2] 74) := ⟨_, rfl⟩
        have hx4 : w4.heap[w3.heap.size]? = some (.cells #[.bool fb, .string ⟨ft.toArray⟩, .slice A2 fl.length c2] 74 (0, 0)) := by rw [hw4]; exact heap_alloc_at _ _
        have hb4 : w4.heap[w.heap.size]? = some (.cells #[.bool false, .string ⟨#[]⟩, .slice none 0 0] 74 (0, 0)) := by rw [hw4, heap_alloc_lt _ _ _ (heap_lt hb3)]; exact hb3
        have hf4 : w4.heap[w.heap.size + 1]? = some (.cells #[.bool true, .string ⟨#[]⟩, v] 74 (0, 0)) := by rw [hw4, heap_alloc_lt _ _ _ (heap_lt hf3)]; exact hf3
        have hg4 : RdAt w4 g r3 := by unfold RdAt; rw [hw4, heap_alloc_lt _ _ _ (heap_lt hg3)]; exact hg3
        have hT4 : Tch (fun k => k = g) w w4 := by rw [hw4]; exact hTT.alloc _
        have hs4 : w4.heap.size = w3.heap.size + 1 := by rw [hw4]; simp
        have hB4 := hB3.keep (w' := w4) (fun b h1 h2 => by rw [hw4]; exact heap_alloc_lt _ _ _ h2) (by omega)
        have hF4 : FK (fun b => wr.heap.size <= b /\ b < w3.heap.size) w4 (.mk fb ft fl) [.bool fb, .string ⟨ft.toArray⟩, .slice A2 fl.length c2] := FK.move (fun b hb => ⟨hb, by rw [hw4]; exact heap_alloc_lt _ _ _ hb.2⟩) _ _ hFK
        obtain ⟨y0, y1, y2, _, yz⟩ := blk3 hx4
        obtain ⟨k0, k1, k2, hsh, hfz⟩ := blk3 hb4
        obtain ⟨f0, f1, f2, _, hfzf⟩ := blk3 hf4
        obtain ⟨nl, hnl⟩ : ∃ nl, nl = fl.length := ⟨_, rfl⟩
        rw [<- hnl] at hw4 hF4 y2 hx4 ⊢
        replace hnl := lh hnl
        have hw3 := lh (show wr.heap.size <= w3.heap.size from hT3.size)
        have hlo := lh (show w.heap.size + 1 < wr.heap.size from heap_lt hfb.out)
        replace hx4 := lh hx4
        replace hb4 := lh hb4
        replace hf4 := lh hf4
        replace hg4 := lh hg4
        replace hT4 := lh hT4
        replace hs4 := lh hs4
        replace hB4 := lh hB4
        replace hF4 := lh hF4
        replace hsp3 := lh hsp3
        clear hb3 hf3 hB3 hTT hFK hg3 hT3
        cases ok with
        | false =>
         have hsp := lh (item_fail hlp.out hn41H.out hsp3.out (.mk false [] []))
         rw [<- hs1e.out] at hsp
         go_upto_region 9 with fail
         rw [<- hw4]
         replace hw4 := lh hw4
         go_wp2_with fail
         (try simp only [Exit.inBlock, Exit.then])
         refine bodyPost_ret (results_cell_tmp rfl _ _ w.heap.size 74 #[.bool false, .string ⟨#[]⟩, .slice none 0 0] (0, 0) _ rfl (set3 hb4.out) Tryz.underlying74 rfl (by kernel_rfl) _ rfl) rfl ?_
         exact itemPost_no hgl.out hg4.out hsp.out hT4.out _ _ _
        | true =>
         have hlp2 := lh (loop_step hlp.out hn41H.out hsp3.out)
         have hr3 := lh (hsp3.out.2.1 rfl)
         obtain ⟨iF, hiF, hzF, hsF, hbF⟩ := infoF
         obtain ⟨cs, hown, hFC⟩ := hB4.out
         have hownH := lh hown
         have hFCH := lh hFC
         have hlb := lh (show L.length <= 65536 by have := hrbH.out; omega)
         obtain ⟨nL, hnL⟩ : ∃ nL, nL = L.length := ⟨_, rfl⟩
         rw [<- hnL] at hownH hlb
         replace hnL := lh hnL
         have hnb := lh (show some (w.heap.size + 1) ≠ v.ownBlock from fun e => by have := (hB4.out.lt _ e.symm).1; omega)
         clear hown hFC
         go_upto_region 9 with fail
         rw [<- hw4]
         replace hw4 := lh hw4
         go_upto_region 10 with fail
         go_wp2_with (at_builtin; refine wpList_append_lies _ (by rfl) _ _ _ (by rfl) (w.heap.size + 2) 74 iF _ 3 48 Tryz.underlying72 hiF hzF hsF hbF rfl (by omega) v nL cs (by rfl) (hownH.out.alloc _) ⟨w4.heap.size, 0, none⟩ 1 1 [.bool fb, .string ⟨ft.toArray⟩, .slice A2 nl c2] (by rfl) (by rfl) (World.news_of_block (heap_alloc_at w4 _)) (by simp [Value.oneCell']) (by omega) (by have := hlb.out; unfold maxLen; omega) (by have := hlb.out; omega) (by have := hlo.out; have := hw3.out; have := hs4.out; simp; omega) (w4.heap.size + 1) (by simp) ?_; intro g5 cap5 w5 hown5 hgrow5 hat5 hlt5; have hf5 := (hgrow5.block (w.heap.size + 1) (by have := heap_lt hf4.out; simp; omega) hnb.out).trans ((heap_alloc_lt w4 _ _ (heap_lt hf4.out)).trans hf4.out); have f5 : w5.cell? ⟨w.heap.size + 1, 2, none⟩ = some v := (by rw [cell_of hf5]; rfl); have z5 : w5.frozen? ⟨w.heap.size + 1, 2, none⟩ = false := fr_of hf5 2; replace hf5 := lh hf5; replace hgrow5 := lh hgrow5; replace hown5 := lh hown5; replace hat5 := lh hat5)
         go_roundg r3.size
         case measure => have := hr3.out; rw [toList_size, toList_size] at this; rw [hgk.out]; exact this
         case rel =>
          refine ⟨L ++ [.mk fb ft fl], .slice (some ⟨g5, 0, none⟩) (nL + 1) cap5, r3, rfl, ?_⟩
          have hge : g ≠ w.heap.size + 1 := by have := hgl.out; omega
          have hsz5 := hgrow5.out.size
          simp only [size_alloc] at hsz5
          have blk5 : ∀ b, b < w4.heap.size -> some b ≠ v.ownBlock -> w5.heap[b]? = w4.heap[b]? := fun b h1 h2 => (hgrow5.out.block b (by simp only [size_alloc]; omega) h2).trans (heap_alloc_lt w4 _ _ h1)
          have hvb : ∀ b, b < w.heap.size + 2 -> some b ≠ v.ownBlock := fun b hb e => by have := (hB4.out.lt _ e.symm).1; omega
          have hsz4 := heap_lt hf4.out
          have hgr : w4.grownBy w5 v.ownBlock := ⟨hgrow5.out.os, hgrow5.out.tape, hgrow5.out.output, by omega, fun k h1 h2 => blk5 k h1 h2⟩
          have hT5 : Tch (fun k => k = g) w w5 := ⟨hgr.os.trans hT4.out.os, hgr.tape.trans hT4.out.tape, hgr.output.trans hT4.out.output, Nat.le_trans hT4.out.size hgr.size, fun k h1 h2 => (blk5 k (Nat.lt_of_lt_of_le h1 hT4.out.size) (hvb k (by omega))).trans (hT4.out.block k h1 h2)⟩
          have hbag : Bag (w.heap.size + 2) w5 (.slice (some ⟨g5, 0, none⟩) (nL + 1) cap5) (L ++ [.mk fb ft fl]) := by
           rw [hnL.out] at hown5 ⊢
           refine Bag.push hFCH.out (FK.move (fun b hb => ⟨⟨by have := hlo.out; omega, by have := hs4.out; omega, fun e => by have := (hRH.out.2.2.2.1.lt _ e.symm).2; omega⟩, rfl⟩) _ _ hF4.out) hown5.out hgr ?_
           rcases hat5.out with h | h
           . exact .inl h
           . right; omega
          refine ⟨?_, ?_, ?_, ?_, hlp2.out, hT5.setNew ⟨w.heap.size + 1, 2, none⟩ (by show w.heap.size <= w.heap.size + 1; omega) _⟩
          . unfold RdAt
            rw [heap_set_ne _ _ _ _ hge, blk5 g (heap_lt hg4.out) (hvb g (by have := hgl.out; omega))]
            exact hg4.out
          . rw [heap_set_ne _ _ _ _ (by show w.heap.size ≠ w.heap.size + 1; omega), blk5 _ (by omega) (hvb _ (by omega))]
            exact hb4.out
          . exact heap_set _ _ _ _ _ _ _ hf5.out
          . exact hbag.keep (fun b h1 h2 => heap_set_ne _ _ _ _ (by show b ≠ w.heap.size + 1; omega)) (by rw [size_set]; exact Nat.le_refl _)
  . have hd8i : ¬ (deep : Int) < 8 := by omega
    have hsp := lh (item_stop hlp.out (.inl (by omega)) (.mk false [] []))
    rw [<- hs1e.out] at hsp
    go_wp2_with fail
    (try simp only [Exit.inBlock, Exit.then])
    refine bodyPost_ret (results_cell_tmp rfl _ _ w.heap.size 74 #[.bool false, .string ⟨#[]⟩, .slice none 0 0] (0, 0) _ rfl (set3 hblk.out) Tryz.underlying74 rfl (by kernel_rfl) _ rfl) rfl ?_
    exact itemPost_no hgl.out hrg.out hsp.out hT.out _ _ _
theorem item_c (g : Nat) (d : Nat) : ∀ deep : Nat, deep + d = 8 -> ItemAt g deep := by
 induction d with
 | zero =>
  intro deep hd s w hg hs
  by_cases h0 : s.data.toList[0]? = some 40
  . exact item_list_c g deep (by omega) (fun h8 => absurd h8 (by omega)) s w hg hs h0
  . exact item_text_c g deep s w hg hs h0
 | succ d ih =>
  intro deep hd s w hg hs
  by_cases h0 : s.data.toList[0]? = some 40
  . exact item_list_c g deep (by omega) (fun h8 => ih (deep + 1) (by omega)) s w hg hs h0
  . exact item_text_c g deep s w hg hs h0
end Go.Proofs.YtbiioaggilaebaaGreatDoor.Tm
namespace Go.Proofs.YtbiioaggilaebaaGreatDoor.Pbottom
open Go.RowKit YtbiioaggilaebaaGreatDoorW.PrintWords YtbiioaggilaebaaGreatDoorW.PrintLast YtbiioaggilaebaaGreatDoorW.PrintMore
attribute [local go_sem] max2_int min2_int max_two min_two max_three min_three max_four min_four   -- for this text's walks alone
def patch_bottom.f  : Option (Int × Int) := some ((-1), 1)
theorem patch_bottom.calls  (r1 : Int) (r2 : Int) (w : World) (h : patch_bottom.f  = some (r1, r2)) :
 Calls Tryz.prog 119 #[] w fun e w' => e = .returned (.agg #[.int .i64 r1, .int .i64 r2]) /\ Below w.heap.size w w' := by
 have hu36 := Tryz.underlying36
 have HB := Aside0.mk (Below.refl w.heap.size w)
 have H : (some ((-1), 1)) = some (r1, r2) := h
 clear h
 simp only [Option.some.injEq, Prod.mk.injEq] at H
 obtain ⟨rfl, rfl⟩ := H
 go_enter Tryz.func119, Tryz.ntmps119
 go_wp2_with (first | ((with_reducible refine gate_dst (N := 0) rfl ?_); refine box_event ?hg (N := 0) ?hd (cs := #[.int .i64 0, .int .i64 0]) (t := 36) ?hr ?_; (case hd => rfl); (case hg => rfl); (case hr => first | (go_simp; done) | (go_simp; rfl)); intro gb101 hg w1 hbox hb; have n0_ := Aside0.mk (below_step (by repeat (first | (with_reducible first | exact HB.out | apply below_alloc | apply pw_below_drewN | apply below_drew1) | exact HB.out)) hb); have n1_ := Aside0.mk (hbox); have n2_ := Aside0.mk ((by rw [hg]; exact (below_size (by repeat (first | (with_reducible first | exact HB.out | apply below_alloc | apply pw_below_drewN | apply below_drew1) | exact HB.out))) : w.heap.size <= gb101)); have n3_ := Aside0.mk ((by rw [hg]; exact (below_size (by repeat (first | (with_reducible first | exact HB.out | apply below_alloc | apply pw_below_drewN | apply below_drew1) | exact HB.out))) : w.heap.size <= gb101)); clear HB; have HB := n0_; have BK101 := n1_; have GW101 := n2_; have GE101 := n3_; clear n0_ n1_ n2_ n3_; clear hb hbox hg; have hcz2_0 : w1.cell? ⟨gb101, 0, none⟩ = some (.int .i64 0) := (blk_cell BK101.out 0).trans rfl; have hcz2_1 : w1.cell? ⟨gb101, 1, none⟩ = some (.int .i64 0) := (blk_cell BK101.out 1).trans rfl; have hfz2_0 := blk_frozen BK101.out 0; have hfz2_1 := blk_frozen BK101.out 1))
 refine bodyPost_ret (results_cell_row rfl _ _ gb101 36 #[.int .i64 (-1), .int .i64 1] (0, 0) _ rfl (by (with_reducible repeat (first | refine blk_drewN ?_ _ | refine blk_drew ?_ | refine blk_alloc ?_ _)); refine blk_put (cs := #[.int .i64 (-1), .int .i64 0]) ?_ 1 _ rfl; (with_reducible repeat (first | refine blk_drewN ?_ _ | refine blk_drew ?_ | refine blk_alloc ?_ _)); refine blk_put (cs := #[.int .i64 0, .int .i64 0]) ?_ 0 _ rfl; (with_reducible repeat (first | refine blk_drewN ?_ _ | refine blk_drew ?_ | refine blk_alloc ?_ _)); exact BK101.out) Tryz.underlying36 rfl (by kernel_rfl)) rfl ?_
 exact ⟨by first | rfl | (simp [errW_none, errW_some] <;> rfl) | (simp [*, errW_none, errW_some] <;> rfl), by repeat (first | (with_reducible first | exact HB.out | apply below_alloc | apply pw_below_drewN | apply below_drew1 | refine below_set ?_ GE101.out) | exact HB.out)⟩
end Go.Proofs.YtbiioaggilaebaaGreatDoor.Pbottom
namespace Go.Proofs.YtbiioaggilaebaaGreatDoor.Ptop
open Go.RowKit YtbiioaggilaebaaGreatDoorW.PrintWords YtbiioaggilaebaaGreatDoorW.PrintLast YtbiioaggilaebaaGreatDoorW.PrintMore
attribute [local go_sem] max2_int min2_int max_two min_two max_three min_three max_four min_four   -- for this text's walks alone
def patch_top.f  : Option (Int × Int) := some ((-1), 0)
theorem patch_top.calls  (r1 : Int) (r2 : Int) (w : World) (h : patch_top.f  = some (r1, r2)) :
 Calls Tryz.prog 120 #[] w fun e w' => e = .returned (.agg #[.int .i64 r1, .int .i64 r2]) /\ Below w.heap.size w w' := by
 have hu36 := Tryz.underlying36
 have HB := Aside0.mk (Below.refl w.heap.size w)
 have H : (some ((-1), 0)) = some (r1, r2) := h
 clear h
 simp only [Option.some.injEq, Prod.mk.injEq] at H
 obtain ⟨rfl, rfl⟩ := H
 go_enter Tryz.func120, Tryz.ntmps120
 go_wp2_with (first | ((with_reducible refine gate_dst (N := 0) rfl ?_); refine box_event ?hg (N := 0) ?hd (cs := #[.int .i64 0, .int .i64 0]) (t := 36) ?hr ?_; (case hd => rfl); (case hg => rfl); (case hr => first | (go_simp; done) | (go_simp; rfl)); intro gb101 hg w1 hbox hb; have n0_ := Aside0.mk (below_step (by repeat (first | (with_reducible first | exact HB.out | apply below_alloc | apply pw_below_drewN | apply below_drew1) | exact HB.out)) hb); have n1_ := Aside0.mk (hbox); have n2_ := Aside0.mk ((by rw [hg]; exact (below_size (by repeat (first | (with_reducible first | exact HB.out | apply below_alloc | apply pw_below_drewN | apply below_drew1) | exact HB.out))) : w.heap.size <= gb101)); have n3_ := Aside0.mk ((by rw [hg]; exact (below_size (by repeat (first | (with_reducible first | exact HB.out | apply below_alloc | apply pw_below_drewN | apply below_drew1) | exact HB.out))) : w.heap.size <= gb101)); clear HB; have HB := n0_; have BK101 := n1_; have GW101 := n2_; have GE101 := n3_; clear n0_ n1_ n2_ n3_; clear hb hbox hg; have hcz2_0 : w1.cell? ⟨gb101, 0, none⟩ = some (.int .i64 0) := (blk_cell BK101.out 0).trans rfl; have hcz2_1 : w1.cell? ⟨gb101, 1, none⟩ = some (.int .i64 0) := (blk_cell BK101.out 1).trans rfl; have hfz2_0 := blk_frozen BK101.out 0; have hfz2_1 := blk_frozen BK101.out 1))
 refine bodyPost_ret (results_cell_row rfl _ _ gb101 36 #[.int .i64 (-1), .int .i64 0] (0, 0) _ rfl (by (with_reducible repeat (first | refine blk_drewN ?_ _ | refine blk_drew ?_ | refine blk_alloc ?_ _)); refine blk_put (cs := #[.int .i64 (-1), .int .i64 0]) ?_ 1 _ rfl; (with_reducible repeat (first | refine blk_drewN ?_ _ | refine blk_drew ?_ | refine blk_alloc ?_ _)); refine blk_put (cs := #[.int .i64 0, .int .i64 0]) ?_ 0 _ rfl; (with_reducible repeat (first | refine blk_drewN ?_ _ | refine blk_drew ?_ | refine blk_alloc ?_ _)); exact BK101.out) Tryz.underlying36 rfl (by kernel_rfl)) rfl ?_
 exact ⟨by first | rfl | (simp [errW_none, errW_some] <;> rfl) | (simp [*, errW_none, errW_some] <;> rfl), by repeat (first | (with_reducible first | exact HB.out | apply below_alloc | apply pw_below_drewN | apply below_drew1 | refine below_set ?_ GE101.out) | exact HB.out)⟩
end Go.Proofs.YtbiioaggilaebaaGreatDoor.Ptop
namespace Go.Proofs.YtbiioaggilaebaaGreatDoor.Pop
open Go.RowKit YtbiioaggilaebaaGreatDoorW.PrintWords YtbiioaggilaebaaGreatDoorW.PrintLast YtbiioaggilaebaaGreatDoorW.PrintMore
attribute [local go_sem] max2_int min2_int max_two min_two max_three min_three max_four min_four   -- for this text's walks alone
end Go.Proofs.YtbiioaggilaebaaGreatDoor.Pop
namespace Go.Proofs.YtbiioaggilaebaaGreatDoor.Ref
open Go.RowKit B Sha YtbiioaggilaebaaGreatDoorW.PrintLast
theorem flat_le (l : List (BitVec 32)) : (l.flatMap ofWord).length <= 4 * l.length := by
 induction l with
 | nil => exact Nat.le_refl _
 | cons a l ih => rw [List.flatMap_cons, List.length_append, List.length_cons]; have : (ofWord a).length = 4 := rfl; omega
theorem conv4 (W : World) (x : BitVec 32) :
 (convert 69 9 (.slice (some ⟨W.heap.size, 0, none⟩) 4 4)).run Tryz.prog (W.alloc (.cells #[.int .u8 (nv x / 16777216 % 256), .int .u8 (nv x / 65536 % 256), .int .u8 (nv x / 256 % 256), .int .u8 (nv x % 256)] 5)) = .ok (.string ⟨(ofWord x).toArray⟩) (W.alloc (.cells #[.int .u8 (nv x / 16777216 % 256), .int .u8 (nv x / 65536 % 256), .int .u8 (nv x / 256 % 256), .int .u8 (nv x % 256)] 5)) := by
 rw [show (#[.int .u8 (nv x / 16777216 % 256), .int .u8 (nv x / 65536 % 256), .int .u8 (nv x / 256 % 256), .int .u8 (nv x % 256)] : Array Value) = (bc (ofWord x)).toArray from congrArg List.toArray (word_cells x)]
 refine run_convert_bytes_back _ 69 9 5 _ 4 (ofWord x) Tryz.underlying69 Tryz.underlying5 Tryz.underlying9 fun j hj => ?_
 rw [add0, cell_of (heap_alloc_at _ _), List.getElem?_toArray, bc_get _ j hj]
theorem conv4d (W : World) (x : BitVec 32) :
 (convert 69 9 (.slice (some ⟨W.heap.size, 0, none⟩) 4 4)).run Tryz.prog (W.alloc (.cells #[.int .u8 (nv x / 16777216 % 256), .int .u8 (nv x / 65536 % 256), .int .u8 (nv x / 256 % 256), .int .u8 (nv x % 256)] 5)).drew = .ok (.string ⟨(ofWord x).toArray⟩) (W.alloc (.cells #[.int .u8 (nv x / 16777216 % 256), .int .u8 (nv x / 65536 % 256), .int .u8 (nv x / 256 % 256), .int .u8 (nv x % 256)] 5)).drew := conv4 W.drew x
theorem conv4h (W : World) (x : BitVec 32) :
 (convert 69 9 (.slice (some ⟨W.heap.size, 0, none⟩) 4 4)).run Tryz.prog (W.alloc (.cells #[.int .u8 (IntKind.u8.wrap (nv x / 16777216)), .int .u8 (IntKind.u8.wrap (nv x / 65536)), .int .u8 (IntKind.u8.wrap (nv x / 256)), .int .u8 (IntKind.u8.wrap (nv x))] 5)).drew = .ok (.string ⟨(ofWord x).toArray⟩) (W.alloc (.cells #[.int .u8 (IntKind.u8.wrap (nv x / 16777216)), .int .u8 (IntKind.u8.wrap (nv x / 65536)), .int .u8 (IntKind.u8.wrap (nv x / 256)), .int .u8 (IntKind.u8.wrap (nv x))] 5)).drew := by
 rw [IntKind.wrap_u8, IntKind.wrap_u8, IntKind.wrap_u8, IntKind.wrap_u8]
 exact conv4d W x
theorem uvs_get (l : List (BitVec 32)) (i : Nat) (h : i < l.length) : (uvs l)[i]? = some (.int .u32 (nv (l.getD i 0))) := by
 simp [uvs, uv, List.getD_eq_getElem?_getD, List.getElem?_eq_getElem h]
theorem rowB_of (w : World) (s : ByteArray) (hs : s.size <= 140737488355328) : ∃ cap w1, (convert 9 69 (.string s)).run Tryz.prog w = .ok (.slice (some ⟨w.heap.size, 0, none⟩) s.size cap) w1 /\
 RowB w1 w.heap.size (.slice (some ⟨w.heap.size, 0, none⟩) s.size cap) s.size s.data.toList /\ Below w.heap.size w w1 := by
 obtain ⟨cap, w1, cells, fz, h1, h2, h3, h4, h5, h6, h7, _, h8, h9⟩ := bytes_of w s
 exact ⟨cap, w1, h1, ⟨_, _, cells, fz, rfl, len_list s, Nat.le_refl _, h4, h5, h6, h9 (by unfold maxLen; omega), h7, .inr (by omega)⟩, h2⟩
theorem RowB.form {w : World} {base n : Nat} {v : Value} {l : List UInt8} (h : RowB w base v n l) : ∃ g cap, v = .slice (some ⟨g, 0, none⟩) n cap := by
 obtain ⟨g, cap, cells, fz, hv, _⟩ := h
 exact ⟨g, cap, hv⟩
theorem RowB.lt {w : World} {base n : Nat} {v : Value} {l : List UInt8} (h : RowB w base v n l) : base < w.heap.size := by
 obtain ⟨g, cap, cells, fz, hv, _, hb, hg, _⟩ := h
 have := heap_lt hg
 omega
theorem cell1 (w : World) (z : Int) (b : UInt8) (h : z = (b.toNat : Int)) : (w.alloc (.cells #[.int .u8 z] 5)).cell? ⟨w.heap.size, 0, none⟩ = some (.int .u8 (b.toNat : Int)) := by
 subst h; rw [cell_of (heap_alloc_at w _)]; rfl
theorem made_uc : madeCells #[Value.int .u32 0] 64 = ucells zeros64 := by
 kernel_rfl
def Mk (w0 w : World) (l : List (BitVec 32)) : Prop := w.heap[w0.heap.size]? = some (.cells (ucells l) 138 (0, 0)) /\ Below w0.heap.size w0 w
theorem mk_cell {w0 w : World} {l : List (BitVec 32)} {p : Addr} {v : Value} (h : Mk w0 w l) (hc : w0.cell? p = some v) : w.cell? p = some v :=
 (Tch.of_new h.2).cell (S := fun _ => False) hc (fun e => e)
theorem mk_set {w0 w : World} {l : List (BitVec 32)} {v : Int} (h : Mk w0 w l) (i : Nat) (x : BitVec 32) (hv : v = nv x) : Mk w0 (w.setCell ⟨w0.heap.size, i, none⟩ (.int .u32 v)) (l.set i x) := by
 subst hv
 exact ⟨by rw [heap_set_some h.1, ucells_set], h.2.setCell (Nat.le_refl _) _⟩
theorem mk_drew {w0 w : World} {l : List (BitVec 32)} (h : Mk w0 w l) : Mk w0 w.drew l := ⟨h.1, ⟨h.2.os, h.2.tape, h.2.output, h.2.size, h.2.block⟩⟩
theorem mk_at {w0 w : World} {l : List (BitVec 32)} (h : Mk w0 w l) (i : Nat) (hi : i < l.length) : w.cell? ⟨w0.heap.size, i, none⟩ = some (.int .u32 (nv (l.getD i 0))) := by
 rw [cell_of h.1, ucells_get l i hi]
theorem word_val {blk : List UInt8} {t : Nat} (c0 c1 c2 c3 : UInt8) (h0 : blk.getD (4 * t) 0 = c0) (h1 : blk.getD (4 * t + 1) 0 = c1) (h2 : blk.getD (4 * t + 2) 0 = c2) (h3 : blk.getD (4 * t + 3) 0 = c3) :
 bits .or .u32 (bits .or .u32 (bits .or .u32 ((c0.toNat : Int) % 4294967296 * 16777216 % 4294967296) ((c1.toNat : Int) % 4294967296 * 65536 % 4294967296)) ((c2.toNat : Int) % 4294967296 * 256 % 4294967296)) ((c3.toNat : Int) % 4294967296) = nv (word blk t) := by
 have e : ∀ c : UInt8, (c.toNat : Int) % 4294967296 = nv (BitVec.ofNat 32 c.toNat) := fun c => by rw [byte_mod, nv_of _ (by have := c.toNat_lt; omega)]
 have s24 : ∀ x : BitVec 32, nv x * (16777216 : Int) % (4294967296 : Int) = nv (x <<< 24) := fun x => nv_shl x 24
 have s16 : ∀ x : BitVec 32, nv x * (65536 : Int) % (4294967296 : Int) = nv (x <<< 16) := fun x => nv_shl x 16
 have s8 : ∀ x : BitVec 32, nv x * (256 : Int) % (4294967296 : Int) = nv (x <<< 8) := fun x => nv_shl x 8
 rw [e, e, e, e, s24, s16, s8, nv_or, nv_or, nv_or]
 unfold word
 rw [h0, h1, h2, h3]
 congr 1
 simp only [BitVec.shiftLeft_or_distrib, <- BitVec.shiftLeft_add, BitVec.or_assoc]
theorem keep_set {w : World} {b k t n : Nat} {u v : Value} (h : w.cell? ⟨b, k, none⟩ = some u) (hk : ¬ (k = t)) : ((w.drewN n).setCell ⟨b, t, none⟩ v).cell? ⟨b, k, none⟩ = some u := by
 have h' : (w.drewN n).cell? ⟨b, k, none⟩ = some u := h
 rw [<- h']
 exact World.cell?_setCell_other (a := ⟨b, t, none⟩) (b := ⟨b, k, none⟩) _ _ (by intro e; injection e with e1 e2; exact hk e2.symm)
theorem sched_val2 (x16 x15 x7 x2 : BitVec 32) : IntKind.u32.wrap (IntKind.u32.wrap (IntKind.u32.wrap (nv x16 + bits .xor .u32 (bits .xor .u32 (nv (ror x15 7)) (nv (ror x15 18))) (nv x15 / 8)) + nv x7) + bits .xor .u32 (bits .xor .u32 (nv (ror x2 17)) (nv (ror x2 19))) (nv x2 / 1024)) = nv (x16 + s0 x15 + x7 + s1 x2) := by
 rw [nv_shr3, nv_shr10, nv_xor, nv_xor, nv_xor, nv_xor, nv_addw, nv_addw, nv_addw]; rfl
theorem own_eight {w : World} {base g c : Nat} {x0 x1 x2 x3 x4 x5 x6 x7 : BitVec 32} (h : w.ownsRow base 138 1 (.slice (some ⟨g, 0, none⟩) 8 c) 8 (uvs [x0, x1, x2, x3, x4, x5, x6, x7])) :
 ∀ j u, ([.int .u32 (nv x0), .int .u32 (nv x1), .int .u32 (nv x2), .int .u32 (nv x3), .int .u32 (nv x4), .int .u32 (nv x5), .int .u32 (nv x6), .int .u32 (nv x7)] : List Value)[j]? = some u -> w.cell? ((⟨g, 0, none⟩ : Addr).add j) = some u := by
 intro j u hj
 have hjl := (List.getElem?_eq_some_iff.1 hj).1
 rw [add0, h.cellAt j (by simpa using hjl)]
 exact hj
def RowV (lo : Nat) (w : World) (v : Value) (l : List (BitVec 32)) : Prop := ∃ g cap, v = .slice (some ⟨g, 0, none⟩) 8 cap /\ lo <= g /\ ∀ k, k < 8 -> w.cell? ⟨g, k, none⟩ = some (.int .u32 (nv (l.getD k 0)))
theorem rowV_of {w : World} {base g c : Nat} {x0 x1 x2 x3 x4 x5 x6 x7 : BitVec 32} (h : w.ownsRow base 138 1 (.slice (some ⟨g, 0, none⟩) (0 + 8) c) (0 + 8) ([] ++ uvs [x0, x1, x2, x3, x4, x5, x6, x7])) : RowV base w (.slice (some ⟨g, 0, none⟩) 8 c) [x0, x1, x2, x3, x4, x5, x6, x7] :=
 ⟨g, c, rfl, (h.lt g rfl).1, fun k hk => by rw [h.cellAt k (by omega)]; exact uvs_get _ k hk⟩
theorem own_empty (w : World) : (w.alloc (.cells #[] 138)).ownsRow w.heap.size 138 1 (.slice (some ⟨w.heap.size, 0, none⟩) 0 0) 0 [] :=
 ⟨rfl, .inr ⟨_, 0, #[], rfl, Nat.le_refl _, heap_alloc_at _ _, Nat.le_refl _, by unfold maxLen; omega, rfl, rfl⟩⟩
theorem drewN_add (w : World) (m k : Nat) : (w.drewN m).drewN k = w.drewN (m + k) := by
 simp [World.drewN, Nat.add_assoc]
theorem rturn_q (x : BitVec 32) (n : Int) (hn : Cnt n) (w : World) (m : Nat) :
 Calls Tryz.prog 92 #[.int .u32 (nv x), .int .i64 n] (w.drewN m) fun e w' => e = .returned (.int .u32 (nv (ror x n.toNat))) /\ ∃ k, w' = w.drewN k :=
 (rturn_any x n hn (w.drewN m)).mono fun _ _ h => ⟨h.1, by obtain ⟨k, hk⟩ := h.2; exact ⟨m + k, by rw [hk]; exact drewN_add w m k⟩⟩
theorem nv_add5 (a b c d e : BitVec 32) : (nv a + nv b + nv c + nv d + nv e) % (4294967296 : Int) = nv (a + b + c + d + e) := by
 rw [<- nv_add, <- nv_add, <- nv_add, <- nv_add]; omega
theorem rone_val (y4 y5 y6 y7 kk wk : BitVec 32) : (nv y7 + bits .xor .u32 (bits .xor .u32 (nv (ror y4 6)) (nv (ror y4 11))) (nv (ror y4 25)) + bits .or .u32 (bits .and .u32 (nv y4) (nv y5)) (bits .and .u32 (bits .xor .u32 IntKind.u32.max (nv y4)) (nv y6)) + nv kk + nv wk) % (4294967296 : Int) = nv (y7 + S1 y4 + ch y4 y5 y6 + kk + wk) := by
 rw [nv_not, nv_and, nv_and, nv_or, nv_xor, nv_xor, nv_add5, ch_or]; rfl
theorem rtwo_val (y0 y1 y2 : BitVec 32) : (bits .xor .u32 (bits .xor .u32 (nv (ror y0 2)) (nv (ror y0 13))) (nv (ror y0 22)) + bits .or .u32 (bits .or .u32 (bits .and .u32 (nv y0) (nv y1)) (bits .and .u32 (nv y0) (nv y2))) (bits .and .u32 (nv y1) (nv y2))) % (4294967296 : Int) = nv (S0 y0 + maj y0 y1 y2) := by
 rw [nv_and, nv_and, nv_and, nv_or, nv_or, nv_xor, nv_xor, nv_add, maj_or]; rfl
theorem rowV_new {lo : Nat} (w : World) (vals : Array Value) (l : List (BitVec 32)) (hlo : lo <= w.heap.size) (hl : l.length = 8) (h : vals = ucells l) : RowV lo (w.alloc (.cells vals 138)).drew (.slice (some ⟨w.heap.size, 0, none⟩) 8 8) l :=
 ⟨_, 8, rfl, hlo, fun k hk => by show (w.alloc _).cell? _ = _; rw [cell_of (heap_alloc_at w _), h, ucells_get l k (by omega)]⟩
def Hs (w0 w7 w : World) (gh ch gv : Nat) (xs ys : List (BitVec 32)) (j : Nat) : Prop :=
 w.ownsRow w0.heap.size 138 1 (.slice (some ⟨gh, 0, none⟩) 8 ch) 8 (uvs (addTo xs ys j)) /\ (∀ k, k < 8 -> w.cell? ⟨gv, k, none⟩ = some (.int .u32 (nv (ys.getD k 0)))) /\ Tch (· = gh) w7 w
theorem hs_cell {w0 w7 w : World} {gh ch gv j : Nat} {xs ys : List (BitVec 32)} (h : Hs w0 w7 w gh ch gv xs ys j) (hj : j < 8) : w.cell? ⟨gh, j, none⟩ = some (.int .u32 (nv (xs.getD j 0))) := by
 rw [h.1.cellAt j (by omega), uvs_get _ j (by rw [addTo_length]; exact hj), addTo_at _ _ _ hj]
theorem hs_next {w0 w7 w : World} {gh ch gv j : Nat} {xs ys : List (BitVec 32)} {A : Int} (h : Hs w0 w7 w gh ch gv xs ys j) (hj : j < 8) (hne : ¬ gv = gh) (hA : A = nv (xs.getD j 0 + ys.getD j 0)) (n : Nat) :
 Hs w0 w7 ((w.setCell ⟨gh, j, none⟩ (.int .u32 A)).drewN n) gh ch gv xs ys (j + 1) := by
 subst hA
 refine ⟨?_, fun k hk => ?_, (h.2.2.setCell ⟨gh, j, none⟩ (fun _ => rfl) _).drewN n⟩
 . have := h.1.stored j (.int .u32 (nv (xs.getD j 0 + ys.getD j 0)))
   rw [show (uvs (addTo xs ys j)).set j (.int .u32 (nv (xs.getD j 0 + ys.getD j 0))) = uvs (addTo xs ys (j + 1)) from by rw [<- addTo_set xs ys j hj]; simp [uvs, uv, List.map_set]] at this
   exact this.1
 . show (w.setCell _ _).cell? _ = _
   rw [World.cell?_setCell_other (a := ⟨gh, j, none⟩) (b := ⟨gv, k, none⟩) _ _ (by intro e; injection e with e1 e2; exact hne e1.symm)]
   exact h.2.1 k hk
def Blk (wb W w0 : World) (gh ch : Nat) (bs : List UInt8) (i : Nat) (hs : List (BitVec 32)) : Prop :=
 W.ownsRow w0.heap.size 138 1 (.slice (some ⟨gh, 0, none⟩) 8 ch) 8 (uvs hs) /\ hs.length = 8 /\ Tch (· = gh) wb W /\ runs K hs (bs.drop (64 * i)) = runs K H0 bs
theorem blk_next {wb w7 W w0 : World} {gh ch gv i : Nat} {bs blk : List UInt8} {xs ys : List (BitVec 32)} (hl : 64 * i + 64 <= bs.length) (hr : runs K xs (bs.drop (64 * i)) = runs K H0 bs) (hb : blk = (bs.drop (64 * i)).take 64)
 (hv : rounds K (sched (words blk) 48) xs 64 = ys) (ht : Tch (· = gh) wb w7) (h : Hs w0 w7 W gh ch gv xs ys 8) : Blk wb W w0 gh ch bs (i + 1) (compress K xs (words blk)) := by
 refine ⟨by have := h.1; rwa [addTo_end K xs (words blk) ys hv] at this, compress_length _ _ _, ht.trans h.2.2, ?_⟩
 rw [<- hr, runs_long K xs (bs.drop (64 * i)) (by rw [List.length_drop]; omega), <- hb, List.drop_drop, show 64 * (i + 1) = 64 * i + 64 from by omega]
theorem blk_end {wb W w0 : World} {gh ch i : Nat} {bs : List UInt8} {hs : List (BitVec 32)} (hl : bs.length <= 64 * i) (h : Blk wb W w0 gh ch bs i hs) : runs K H0 bs = hs := by
 rw [<- h.2.2.2, List.drop_of_length_le hl, runs_short K hs [] (by simp)]
structure Base (w0 w : World) (gh ch gk gb : Nat) (l : List UInt8) : Prop where
 hown : w.ownsRow w0.heap.size 138 1 (.slice (some ⟨gh, 0, none⟩) 8 ch) 8 (uvs H0)
 k : ∀ j, j < 64 -> w.cell? ⟨gk, j, none⟩ = some (.int .u32 (nv (K.getD j 0)))
 b : ∀ j, j < l.length -> w.cell? ⟨gb, j, none⟩ = some (.int .u8 ((l.getD j 0).toNat : Int))
 tch : Tch (fun _ => False) w0 w
 ne1 : gk ≠ gh
 ne2 : gb ≠ gh
 lo : w0.heap.size <= gh
theorem blk_cell {w0 wb W : World} {gh ch gk gb i N j : Nat} {bs blk : List UInt8} (h : Base w0 wb gh ch gk gb bs) (ht : Tch (· = gh) wb W) (hb : blk = (bs.drop (64 * i)).take 64) (hN : bs.length = N) (hi : 64 * i + 64 <= N) (hj : j < 64) :
 W.cell? ⟨gb, 64 * i + j, none⟩ = some (.int .u8 ((blk.getD j 0).toNat : Int)) := by
 rw [ht.cell (h.b (64 * i + j) (by omega)) h.ne2, hb]
 congr 3
 simp only [List.getD_eq_getElem?_getD]
 rw [List.getElem?_take, if_pos hj, List.getElem?_drop]
theorem sum_tch {w0 wb W : World} {gh ch gk gb : Nat} {l : List UInt8} (h : Base w0 wb gh ch gk gb l) (ht : Tch (· = gh) wb W) : Tch (fun _ => False) w0 W :=
 ⟨ht.os.trans h.tch.os, ht.tape.trans h.tch.tape, ht.output.trans h.tch.output, Nat.le_trans h.tch.size ht.size, fun k hk _ =>
  (ht.block k (Nat.lt_of_lt_of_le hk h.tch.size) (show ¬ k = gh from by have := h.lo; omega)).trans (h.tch.block k hk id)⟩
theorem base_start {w0 w1 w2 w3 w : World} {gh ch gk ck gb cb B n : Nat} {l : List UInt8} (h1 : gh < w1.heap.size) (h2 : w1.heap.size <= gk) (h3 : gk < B) (h0 : w0.heap.size <= gh)
 (o1 : w1.ownsRow w0.heap.size 138 1 (.slice (some ⟨gh, 0, none⟩) 8 ch) 8 (uvs H0)) (t1 : Tch (fun _ => False) w0 w1)
 (o2 : w2.ownsRow w1.heap.size 138 1 (.slice (some ⟨gk, 0, none⟩) 64 ck) 64 (uvs K)) (t2 : Tch (fun _ => False) w1 w2) (hB : w2.heap.size = B) (b1 : Below B w2 w3) (b2 : Below B w3 w)
 (hr : RowB w B (.slice (some ⟨gb, 0, none⟩) n cb) n l) : Base w0 w gh ch gk gb l /\ l.length = n := by
 have t3 : Tch (fun _ => False) w2 w := Tch.of_new (hB ▸ b1.trans b2)
 have hgb : B <= gb := by
  obtain ⟨g', cap', cells, fz, hv, hl, hb, _⟩ := hr
  injection hv with e1 e2 e3
  injection e1 with e1
  injection e1 with e1
  omega
 have hln : l.length = n := by
  obtain ⟨g', cap', cells, fz, hv, hl, hb, _⟩ := hr
  exact hl
 refine ⟨⟨own_keep (own_keep o1 t2) t3, fun j hj => ?_, fun j hj => hr.cells j (by omega), (t1.trans t2).trans t3, by omega, by omega, h0⟩, hln⟩
 have ok := own_keep o2 t3
 rw [ok.cellAt j (by omega), uvs_get K j (by show j < 64; exact hj)]
def zs (n : Nat) : Nat := (119 - n % 64) % 64
theorem zs_more (n j : Nat) (h : j < zs n) : (n + 1 + j) % 64 ≠ 56 := by unfold zs at h; omega
theorem zs_end (n : Nat) : (n + 1 + zs n) % 64 = 56 := by unfold zs; omega
def bz (s : List UInt8) (j : Nat) : List UInt8 := s ++ 128 :: List.replicate j 0
theorem bz_next (s : List UInt8) (j : Nat) : bz s (j + 1) = bz s j ++ [0] := by
 unfold bz; rw [List.append_assoc]; congr 1; rw [List.cons_append]; congr 1; exact List.replicate_succ' ..
def bl (s : List UInt8) (j : Nat) : List UInt8 := bz s (zs s.length) ++ (be8 (s.length * 8)).take j
theorem bl_next (s : List UInt8) (j : Nat) (hj : j < 8) : bl s (j + 1) = bl s j ++ [UInt8.ofNat (s.length * 8 / 2 ^ (8 * (7 - j)))] := by
 unfold bl; rw [List.append_assoc]; congr 1
 rw [List.take_add_one]; congr 1
 simp [be8, List.getElem?_range hj]
theorem bl_end (s : List UInt8) : bl s 8 = s ++ padding s.length := by
 unfold bl bz padding zs
 rw [List.take_of_length_le (by simp [be8]), List.append_assoc]
def loops : Code -> List Code
 | .loop c => .loop c :: loops c
 | .seq a b => loops a ++ loops b
 | .block _ c => loops c
 | .scope c => loops c
 | .cond _ a b => loops a ++ loops b
 | _ => []
noncomputable def roundsLoop : Code := ((Tryz.f51.body.map loops).getD []).getD 4 .skip
set_option maxRecDepth 1000000 in
theorem rounds_loop (gk ck gw cw wv : Nat) (full : List (BitVec 32)) (x0 x1 x2 x3 x4 x5 x6 x7 : BitVec 32) (w6 : World) (v0 : Value)
 (hlo : wv <= w6.heap.size) (hr0 : RowV wv w6 v0 [x0, x1, x2, x3, x4, x5, x6, x7]) (hK : ∀ j, j < 64 -> w6.cell? ⟨gk, j, none⟩ = some (.int .u32 (nv (K.getD j 0)))) (hF : ∀ j, j < 64 -> w6.cell? ⟨gw, j, none⟩ = some (.int .u32 (nv (full.getD j 0))))
 (u0 u1 u2 u3 u5 u6 u7 u8 u10 u11 u12 u13 u16 u17 u18 u19 u20 u21 u22 u23 u24 u25 u26 u27 u28 u29 u30 u31 u32 u33 u34 u35 u36 u37 u38 u39 u40 u41 u42 u43 u44 u45 u46 u47 u48 u49 u50 u51 u52 u53 u54 u55 u56 u57 u58 u59 u60 u61 u62 u63 u64 u65 u66 u67 u68 u69 u70 u71 u72 u73 u74 u75 u76 u77 u78 u79 u80 u81 u82 u83 u84 u85 u86 u87 u88 u89 u90 u91 u92 u93 u94 u95 u96 u97 u98 u99 u100 u101 u102 u103 u104 u105 u106 u107 u108 u109 u110 u111 u112 u113 u114 u115 u116 u117 u118 u119 u120 u121 u122 u123 u124 u125 u126 u127 u128 u129 u130 u131 u132 u133 u134 u135 u136 u137 u138 u139 u140 u141 u142 u143 u144 u145 u146 u147 u148 u149 u150 u151 u152 u153 u154 u155 u156 u157 u158 u159 u160 u161 u162 u163 u164 u165 u166 u167 u168 u169 u170 u171 u172 u173 u174 u175 u176 u177 u178 u179 u180 u181 u182 u183 u184 u185 u186 u187 u188 u189 u190 u191 u192 u193 u194 u195 u196 u197 u198 u199 u200 u201 u202 u203 u204 u205 u206 u207 u208 u209 u210 u211 u212 u213 u214 u215 u216 u217 u218 u219 u220 u221 u222 u223 u224 u225 u226 u227 u228 u229 u230 u231 u232 u233 u234 u235 u236 u237 u238 u239 u240 u241 u242 u243 u244 u245 u246 u247 u248 u249 u250 u251 u252 u253 u254 u255 u256 u257 u258 u259 u260 u261 u262 u263 u264 u265 u266 u267 u268 u269 u270 u271 u272 u273 u274 u275 u276 u277 u278 u279 u280 u281 u282 u283 u284 u285 u286 u287 u288 u289 u290 u291 u292 : Value) (Q0 : Exit -> Act -> World -> Prop)
 (hexit : ∀ (c16 c17 c18 c19 c145 c146 c147 c148 c149 c150 c151 c152 c153 c154 c155 c156 c157 c158 c159 c160 c161 c162 c163 c164 c165 c166 c167 c168 c169 c170 c171 c172 c173 c174 c175 c176 c177 c178 c179 c180 c181 c182 c183 c184 c185 c186 c187 c188 c189 c190 c191 c192 c193 c194 c195 c196 c197 c198 c199 c200 c201 c202 c203 c204 c205 c206 c207 c208 c209 c210 c211 c212 c213 c214 c215 c216 c217 c218 c219 c220 c221 c222 c223 c224 c225 c226 c227 c228 c229 c230 c231 c232 c233 c234 c235 c236 c237 c238 c239 c240 c241 c242 c243 c244 v1 : Value) (W : World), RowV wv W v1 (rounds K full [x0, x1, x2, x3, x4, x5, x6, x7] 64) -> Tch (fun _ => False) w6 W -> Q0 (.exit 8) ⟨List.toArray (u0 :: u1 :: u2 :: u3 :: .slice (some ⟨gk, 0, none⟩) 64 ck :: u5 :: u6 :: u7 :: u8 :: .slice (some ⟨gw, 0, none⟩) 64 cw :: u10 :: u11 :: u12 :: u13 :: v1 :: .int .i64 ((64 : Nat) : Int) :: c16 :: c17 :: c18 :: c19 :: u20 :: u21 :: u22 :: u23 :: u24 :: u25 :: u26 :: u27 :: u28 :: u29 :: u30 :: u31 :: u32 :: u33 :: u34 :: u35 :: u36 :: u37 :: u38 :: u39 :: u40 :: u41 :: u42 :: u43 :: u44 :: u45 :: u46 :: u47 :: u48 :: u49 :: u50 :: u51 :: u52 :: u53 :: u54 :: u55 :: u56 :: u57 :: u58 :: u59 :: u60 :: u61 :: u62 :: u63 :: u64 :: u65 :: u66 :: u67 :: u68 :: u69 :: u70 :: u71 :: u72 :: u73 :: u74 :: u75 :: u76 :: u77 :: u78 :: u79 :: u80 :: u81 :: u82 :: u83 :: u84 :: u85 :: u86 :: u87 :: u88 :: u89 :: u90 :: u91 :: u92 :: u93 :: u94 :: u95 :: u96 :: u97 :: u98 :: u99 :: u100 :: u101 :: u102 :: u103 :: u104 :: u105 :: u106 :: u107 :: u108 :: u109 :: u110 :: u111 :: u112 :: u113 :: u114 :: u115 :: u116 :: u117 :: u118 :: u119 :: u120 :: u121 :: u122 :: u123 :: u124 :: u125 :: u126 :: u127 :: u128 :: u129 :: u130 :: u131 :: u132 :: u133 :: u134 :: u135 :: u136 :: u137 :: u138 :: u139 :: u140 :: u141 :: u142 :: u143 :: u144 :: c145 :: c146 :: c147 :: c148 :: c149 :: c150 :: c151 :: c152 :: c153 :: c154 :: c155 :: c156 :: c157 :: c158 :: c159 :: c160 :: c161 :: c162 :: c163 :: c164 :: c165 :: c166 :: c167 :: c168 :: c169 :: c170 :: c171 :: c172 :: c173 :: c174 :: c175 :: c176 :: c177 :: c178 :: c179 :: c180 :: c181 :: c182 :: c183 :: c184 :: c185 :: c186 :: c187 :: c188 :: c189 :: c190 :: c191 :: c192 :: c193 :: c194 :: c195 :: c196 :: c197 :: c198 :: c199 :: c200 :: c201 :: c202 :: c203 :: c204 :: c205 :: c206 :: c207 :: c208 :: c209 :: c210 :: c211 :: c212 :: c213 :: c214 :: c215 :: c216 :: c217 :: c218 :: c219 :: c220 :: c221 :: c222 :: c223 :: c224 :: c225 :: c226 :: c227 :: c228 :: c229 :: c230 :: c231 :: c232 :: c233 :: c234 :: c235 :: c236 :: c237 :: c238 :: c239 :: c240 :: c241 :: c242 :: c243 :: c244 :: u245 :: u246 :: u247 :: u248 :: u249 :: u250 :: u251 :: u252 :: u253 :: u254 :: u255 :: u256 :: u257 :: u258 :: u259 :: u260 :: u261 :: u262 :: u263 :: u264 :: u265 :: u266 :: u267 :: u268 :: u269 :: u270 :: u271 :: u272 :: u273 :: u274 :: u275 :: u276 :: u277 :: u278 :: u279 :: u280 :: u281 :: u282 :: u283 :: u284 :: u285 :: u286 :: u287 :: u288 :: u289 :: u290 :: u291 :: u292 :: []), []⟩ W) :
 Code.wp Tryz.prog roundsLoop Q0 ⟨List.toArray (u0 :: u1 :: u2 :: u3 :: .slice (some ⟨gk, 0, none⟩) 64 ck :: u5 :: u6 :: u7 :: u8 :: .slice (some ⟨gw, 0, none⟩) 64 cw :: u10 :: u11 :: u12 :: u13 :: v0 :: .int .i64 0 :: u16 :: u17 :: u18 :: u19 :: u20 :: u21 :: u22 :: u23 :: u24 :: u25 :: u26 :: u27 :: u28 :: u29 :: u30 :: u31 :: u32 :: u33 :: u34 :: u35 :: u36 :: u37 :: u38 :: u39 :: u40 :: u41 :: u42 :: u43 :: u44 :: u45 :: u46 :: u47 :: u48 :: u49 :: u50 :: u51 :: u52 :: u53 :: u54 :: u55 :: u56 :: u57 :: u58 :: u59 :: u60 :: u61 :: u62 :: u63 :: u64 :: u65 :: u66 :: u67 :: u68 :: u69 :: u70 :: u71 :: u72 :: u73 :: u74 :: u75 :: u76 :: u77 :: u78 :: u79 :: u80 :: u81 :: u82 :: u83 :: u84 :: u85 :: u86 :: u87 :: u88 :: u89 :: u90 :: u91 :: u92 :: u93 :: u94 :: u95 :: u96 :: u97 :: u98 :: u99 :: u100 :: u101 :: u102 :: u103 :: u104 :: u105 :: u106 :: u107 :: u108 :: u109 :: u110 :: u111 :: u112 :: u113 :: u114 :: u115 :: u116 :: u117 :: u118 :: u119 :: u120 :: u121 :: u122 :: u123 :: u124 :: u125 :: u126 :: u127 :: u128 :: u129 :: u130 :: u131 :: u132 :: u133 :: u134 :: u135 :: u136 :: u137 :: u138 :: u139 :: u140 :: u141 :: u142 :: u143 :: u144 :: u145 :: u146 :: u147 :: u148 :: u149 :: u150 :: u151 :: u152 :: u153 :: u154 :: u155 :: u156 :: u157 :: u158 :: u159 :: u160 :: u161 :: u162 :: u163 :: u164 :: u165 :: u166 :: u167 :: u168 :: u169 :: u170 :: u171 :: u172 :: u173 :: u174 :: u175 :: u176 :: u177 :: u178 :: u179 :: u180 :: u181 :: u182 :: u183 :: u184 :: u185 :: u186 :: u187 :: u188 :: u189 :: u190 :: u191 :: u192 :: u193 :: u194 :: u195 :: u196 :: u197 :: u198 :: u199 :: u200 :: u201 :: u202 :: u203 :: u204 :: u205 :: u206 :: u207 :: u208 :: u209 :: u210 :: u211 :: u212 :: u213 :: u214 :: u215 :: u216 :: u217 :: u218 :: u219 :: u220 :: u221 :: u222 :: u223 :: u224 :: u225 :: u226 :: u227 :: u228 :: u229 :: u230 :: u231 :: u232 :: u233 :: u234 :: u235 :: u236 :: u237 :: u238 :: u239 :: u240 :: u241 :: u242 :: u243 :: u244 :: u245 :: u246 :: u247 :: u248 :: u249 :: u250 :: u251 :: u252 :: u253 :: u254 :: u255 :: u256 :: u257 :: u258 :: u259 :: u260 :: u261 :: u262 :: u263 :: u264 :: u265 :: u266 :: u267 :: u268 :: u269 :: u270 :: u271 :: u272 :: u273 :: u274 :: u275 :: u276 :: u277 :: u278 :: u279 :: u280 :: u281 :: u282 :: u283 :: u284 :: u285 :: u286 :: u287 :: u288 :: u289 :: u290 :: u291 :: u292 :: []), []⟩ w6 := by
 unfold roundsLoop
 conv => arg 2; whnf
 have hlo6 := lh hlo
 replace hr0 := lh hr0
 have hKc6 := lh hK
 have hFc6 := lh hF
 have hexH := lh hexit
 clear hlo hK hF hexit
 go_loopg [14, 15] 64 (fun g v i' W => ∃ t : Nat, g = 64 - t /\ t <= 64 /\ i' = .int .i64 t /\ RowV wv W v (rounds K full [x0, x1, x2, x3, x4, x5, x6, x7] t) /\ Tch (fun _ => False) w6 W)
 case atStart => exact ⟨0, rfl, by omega, rfl, hr0.out, Tch.refl _ _⟩
 case round =>
  clear hr0
  obtain ⟨t, hg, ht, rfl, hr, htc⟩ := hrel
  subst hg
  obtain ⟨y0, y1, y2, y3, y4, y5, y6, y7, hv⟩ := eight (rounds_length K full [x0, x1, x2, x3, x4, x5, x6, x7] rfl t)
  by_cases htl : t < 64
  . have hnx := lh (round_next K full [x0, x1, x2, x3, x4, x5, x6, x7] t hv)
    rw [hv] at hr
    obtain ⟨gv, cv, rfl, _, hcv⟩ := hr
    have hc0 := hcv 0 (by omega)
    have hc1 := hcv 1 (by omega)
    have hc2 := hcv 2 (by omega)
    have hc3 := hcv 3 (by omega)
    have hc4 := hcv 4 (by omega)
    have hc5 := hcv 5 (by omega)
    have hc6 := hcv 6 (by omega)
    have hc7 := hcv 7 (by omega)
    simp only [List.getD_cons_zero, List.getD_cons_succ] at hc0 hc1 hc2 hc3 hc4 hc5 hc6 hc7
    have hck := htc.cell (hKc6.out t htl) (fun e => e)
    have hcf := htc.cell (hFc6.out t htl) (fun e => e)
    have hti : (t : Int) < 64 := by omega
    have htcH := lh htc
    clear hcv hv htc
    generalize full.getD t 0 = wk at *
    generalize K.getD t 0 = kk at *
    go_wp2_with fail
    go_quiet ((go_at_call 92; exact rturn_q _ _ (by unfold Cnt; omega) _ _))
    go_wp2_with fail
    replace hc0 : (wr.drewN nq).cell? ⟨gv, 0, none⟩ = some (.int .u32 (nv y0)) := hc0
    replace hc1 : (wr.drewN nq).cell? ⟨gv, 1, none⟩ = some (.int .u32 (nv y1)) := hc1
    replace hc2 : (wr.drewN nq).cell? ⟨gv, 2, none⟩ = some (.int .u32 (nv y2)) := hc2
    replace hc3 : (wr.drewN nq).cell? ⟨gv, 3, none⟩ = some (.int .u32 (nv y3)) := hc3
    replace hc4 : (wr.drewN nq).cell? ⟨gv, 4, none⟩ = some (.int .u32 (nv y4)) := hc4
    replace hc5 : (wr.drewN nq).cell? ⟨gv, 5, none⟩ = some (.int .u32 (nv y5)) := hc5
    replace hc6 : (wr.drewN nq).cell? ⟨gv, 6, none⟩ = some (.int .u32 (nv y6)) := hc6
    replace hc7 : (wr.drewN nq).cell? ⟨gv, 7, none⟩ = some (.int .u32 (nv y7)) := hc7
    replace htcH := lh (htcH.out.drewN nq)
    generalize wr.drewN nq = wq at *
    go_quiet ((go_at_call 92; exact rturn_q _ _ (by unfold Cnt; omega) _ _))
    go_wp2_with fail
    replace hc0 : (wq.drewN nq).cell? ⟨gv, 0, none⟩ = some (.int .u32 (nv y0)) := hc0
    replace hc1 : (wq.drewN nq).cell? ⟨gv, 1, none⟩ = some (.int .u32 (nv y1)) := hc1
    replace hc2 : (wq.drewN nq).cell? ⟨gv, 2, none⟩ = some (.int .u32 (nv y2)) := hc2
    replace hc3 : (wq.drewN nq).cell? ⟨gv, 3, none⟩ = some (.int .u32 (nv y3)) := hc3
    replace hc4 : (wq.drewN nq).cell? ⟨gv, 4, none⟩ = some (.int .u32 (nv y4)) := hc4
    replace hc5 : (wq.drewN nq).cell? ⟨gv, 5, none⟩ = some (.int .u32 (nv y5)) := hc5
    replace hc6 : (wq.drewN nq).cell? ⟨gv, 6, none⟩ = some (.int .u32 (nv y6)) := hc6
    replace hc7 : (wq.drewN nq).cell? ⟨gv, 7, none⟩ = some (.int .u32 (nv y7)) := hc7
    replace htcH := lh (htcH.out.drewN nq)
    generalize wq.drewN nq = wp at *
    rw [rone_val, rtwo_val]
    generalize y7 + S1 y4 + Sha.ch y4 y5 y6 + kk + wk = one at *
    generalize S0 y0 + Sha.maj y0 y1 y2 = two at *
    clear hck hcf
    refine wp_region_still_tail 26 (by kernel_rfl) (by kernel_rfl) ?_
    change wpStill _ _ wp.drew _ _ _
    simp only [List.take_succ_cons, List.take_zero, List.drop_succ_cons, List.drop_zero]
    repeat still_step
    refine wpStill_nil ?_
    change wpList _ _ _ _ _ wp.drew
    go_wp2_with fail
    go_roundg (64 - (t + 1))
    case measure => omega
    case rel =>
     refine ⟨t + 1, rfl, by omega, by go_num, ?_, ?_⟩
     . rw [hnx.out]
       exact rowV_new wp _ _ (Nat.le_trans hlo6.out htcH.out.size) rfl (by rw [nv_add, nv_add]; rfl)
     . exact (htcH.out.alloc _).drew
  . have ht64 : t = 64 := by omega
    subst ht64
    have htcH := lh htc
    have hrH := lh hr
    clear hr htc hv
    go_wp2_with fail
    apply hexH.out
    . exact hrH.out
    . exact htcH.out
end Go.Proofs.YtbiioaggilaebaaGreatDoor.Ref
