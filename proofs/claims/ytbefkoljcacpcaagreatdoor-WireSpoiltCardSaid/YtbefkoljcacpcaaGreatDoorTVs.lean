/- What LawWireReads, LawWireWrites, LawWireSpoilt lean on, part s of 25: the texts TmV, TmQ, WiL. -/
import Derived.Test.YtbefkoljcacpcaaGreatDoorTVl
import Derived.Test.YtbefkoljcacpcaaGreatDoorTVr
set_option linter.unusedVariables false
set_option linter.unusedSimpArgs false
namespace Go.Proofs.YtbefkoljcacpcaaGreatDoor.Tm
open Go Go.RowKit Go.Proofs.YtbefkoljcacpcaaGreatDoor.B Go.Proofs.YtbefkoljcacpcaaGreatDoor.Bld Go.Proofs.YtbefkoljcacpcaaGreatDoor.Sha
def RItemAt (deep : Nat) : Prop := ∀ (s : ByteArray) (w : World), s.size ≤ 65536 → Calls Tryz.prog 58 #[.string s, .int .i64 deep] w (RItemPost deep s w)
def RItRel (deep : Nat) (s1 : List UInt8) (w : World) (W : World) (L : List F) (v : Value) (r : ByteArray) : Prop :=
  W.heap[w.heap.size]? = some (.cells #[.bool false, .string ⟨#[]⟩, .slice none 0 0] 52 (0, 0)) ∧
  W.heap[w.heap.size + 1]? = some (.cells #[.bool true, .string ⟨#[]⟩, v] 52 (0, 0)) ∧ Bag (w.heap.size + 2) W v L ∧ LoopSpec deep s1 L r.data.toList ∧ Below w.heap.size w W
set_option maxRecDepth 100000 in
set_option maxHeartbeats 8000000 in
theorem ritem_list_c (deep : Nat) (hd9 : deep ≤ 8) (ih : deep < 8 → RItemAt (deep + 1)) (s : ByteArray) (w : World) (hs : s.size ≤ 65536) (h0 : s.data.toList[0]? = some 40) :
    Calls Tryz.prog 58 #[.string s, .int .i64 deep] w (RItemPost deep s w) := by
  have hs1 : 1 ≤ s.size := by
    rw [← toList_size]
    have := (List.getElem?_eq_some_iff.1 h0).1
    omega
  obtain ⟨s1, hs1e⟩ : ∃ s1, s.data.toList = 40 :: s1 := by
    generalize s.data.toList = l at *
    cases l with
    | nil => cases h0
    | cons a l =>
      simp only [List.getElem?_cons_zero, Option.some.injEq] at h0
      exact ⟨l, by rw [h0]⟩
  have hs1i : (1 : Int) ≤ (s.size : Int) := by omega
  have hs0i : (0 : Int) < (s.size : Int) := by omega
  have hre1 : ¬ s.toList = [] := by rw [ByteArray.toList_eq, hs1e]; simp
  have hre2 : s.toList.isEmpty = false := by simpa using hre1
  have hrp : 0 < s.size := by omega
  have q40 : (((s[0]'hrp).toNat : Int) == 40) = true := by
    have : s.data.toList[0]? = some (s[0]'hrp) := by rw [Array.getElem?_toList, Array.getElem?_eq_getElem hrp]; rfl
    rw [h0] at this
    rw [← Option.some.inj this]; rfl
  obtain ⟨w0, hw0⟩ : ∃ w0, w0 = w.alloc (.cells #[.bool false, .string ⟨#[]⟩, .slice none 0 0] 52) := ⟨_, rfl⟩
  have hsz0 : w0.heap.size = w.heap.size + 1 := by rw [hw0]; simp
  have hr0 : w0.heap[w.heap.size]? = some (.cells #[.bool false, .string ⟨#[]⟩, .slice none 0 0] 52 (0, 0)) := by rw [hw0]; exact heap_alloc_at _ _
  have hb0 : Below w.heap.size w w0 := by rw [hw0]; exact (Below.refl _ _).alloc (Nat.le_refl _) _
  obtain ⟨w1, hw1⟩ : ∃ w1, w1 = w0.alloc (.cells #[.bool true, .string ⟨#[]⟩, .slice none 0 0] 52) := ⟨_, rfl⟩
  have hr1 : w1.heap[w.heap.size]? = some (.cells #[.bool false, .string ⟨#[]⟩, .slice none 0 0] 52 (0, 0)) := by rw [hw1, heap_alloc_lt _ _ _ (heap_lt hr0)]; exact hr0
  have hf1 : w1.heap[w.heap.size + 1]? = some (.cells #[.bool true, .string ⟨#[]⟩, .slice none 0 0] 52 (0, 0)) := by rw [hw1, ← hsz0]; exact heap_alloc_at _ _
  have hb1 : Below w.heap.size w w1 := by rw [hw1]; exact hb0.alloc (by omega) _
  have hrel0 : RItRel deep s1 w w1 [] (.slice none 0 0) (s.extract 1 s.size) := by
    refine ⟨hr1, hf1, Bag.nil _ _, ?_, hb1⟩
    rw [extract_toList, hs1e]
    exact loop_zero deep s1
  obtain ⟨k0, k1, k2, hsh, hfz⟩ := blk3 hr0
  have hrel0H := Lib.hid hrel0
  have hsx : (s.extract 1 s.size).size = s.size - 1 := by rw [← toList_size, extract_toList, List.length_drop, toList_size]
  have hsxH := Lib.hid hsx
  replace hs1e := Lib.hid hs1e
  replace hs := Lib.hid hs
  have ihH := Lib.hid ih
  have hsz0H := Lib.hid hsz0
  have hr0H := Lib.hid hr0
  have hb0H := Lib.hid hb0
  clear hrel0 hsx hr0 hr1 hf1 hb0 hb1 h0 ih hsz0
  go_enter Tryz.func58, Tryz.ntmps58
  go_upto_region 1 with fail
  rw [← hw0]
  replace hw0 := Lib.hid hw0
  by_cases hd8 : 8 ≤ deep
  · have hd8i : (8 : Int) ≤ (deep : Int) := by omega
    have hsp := Lib.hid (item_nil (item_stop (loop_zero deep s1) (.inl hd8) (.mk false [] [])) (f0 := .mk false [] []))
    rw [← hs1e.out] at hsp
    go_wp2_with fail
    (try simp only [Exit.inBlock, Exit.then])
    refine bodyPost_ret (results_cell_tmp2 rfl _ _ w.heap.size 52 #[.bool false, .string ⟨#[]⟩, .slice none 0 0] (0, 0) _ rfl (set3 hr0H.out) Tryz.underlying52 rfl (by kernel_rfl) _ _ rfl rfl) rfl ?_
    exact ritemPost_no hsp.out hb0H.out _ _ _
  have hd8i : ¬ (8 : Int) ≤ (deep : Int) := by omega
  go_upto_region 7 with fail
  rw [hsz0H.out, ← hw1]
  replace hw1 := Lib.hid hw1
  clear k0 k1 k2 hsh hfz hre1 hre2 q40
  go_wp2_with fail
  go_loopg [0] (s.size - 1) (fun g' x W => ∃ L v r, g' = r.size ∧ x = .string r ∧ RItRel deep s1 w W L v r)
  case atStart => exact ⟨[], .slice none 0 0, s.extract 1 s.size, by rw [hsxH.out], rfl, hrel0H.out⟩
  case round =>
    obtain ⟨L, v, r, hgk, rfl, hR⟩ := hrel
    have hblk := hR.1
    have hfb := hR.2.1
    have hlp := hR.2.2.2.1
    have hT := hR.2.2.2.2
    obtain ⟨k0, k1, k2, hsh, hfz⟩ := blk3 hblk
    obtain ⟨f0, f1, f2, _, hfzf⟩ := blk3 hfb
    have hRH := Lib.hid hR
    replace hgk := Lib.hid hgk
    replace hblk := Lib.hid hblk
    replace hfb := Lib.hid hfb
    replace hlp := Lib.hid hlp
    replace hT := Lib.hid hT
    clear hR
    by_cases hr0 : r.size = 0
    · have hre : r.toList = [] := by rw [ByteArray.toList_eq]; exact List.eq_nil_of_length_eq_zero (by rw [toList_size]; exact hr0)
      have hsp := Lib.hid (item_nil (item_stop hlp.out (.inr (List.eq_nil_of_length_eq_zero (by rw [toList_size]; exact hr0))) (.mk false [] [])) (f0 := .mk false [] []))
      rw [← hs1e.out] at hsp
      go_wp2_with fail
      (try simp only [Exit.inBlock, Exit.then])
      refine bodyPost_ret (results_cell_tmp2 rfl _ _ w.heap.size 52 #[.bool false, .string ⟨#[]⟩, .slice none 0 0] (0, 0) _ rfl (set3 hblk.out) Tryz.underlying52 rfl (by kernel_rfl) _ _ rfl rfl) rfl ?_
      exact ritemPost_no hsp.out hT.out _ _ _
    · have hre1 : ¬ r.toList = [] := by
        rw [ByteArray.toList_eq]
        intro e
        exact hr0 (by rw [← toList_size, e]; rfl)
      have hre2 : r.toList.isEmpty = false := by simpa using hre1
      have hrp : 0 < r.size := by omega
      have hrpi : (0 : Int) < (r.size : Int) := by omega
      obtain ⟨a, ha⟩ : ∃ a, a = r[0]'hrp := ⟨_, rfl⟩
      have hl0 : r.data.toList[0]? = some a := by rw [ha, Array.getElem?_toList, Array.getElem?_eq_getElem hrp]; rfl
      by_cases h41 : a = 41
      · have q41 : (((r[0]'hrp).toNat : Int) != 41) = false := by rw [← ha, h41]; rfl
        obtain ⟨A, c, rfl, hLc, hcm, hks⟩ := hRH.out.2.2.1.form
        have hr41 : r.data.toList = 41 :: r.data.toList.drop 1 := by
          rw [h41] at hl0
          generalize r.data.toList = q at *
          cases q with
          | nil => cases hl0
          | cons x q =>
            simp only [List.getElem?_cons_zero, Option.some.injEq] at hl0
            rw [hl0]; rfl
        have hl1 := hlp.out
        rw [hr41] at hl1
        have hLb : L.length ≤ 65536 := by
          have h1 := hl1.1.1
          have h2 := hs.out
          rw [← toList_size, hs1e.out] at h2
          simp only [List.length_cons] at h1 h2
          omega
        have hsp := Lib.hid (item_end hl1 hLb)
        rw [← hs1e.out, ← extract_toList] at hsp
        have hr1i : (1 : Int) ≤ (r.size : Int) := by omega
        have hks := Lib.hid hks
        obtain ⟨nL, hnL⟩ : ∃ nL, nL = L.length := ⟨_, rfl⟩
        rw [← hnL] at f2 hLc
        have hLc := Lib.hid hLc
        replace hnL := Lib.hid hnL
        clear hr41 hl0 hl1 ha h41 hRH
        go_upto_region 16 with fail
        go_region
        go_wp2_with fail
        (try simp only [Exit.inBlock, Exit.then])
        refine bodyPost_ret (results_cell_tmp2 rfl _ _ w.heap.size 52 #[.bool true, .string ⟨#[]⟩, .slice A nL c] (0, 0) _ rfl (show ((((wr.setCell ⟨w.heap.size, 0, none⟩ (.bool true)).setCell ⟨w.heap.size, 1, none⟩ (.string ⟨#[]⟩)).setCell ⟨w.heap.size, 2, none⟩ (.slice A nL c)).drew).heap[w.heap.size]? = some (.cells #[.bool true, .string ⟨#[]⟩, .slice A nL c] 52 (0, 0)) from set3 hblk.out) Tryz.underlying52 rfl (by kernel_rfl) _ _ rfl rfl) rfl ?_
        refine ⟨.mk true [] L, _, _, _, true, r.extract 1 r.size, rfl, ?_, hsp.out, (((hT.out.setCell (Nat.le_refl _) _).setCell (Nat.le_refl _) _).setCell (Nat.le_refl _) _).drew⟩
        unfold FK
        rw [hnL.out]
        exact ⟨A, c, rfl, by rw [← hnL.out]; exact hLc.out, by omega, FKs.move (fun b hb => ⟨⟨by omega, by show b < (((wr.setCell _ _).setCell _ _).setCell _ _).heap.size; rw [size_set, size_set, size_set]; exact hb.2⟩, by show (((wr.setCell _ _).setCell _ _).setCell _ _).heap[b]? = _; exact set3_ne (by omega) _ _ _⟩) L A 0 hks.out⟩
      · have q41 : (((r[0]'hrp).toNat : Int) != 41) = true := by
          rw [← ha, bne_iff_ne]
          intro h
          exact h41 (UInt8.toNat_inj.1 (by have : ((41 : UInt8).toNat : Int) = 41 := rfl; omega))
        have hn41 : r.data.toList[0]? ≠ some 41 := by rw [hl0]; simpa using h41
        have hrb : r.size + L.length ≤ 65536 := by
          have h1 := hlp.out.1.1
          have h2 := hs.out
          rw [toList_size] at h1
          rw [← toList_size, hs1e.out] at h2
          simp only [List.length_cons] at h2
          omega
        have CI := ihH.out (by omega) r wr (by omega)
        rw [show ((deep + 1 : Nat) : Int) = (deep : Int) + 1 from by omega] at CI
        have CIH := Lib.hid CI
        have hn41H := Lib.hid hn41
        have hrbH := Lib.hid hrb
        clear CI hn41 hl0 ha h41 hrb
        go_wp2_with fail
        refine (CIH.out).mono ?_
        rintro ev w3 ⟨f, x0, x1, x2, ok, r3, rfl, hFK, hsp3, hT3⟩
        have hb3 := (hT3.block _ (heap_lt hblk.out)).trans hblk.out
        have hf3 := (hT3.block _ (heap_lt hfb.out)).trans hfb.out
        have hB3 := hRH.out.2.2.1.keep (w' := w3) (fun b h1 h2 => hT3.block b h2) hT3.size
        have hTT := hT.out.trans (hT3.mono hT.out.size)
        obtain ⟨fb, ft, fl⟩ := f
        have hFK2 := hFK
        unfold FK at hFK2
        obtain ⟨A2, c2, hcs, _⟩ := hFK2
        simp only [List.cons.injEq, and_true] at hcs
        obtain ⟨rfl, rfl, rfl⟩ := hcs
        obtain ⟨w4, hw4⟩ : ∃ w4, w4 = w3.alloc (.cells #[.bool fb, .string ⟨ft.toArray⟩, .slice A2 fl.length c2] 52) := ⟨_, rfl⟩
        have hx4 : w4.heap[w3.heap.size]? = some (.cells #[.bool fb, .string ⟨ft.toArray⟩, .slice A2 fl.length c2] 52 (0, 0)) := by rw [hw4]; exact heap_alloc_at _ _
        have hb4 : w4.heap[w.heap.size]? = some (.cells #[.bool false, .string ⟨#[]⟩, .slice none 0 0] 52 (0, 0)) := by rw [hw4, heap_alloc_lt _ _ _ (heap_lt hb3)]; exact hb3
        have hf4 : w4.heap[w.heap.size + 1]? = some (.cells #[.bool true, .string ⟨#[]⟩, v] 52 (0, 0)) := by rw [hw4, heap_alloc_lt _ _ _ (heap_lt hf3)]; exact hf3
        have hT4 : Below w.heap.size w w4 := by rw [hw4]; exact hTT.alloc (Nat.le_of_lt (heap_lt hb3)) _
        have hs4 : w4.heap.size = w3.heap.size + 1 := by rw [hw4]; simp
        have hB4 := hB3.keep (w' := w4) (fun b h1 h2 => by rw [hw4]; exact heap_alloc_lt _ _ _ h2) (by omega)
        have hF4 : FK (fun b => wr.heap.size ≤ b ∧ b < w3.heap.size) w4 (.mk fb ft fl) [.bool fb, .string ⟨ft.toArray⟩, .slice A2 fl.length c2] := FK.move (fun b hb => ⟨hb, by rw [hw4]; exact heap_alloc_lt _ _ _ hb.2⟩) _ _ hFK
        obtain ⟨y0, y1, y2, _, yz⟩ := blk3 hx4
        obtain ⟨k0, k1, k2, hsh, hfz⟩ := blk3 hb4
        obtain ⟨f0, f1, f2, _, hfzf⟩ := blk3 hf4
        obtain ⟨nl, hnl⟩ : ∃ nl, nl = fl.length := ⟨_, rfl⟩
        rw [← hnl] at hw4 hF4 y2 hx4 ⊢
        replace hnl := Lib.hid hnl
        have hw3 := Lib.hid (show wr.heap.size ≤ w3.heap.size from hT3.size)
        have hlo := Lib.hid (show w.heap.size + 1 < wr.heap.size from heap_lt hfb.out)
        replace hx4 := Lib.hid hx4
        replace hb4 := Lib.hid hb4
        replace hf4 := Lib.hid hf4
        replace hT4 := Lib.hid hT4
        replace hs4 := Lib.hid hs4
        replace hB4 := Lib.hid hB4
        replace hF4 := Lib.hid hF4
        replace hsp3 := Lib.hid hsp3
        clear hb3 hf3 hB3 hTT hFK hT3
        cases ok with
        | false =>
          have hsp := Lib.hid (item_nil (item_fail hlp.out hn41H.out hsp3.out (.mk false [] [])) (f0 := .mk false [] []))
          rw [← hs1e.out] at hsp
          go_upto_region 10 with fail
          rw [← hw4]
          replace hw4 := Lib.hid hw4
          go_wp2_with fail
          (try simp only [Exit.inBlock, Exit.then])
          refine bodyPost_ret (results_cell_tmp2 rfl _ _ w.heap.size 52 #[.bool false, .string ⟨#[]⟩, .slice none 0 0] (0, 0) _ rfl (set3 hb4.out) Tryz.underlying52 rfl (by kernel_rfl) _ _ rfl rfl) rfl ?_
          exact ritemPost_no hsp.out hT4.out _ _ _
        | true =>
          have hlp2 := Lib.hid (loop_step hlp.out hn41H.out hsp3.out)
          have hr3 := Lib.hid (hsp3.out.2.1 rfl)
          obtain ⟨iF, hiF, hzF, hsF, hbF⟩ := infoF
          obtain ⟨cs, hown, hFC⟩ := hB4.out
          have hownH := Lib.hid hown
          have hFCH := Lib.hid hFC
          have hlb := Lib.hid (show L.length ≤ 65536 by have := hrbH.out; omega)
          obtain ⟨nL, hnL⟩ : ∃ nL, nL = L.length := ⟨_, rfl⟩
          rw [← hnL] at hownH hlb
          replace hnL := Lib.hid hnL
          have hnb := Lib.hid (show some (w.heap.size + 1) ≠ v.ownBlock from fun e => by have := (hB4.out.lt _ e.symm).1; omega)
          clear hown hFC
          go_upto_region 10 with fail
          rw [← hw4]
          replace hw4 := Lib.hid hw4
          go_upto_region 12 with fail
          go_wp2_with (at_builtin; refine wpList_append_lies _ (by rfl) _ _ _ (by rfl) (w.heap.size + 2) 52 iF _ 3 48 Tryz.underlying50 hiF hzF hsF hbF rfl (by omega) v nL cs (by rfl) (hownH.out.alloc _) ⟨w4.heap.size, 0, none⟩ 1 1 [.bool fb, .string ⟨ft.toArray⟩, .slice A2 nl c2] (by rfl) (by rfl) (World.news_of_block (heap_alloc_at w4 _)) (by simp [Value.oneCell']) (by omega) (by have := hlb.out; unfold maxLen; omega) (by have := hlb.out; omega) (by have := hlo.out; have := hw3.out; have := hs4.out; simp; omega) (w4.heap.size + 1) (by simp) ?_; intro g5 cap5 w5 hown5 hgrow5 hat5 hlt5; have hf5 := (hgrow5.block (w.heap.size + 1) (by have := heap_lt hf4.out; simp; omega) hnb.out).trans ((heap_alloc_lt w4 _ _ (heap_lt hf4.out)).trans hf4.out); have f5 : w5.cell? ⟨w.heap.size + 1, 2, none⟩ = some v := (by rw [cell_of hf5]; rfl); have z5 : w5.frozen? ⟨w.heap.size + 1, 2, none⟩ = false := fr_of hf5 2; replace hf5 := Lib.hid hf5; replace hgrow5 := Lib.hid hgrow5; replace hown5 := Lib.hid hown5; replace hat5 := Lib.hid hat5)
          go_roundg r3.size
          case measure => have := hr3.out; rw [toList_size, toList_size] at this; rw [hgk.out]; exact this
          case rel =>
            refine ⟨L ++ [.mk fb ft fl], .slice (some ⟨g5, 0, none⟩) (nL + 1) cap5, r3, rfl, rfl, ?_⟩
            have hsz5 := hgrow5.out.size
            simp only [size_alloc] at hsz5
            have blk5 : ∀ b, b < w4.heap.size → some b ≠ v.ownBlock → w5.heap[b]? = w4.heap[b]? := fun b h1 h2 => (hgrow5.out.block b (by simp only [size_alloc]; omega) h2).trans (heap_alloc_lt w4 _ _ h1)
            have hvb : ∀ b, b < w.heap.size + 2 → some b ≠ v.ownBlock := fun b hb e => by have := (hB4.out.lt _ e.symm).1; omega
            have hsz4 := heap_lt hf4.out
            have hgr : w4.grownBy w5 v.ownBlock := ⟨hgrow5.out.os, hgrow5.out.tape, hgrow5.out.output, by omega, fun k h1 h2 => blk5 k h1 h2⟩
            have hT5 : Below w.heap.size w w5 := ⟨hgr.os.trans hT4.out.os, hgr.tape.trans hT4.out.tape, hgr.output.trans hT4.out.output, Nat.le_trans hT4.out.size hgr.size, fun k h1 => (blk5 k (by omega) (hvb k (by omega))).trans (hT4.out.block k h1)⟩
            have hbag : Bag (w.heap.size + 2) w5 (.slice (some ⟨g5, 0, none⟩) (nL + 1) cap5) (L ++ [.mk fb ft fl]) := by
              rw [hnL.out] at hown5 ⊢
              refine Bag.push hFCH.out (FK.move (fun b hb => ⟨⟨by have := hlo.out; omega, by have := hs4.out; omega, fun e => by have := (hRH.out.2.2.1.lt _ e.symm).2; omega⟩, rfl⟩) _ _ hF4.out) hown5.out hgr ?_
              rcases hat5.out with h | h
              · exact .inl h
              · right; omega
            refine ⟨?_, ?_, ?_, hlp2.out, hT5.setCell (by show w.heap.size ≤ w.heap.size + 1; omega) _⟩
            · rw [heap_set_ne _ _ _ _ (by show w.heap.size ≠ w.heap.size + 1; omega), blk5 _ (by omega) (hvb _ (by omega))]
              exact hb4.out
            · exact heap_set _ _ _ _ _ _ _ hf5.out
            · exact hbag.keep (fun b h1 h2 => heap_set_ne _ _ _ _ (by show b ≠ w.heap.size + 1; omega)) (by rw [size_set]; exact Nat.le_refl _)
theorem ritem_c (d : Nat) : ∀ deep : Nat, deep + d = 8 → RItemAt deep := by
  induction d with
  | zero =>
    intro deep hd s w hs
    by_cases h0 : s.data.toList[0]? = some 40
    · exact ritem_list_c deep (by omega) (fun h8 => absurd h8 (by omega)) s w hs h0
    · exact ritem_text_c deep s w hs h0
  | succ d ih =>
    intro deep hd s w hs
    by_cases h0 : s.data.toList[0]? = some 40
    · exact ritem_list_c deep (by omega) (fun h8 => ih (deep + 1) (by omega)) s w hs h0
    · exact ritem_text_c deep s w hs h0
end Go.Proofs.YtbefkoljcacpcaaGreatDoor.Tm
set_option linter.unusedVariables false
set_option linter.unusedSimpArgs false
namespace Go.Proofs.YtbefkoljcacpcaaGreatDoor.Tm
open Go Go.RowKit Go.Proofs.YtbefkoljcacpcaaGreatDoor.B Go.Proofs.YtbefkoljcacpcaaGreatDoor.Bld
def RReadPost (s : ByteArray) (w : World) (ev : Ending) (w' : World) : Prop :=
  ∃ f c0 c1 c2 er, ev = .returned (.tuple #[.agg #[c0, c1, c2], .int .i64 er]) ∧ FK (fun b => w.heap.size ≤ b ∧ b < w'.heap.size) w' f [c0, c1, c2] ∧ (f.small = true ∧ (er = 0 ∨ er = 5)) ∧
    (∀ f', f'.right = true → f'.depth ≤ 8 → s.data.toList = f'.bytes → er = 0 ∧ f = f') ∧ Below w.heap.size w w'
set_option maxRecDepth 100000 in
set_option maxHeartbeats 4000000 in
theorem rread_c (s : ByteArray) (w : World) (hs : s.size ≤ 65536) : Calls Tryz.prog 31 #[.string s] w (RReadPost s w) := by
  have hsi : ¬ (65536 : Int) < (s.size : Int) := by omega
  obtain ⟨w0, hw0⟩ : ∃ w0, w0 = w.alloc (.cells #[.bool false, .string ⟨#[]⟩, .slice none 0 0] 52) := ⟨_, rfl⟩
  have hs0 : w0.heap.size = w.heap.size + 1 := by rw [hw0]; simp
  have hr0 : w0.heap[w.heap.size]? = some (.cells #[.bool false, .string ⟨#[]⟩, .slice none 0 0] 52 (0, 0)) := by rw [hw0]; exact heap_alloc_at _ _
  have hb0 : Below w.heap.size w w0 := by rw [hw0]; exact (Below.refl _ _).alloc (Nat.le_refl _) _
  have CI := Lib.hid (show Calls Tryz.prog 58 #[.string s, .int .i64 0] w0 (RItemPost 0 s w0) from ritem_c 8 0 rfl s w0 hs)
  replace hs0 := Lib.hid hs0
  replace hr0 := Lib.hid hr0
  replace hb0 := Lib.hid hb0
  go_enter Tryz.func31, Tryz.ntmps31
  go_upto_region 1 with fail
  rw [← hw0]
  replace hw0 := Lib.hid hw0
  go_wp2_with fail
  refine (CI.out).mono ?_
  rintro ev w3 ⟨f, x0, x1, x2, ok, r3, rfl, hFK, hsp3, hT3⟩
  have hb3 := (hT3.block _ (heap_lt hr0.out)).trans hr0.out
  have hbw := Lib.hid (hb0.out.trans (hT3.mono hb0.out.size))
  obtain ⟨fb, ft, fl⟩ := f
  have hFK2 := hFK
  unfold FK at hFK2
  obtain ⟨A2, c2, hcs, _⟩ := hFK2
  simp only [List.cons.injEq, and_true] at hcs
  obtain ⟨rfl, rfl, rfl⟩ := hcs
  obtain ⟨nl, hnl⟩ : ∃ nl, nl = fl.length := ⟨_, rfl⟩
  rw [← hnl] at hFK ⊢
  obtain ⟨w4, hw4⟩ : ∃ w4, w4 = w3.alloc (.cells #[.bool fb, .string ⟨ft.toArray⟩, .slice A2 nl c2] 52) := ⟨_, rfl⟩
  have hx4 : w4.heap[w3.heap.size]? = some (.cells #[.bool fb, .string ⟨ft.toArray⟩, .slice A2 nl c2] 52 (0, 0)) := by rw [hw4]; exact heap_alloc_at _ _
  have hb4 : w4.heap[w.heap.size]? = some (.cells #[.bool false, .string ⟨#[]⟩, .slice none 0 0] 52 (0, 0)) := by rw [hw4, heap_alloc_lt _ _ _ (heap_lt hb3)]; exact hb3
  have hB4 := Lib.hid (show Below w.heap.size w w4 by rw [hw4]; exact hbw.out.alloc (Nat.le_of_lt (heap_lt hb3)) _)
  have hF4 : FK (fun b => w0.heap.size ≤ b ∧ b < w3.heap.size) w4 (.mk fb ft fl) [.bool fb, .string ⟨ft.toArray⟩, .slice A2 nl c2] := FK.move (fun b hb => ⟨hb, by rw [hw4]; exact heap_alloc_lt _ _ _ hb.2⟩) _ _ hFK
  have hF4H := Lib.hid hF4
  have hs4 := Lib.hid (show w3.heap.size < w4.heap.size from heap_lt hx4)
  obtain ⟨y0, y1, y2, _, yz⟩ := blk3 hx4
  obtain ⟨k0, k1, k2, hsh, hfz⟩ := blk3 hb4
  replace hnl := Lib.hid hnl
  have hb4H := Lib.hid hb4
  have hspH := Lib.hid hsp3
  have fin : (ok = false ∨ ¬ r3.data.toList = []) → RReadPost s w (.returned (.tuple #[.agg #[.bool false, .string ⟨#[]⟩, .slice none 0 0], .int .i64 5])) (((w4.setCell ⟨w.heap.size, 0, none⟩ (.bool false)).setCell ⟨w.heap.size, 1, none⟩ (.string ⟨#[]⟩)).setCell ⟨w.heap.size, 2, none⟩ (.slice none 0 0)) := by
    intro h
    refine ⟨.mk false [] [], _, _, _, 5, rfl, FK.text _ _ ⟨#[]⟩, ⟨rfl, .inr rfl⟩, fun f' h1 h2 h3 => ?_, ((hB4.out.setCell (Nat.le_refl _) _).setCell (Nat.le_refl _) _).setCell (Nat.le_refl _) _⟩
    obtain ⟨e1, _, e2⟩ := hspH.out.2.2 f' [] h1 (by omega) (by rw [h3, List.append_nil])
    rcases h with h | h
    · rw [h] at e1; cases e1
    · exact absurd e2 h
  have finH := Lib.hid fin
  clear fin hx4 hb4 hF4 hFK hsp3 hT3 hb3
  cases ok with
  | false =>
    go_upto_region 4 with fail
    rw [← hw4]
    replace hw4 := Lib.hid hw4
    go_wp2_with fail
    (try simp only [Exit.inBlock, Exit.then])
    refine bodyPost_ret (results_cell_tmp rfl _ _ w.heap.size 52 #[.bool false, .string ⟨#[]⟩, .slice none 0 0] (0, 0) _ rfl (set3 hb4H.out) Tryz.underlying52 rfl (by kernel_rfl) _ rfl) rfl ?_
    exact finH.out (.inl (by first | trivial | rfl))
  | true =>
    by_cases hr : r3.data.toList = []
    · have hr1 : r3.toList = [] := by rw [ByteArray.toList_eq]; exact hr
      replace hr := Lib.hid hr
      go_upto_region 4 with fail
      rw [← hw4]
      replace hw4 := Lib.hid hw4
      go_wp2_with fail
      (try simp only [Exit.inBlock, Exit.then])
      refine bodyPost_ret (results_cell_tmp rfl _ _ w.heap.size 52 #[.bool fb, .string ⟨ft.toArray⟩, .slice A2 nl c2] (0, 0) _ rfl (set3 hb4H.out) Tryz.underlying52 rfl (by kernel_rfl) _ rfl) rfl ?_
      refine ⟨.mk fb ft fl, _, _, _, 0, rfl, ?_, ⟨hspH.out.1.2 rfl, .inl rfl⟩, fun f' h1 h2 h3 => ?_, ((hB4.out.setCell (Nat.le_refl _) _).setCell (Nat.le_refl _) _).setCell (Nat.le_refl _) _⟩
      · refine FK.move (fun b hb => ⟨⟨by have := hs0.out; omega, by rw [size_set, size_set, size_set]; have := hs4.out; omega⟩, set3_ne (by have := hs0.out; omega) _ _ _⟩) _ _ hF4H.out
      · exact ⟨rfl, (hspH.out.2.2 f' [] h1 (by omega) (by rw [h3, List.append_nil])).2.1⟩
    · have hr1 : ¬ r3.toList = [] := by rw [ByteArray.toList_eq]; exact hr
      have hr2 : r3.toList.isEmpty = false := by simpa using hr1
      replace hr := Lib.hid hr
      go_upto_region 4 with fail
      rw [← hw4]
      replace hw4 := Lib.hid hw4
      go_wp2_with fail
      (try simp only [Exit.inBlock, Exit.then])
      refine bodyPost_ret (results_cell_tmp rfl _ _ w.heap.size 52 #[.bool false, .string ⟨#[]⟩, .slice none 0 0] (0, 0) _ rfl (set3 hb4H.out) Tryz.underlying52 rfl (by kernel_rfl) _ rfl) rfl ?_
      exact finH.out (.inr hr.out)
set_option maxRecDepth 100000 in
set_option maxHeartbeats 4000000 in
theorem rwrite_c (f : F) (c0 c1 c2 : Value) (w : World) (hf : FV w.heap.size w f [c0, c1, c2]) (hr : f.right = true) (hd : f.depth ≤ 8) (hlen : f.bytes.length ≤ 65536) :
    Calls Tryz.prog 25 #[.agg #[c0, c1, c2]] w fun ev w' => ev = .returned (.tuple #[.string ⟨f.bytes.toArray⟩, .int .i64 0]) ∧ Below w.heap.size w w' := by
  obtain ⟨w0, hw0⟩ : ∃ w0, w0 = w.alloc (.cells #[c0, c1, c2] 52) := ⟨_, rfl⟩
  have hb0 : Below w.heap.size w w0 := by rw [hw0]; exact (Below.refl _ _).alloc (Nat.le_refl _) _
  have hx0 : w0.heap[w.heap.size]? = some (.cells #[c0, c1, c2] 52 (0, 0)) := by rw [hw0]; exact heap_alloc_at _ _
  have fvl : ∀ W, Below w0.heap.size w0 W → FV w.heap.size W f [c0, c1, c2] := fun W h => FV.below (hb0.trans (h.mono hb0.size)) _ _ hf
  have szl : ∀ W, Below w0.heap.size w0 W → w.heap.size ≤ W.heap.size := fun W h => Nat.le_trans hb0.size h.size
  have C1 := Lib.hid (fun W (h : Below w0.heap.size w0 W) => rright_any w.heap.size _ f (Nat.lt_succ_self _) hr c0 c1 c2 W (fvl W h) (szl W h) hd hlen)
  have C2 := Lib.hid (fun W (h : Below w0.heap.size w0 W) => rDepth_any w.heap.size _ f (Nat.lt_succ_self _) hr c0 c1 c2 W (fvl W h) (szl W h) hd hlen)
  have C3 := Lib.hid (fun W (h : Below w0.heap.size w0 W) => rsize_any w.heap.size _ f (Nat.lt_succ_self _) hr c0 c1 c2 W (fvl W h) (szl W h) hd hlen)
  have C4 := Lib.hid (fun W (h : Below w0.heap.size w0 W) => rbytes_any w.heap.size _ f (Nat.lt_succ_self _) hr c0 c1 c2 W (fvl W h) (szl W h) hd hlen)
  have hdi : ¬ (8 : Int) < ((f.depth : Nat) : Int) := by omega
  have hli : ¬ (65536 : Int) < ((f.bytes.length : Nat) : Int) := by omega
  generalize f.depth = dd at *
  generalize f.bytes.length = bl at *
  generalize f.bytes = fb at *
  have hx0H := Lib.hid hx0
  obtain ⟨fb0, ft, fl⟩ := f
  unfold FV at hf
  obtain ⟨A2, cc, hcs, _⟩ := hf
  simp only [List.cons.injEq, and_true] at hcs
  obtain ⟨rfl, rfl, rfl⟩ := hcs
  generalize fl.length = fn at *
  obtain ⟨k0, k1, k2, _, _⟩ := blk3 hx0
  replace hb0 := Lib.hid hb0
  clear hx0 hr hd hlen fvl szl
  go_enter Tryz.func25, Tryz.ntmps25
  go_upto_region 1 with fail
  rw [← hw0]
  replace hw0 := Lib.hid hw0
  go_wp2_with fail
  refine (C1.out w0 (Below.refl _ _)).mono ?_
  rintro ev w1 ⟨rfl, hb1⟩
  obtain ⟨a0, a1, a2, _, _⟩ := blk3 ((hb1.block _ (heap_lt hx0H.out)).trans hx0H.out)
  have D2 := C2.out w1 hb1
  replace hb1 := Lib.hid hb1
  go_wp2_with fail
  refine D2.mono ?_
  rintro ev w2 ⟨rfl, hb2⟩
  have hb2 := hb1.out.trans (hb2.mono hb1.out.size)
  obtain ⟨b0, b1, b2, _, _⟩ := blk3 ((hb2.block _ (heap_lt hx0H.out)).trans hx0H.out)
  have D3 := C3.out w2 hb2
  replace hb2 := Lib.hid hb2
  clear D2
  go_wp2_with fail
  refine D3.mono ?_
  rintro ev w3 ⟨rfl, hb3⟩
  have hb3 := hb2.out.trans (hb3.mono hb2.out.size)
  obtain ⟨d0, d1, d2, _, _⟩ := blk3 ((hb3.block _ (heap_lt hx0H.out)).trans hx0H.out)
  have D4 := C4.out w3 hb3
  replace hb3 := Lib.hid hb3
  clear D3
  go_wp2_with fail
  refine D4.mono ?_
  rintro ev w4 ⟨rfl, hb4⟩
  have hb4 := Lib.hid (hb3.out.trans (hb4.mono hb3.out.size))
  go_wp2_with fail
  go_ret2
  exact ⟨rfl, hb0.out.trans (hb4.out.mono hb0.out.size)⟩
end Go.Proofs.YtbefkoljcacpcaaGreatDoor.Tm
set_option linter.unusedVariables false
set_option linter.unusedSimpArgs false
namespace Go.Proofs.YtbefkoljcacpcaaGreatDoor.Wi
open Go Go.RowKit Go.Proofs.YtbefkoljcacpcaaGreatDoor.B Go.Proofs.YtbefkoljcacpcaaGreatDoor.Tm
def dg (l : List UInt8) : ByteArray := Sha.sha Sha.K Sha.H0 ⟨l.toArray⟩
def lnums (v : List Int) : List F := v.map fun x => txt (Lib.itoa x)
def lhave (l : List ByteArray) : List F := l.map fun s => txt s.data.toList
def lbody (v : List Int) (l : List ByteArray) (p : ByteArray) : List F := lnums v ++ [lst (lhave l), txt p.data.toList]
def lfull (v : List Int) (l : List ByteArray) (p : ByteArray) : List F := lbody v l p ++ [txt (dg (lst (lbody v l p)).bytes).data.toList]
def lbytes (v : List Int) (l : List ByteArray) (p : ByteArray) : List UInt8 := (lst (lfull v l p)).bytes
theorem txt_right (t : List UInt8) : (txt t).right = true := by unfold txt F.right; rfl
theorem txt_depth (t : List UInt8) : (txt t).depth = 0 := by unfold txt F.depth; rfl
theorem lst_right {l : List F} (h : rights l = true) : (lst l).right = true := by unfold lst F.right; rw [h]; rfl
theorem lst_depth (l : List F) : (lst l).depth = depths l + 1 := by unfold lst; rw [F.depth]
theorem rights_map {α : Type} (g : α → List UInt8) : ∀ l : List α, rights (l.map fun x => txt (g x)) = true
  | [] => by unfold rights; rfl
  | a :: l => by rw [List.map_cons, rights, txt_right, rights_map g l]; rfl
theorem depths_map {α : Type} (g : α → List UInt8) : ∀ l : List α, depths (l.map fun x => txt (g x)) = 0
  | [] => by unfold depths; rfl
  | a :: l => by rw [List.map_cons, depths, txt_depth, depths_map g l]; rfl
theorem lbody_right (v : List Int) (l : List ByteArray) (p : ByteArray) : (lst (lbody v l p)).right = true := by
  refine lst_right ?_
  unfold lbody
  rw [rights_append]
  unfold lnums
  rw [rights_map, rights, rights, rights, lst_right (by unfold lhave; exact rights_map _ _), txt_right]
  rfl
theorem lfull_right (v : List Int) (l : List ByteArray) (p : ByteArray) : (lst (lfull v l p)).right = true := by
  refine lst_right ?_
  have := lbody_right v l p
  unfold lst F.right at this
  simp only [Bool.and_eq_true] at this
  unfold lfull
  rw [rights_append, this.2, rights, rights, txt_right]
  rfl
theorem lbody_depths (v : List Int) (l : List ByteArray) (p : ByteArray) : depths (lbody v l p) = 1 := by
  unfold lbody
  rw [depths_append]
  unfold lnums
  rw [depths_map, depths, depths, depths, lst_depth, txt_depth]
  unfold lhave
  rw [depths_map]
  rfl
theorem lfull_depths (v : List Int) (l : List ByteArray) (p : ByteArray) : depths (lfull v l p) = 1 := by
  unfold lfull
  rw [depths_append, lbody_depths, depths, depths, txt_depth]
  rfl
theorem txt_len (t : List UInt8) (h : t.length ≤ 65536) : (txt t).bytes.length ≤ t.length + 6 := by
  unfold txt
  rw [txt_bytes, List.length_append, List.length_cons]
  have := dec_len5 t.length h
  omega
theorem bytess_map_len {α : Type} (g : α → List UInt8) (c : Nat) (hc : c ≤ 65536) : ∀ l : List α, (∀ x ∈ l, (g x).length ≤ c) → (bytess (l.map fun x => txt (g x))).length ≤ l.length * (c + 6)
  | [], _ => by unfold bytess; simp
  | a :: l, h => by
    rw [List.map_cons, bytess, List.length_append, List.length_cons, Nat.add_mul, Nat.one_mul]
    have h1 := txt_len (g a) (Nat.le_trans (h a (by simp)) hc)
    have h2 := h a (by simp)
    have h3 := bytess_map_len g c hc l (fun x hx => h x (by simp [hx]))
    omega
theorem lst_len (l : List F) : (lst l).bytes.length = (bytess l).length + 2 := by unfold lst; rw [lst_bytes]; simp
theorem flat4 : ∀ l : List Sha.W, (l.flatMap Sha.ofWord).length = 4 * l.length
  | [] => rfl
  | x :: l => by rw [List.flatMap_cons, List.length_append, flat4 l, List.length_cons]; unfold Sha.ofWord; simp; omega
theorem dg_size (l : List UInt8) : (dg l).size = 32 := by
  unfold dg Sha.sha
  show (Sha.shaL Sha.K Sha.H0 _).toArray.size = 32
  rw [List.size_toArray]
  unfold Sha.shaL
  rw [flat4, Sha.runs_length Sha.K _ Sha.H0 _ (Nat.le_refl _) (by rfl)]
theorem wright_nums {v : List Int} {l : List ByteArray} {p : ByteArray} (h : wright v l p = true) (k : Nat) (hk : k < 6) : 0 ≤ v.getD k 0 ∧ v.getD k 0 ≤ 2147483647 := by
  unfold wright numsOk at h
  simp only [Bool.and_eq_true] at h
  have := List.all_eq_true.1 h.1 k (List.mem_range.2 hk)
  unfold numOk at this
  simp only [Bool.and_eq_true, decide_eq_true_eq] at this
  have hl : lim k ≤ 2147483647 := by
    have : k = 0 ∨ k = 1 ∨ k = 2 ∨ k = 3 ∨ k = 4 ∨ k = 5 := by omega
    rcases this with rfl | rfl | rfl | rfl | rfl | rfl <;> decide
  omega
theorem wright_have {v : List Int} {l : List ByteArray} {p : ByteArray} (h : wright v l p = true) : l.length ≤ 128 ∧ (∀ s ∈ l, s.size = 64) ∧ p.size ≤ 12000 := by
  unfold wright at h
  simp only [Bool.and_eq_true] at h
  have h2 := h.2.2
  split at h2
  · simp only [Bool.and_eq_true, decide_eq_true_eq] at h2
    obtain ⟨hp, hn⟩ := h2
    unfold namesOk at hn
    simp only [Bool.and_eq_true, decide_eq_true_eq] at hn
    refine ⟨hn.2, fun s hs => ?_, ?_⟩
    · obtain ⟨k, hk, rfl⟩ := List.getElem_of_mem hs
      have := List.all_eq_true.1 hn.1 k (List.mem_range.2 hk)
      unfold okAt Dig.rightL at this
      simp only [Bool.and_eq_true, decide_eq_true_eq] at this
      rw [List.getD_eq_getElem?_getD, List.getElem?_eq_getElem hk] at this
      have := this.1.1
      rwa [toList_size] at this
    · rw [ByteArray.toList_eq] at hp
      have := toList_size p
      rw [hp] at this
      simp at this
      omega
  · split at h2
    · simp only [Bool.and_eq_true, decide_eq_true_eq] at h2
      obtain rfl := List.eq_nil_of_length_eq_zero h2.1
      exact ⟨by simp, fun s hs => (by cases hs), h2.2.2⟩
    · split at h2
      · simp only [Bool.and_eq_true, decide_eq_true_eq] at h2
        obtain rfl := List.eq_nil_of_length_eq_zero h2.2
        refine ⟨by simp, fun s hs => (by cases hs), ?_⟩
        have hp := h2.1
        rw [ByteArray.toList_eq] at hp
        have := toList_size p
        rw [hp] at this
        simp at this
        omega
      · cases h2
theorem itoa_le (n : Int) (h0 : 0 ≤ n) (h1 : n ≤ 2147483647) : (Lib.itoa n).length ≤ 21 := Lib.itoa_length_le n (by omega) (by omega)
theorem lbody_len {v : List Int} {l : List ByteArray} {p : ByteArray} (hv : v.length = 6) (h : wright v l p = true) : (lst (lbody v l p)).bytes.length ≤ 22000 := by
  obtain ⟨h1, h2, h3⟩ := wright_have h
  rw [lst_len]
  unfold lbody
  rw [bytess_append, List.length_append]
  have e1 : (bytess (lnums v)).length ≤ 6 * (21 + 6) := by
    have := bytess_map_len (fun x : Int => Lib.itoa x) 21 (by omega) v (fun x hx => by
      obtain ⟨k, hk, rfl⟩ := List.getElem_of_mem hx
      have := wright_nums h k (by omega)
      rw [List.getD_eq_getElem?_getD, List.getElem?_eq_getElem hk] at this
      exact itoa_le _ this.1 this.2)
    rw [hv] at this
    exact this
  have e2 : (bytess (lhave l)).length ≤ l.length * (64 + 6) := bytess_map_len (fun s : ByteArray => s.data.toList) 64 (by omega) l (fun s hs => by rw [toList_size, h2 s hs]; exact Nat.le_refl _)
  have e3 := txt_len p.data.toList (by rw [toList_size]; omega)
  rw [toList_size] at e3
  rw [bytess, bytess, bytess, List.length_append, List.length_append, lst_len, List.length_nil]
  have : l.length * (64 + 6) ≤ 128 * 70 := Nat.mul_le_mul_right _ h1
  omega
theorem lfull_len {v : List Int} {l : List ByteArray} {p : ByteArray} (hv : v.length = 6) (h : wright v l p = true) : (lst (lfull v l p)).bytes.length ≤ 23000 := by
  have h1 := lbody_len hv h
  rw [lst_len] at h1 ⊢
  unfold lfull
  rw [bytess_append, List.length_append, bytess, bytess, List.append_nil]
  have e3 := txt_len (dg (lst (lbody v l p)).bytes).data.toList (by rw [toList_size, dg_size]; omega)
  rw [toList_size, dg_size] at e3
  omega
end Go.Proofs.YtbefkoljcacpcaaGreatDoor.Wi
