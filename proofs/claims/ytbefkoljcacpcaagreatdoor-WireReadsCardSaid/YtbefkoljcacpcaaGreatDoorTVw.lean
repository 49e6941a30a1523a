/- What LawWireReads, LawWireWrites, LawWireSpoilt lean on, part w of 25: the texts WiB, WiV, WiF, WiX, WiG. -/
import Derived.Test.YtbefkoljcacpcaaGreatDoorTVo
import Derived.Test.YtbefkoljcacpcaaGreatDoorTVs
import Derived.Test.YtbefkoljcacpcaaGreatDoorTVv
set_option linter.unusedVariables false
set_option linter.unusedSimpArgs false
namespace Go.Proofs.YtbefkoljcacpcaaGreatDoor.Tm
open Go Go.RowKit Go.Proofs.YtbefkoljcacpcaaGreatDoorW.PrintWords Go.Proofs.YtbefkoljcacpcaaGreatDoor.B
theorem Bag.lower {base base' : Nat} {w : World} {v : Value} {L : List F} (h : Bag base w v L) (hb : base' ≤ base) : Bag base' w v L := by
  obtain ⟨cs, h1, h2⟩ := h
  exact ⟨cs, own_weaken h1 hb, FC.move (fun b ⟨e1, e2, e3⟩ => ⟨⟨Nat.le_trans hb e1, e2, e3⟩, rfl⟩) h2⟩
set_option maxRecDepth 100000 in
theorem rnum_c (n : Int) (h0 : -9223372036854775808 ≤ n) (h1 : n ≤ 9223372036854775807) (w : World) : Calls Tryz.prog 52 #[.int .i64 n] w fun ev w' => ev = .returned (vtext ⟨(Lib.itoa n).toArray⟩) ∧ Below w.heap.size w w' := by
  obtain ⟨w0, hw0⟩ : ∃ w0, w0 = w.alloc (.cells #[.bool false, .string ⟨#[]⟩, .slice none 0 0] 52) := ⟨_, rfl⟩
  have hb0 : Below w.heap.size w w0 := by rw [hw0]; exact (Below.refl _ _).alloc (Nat.le_refl _) _
  have hg : w0.heap[w.heap.size]? = some (.cells #[.bool false, .string ⟨#[]⟩, .slice none 0 0] 52 (0, 0)) := by rw [hw0]; exact heap_alloc_at _ _
  have CI := Lib.hid (digits_c n h0 h1 w0)
  have hgH := Lib.hid hg
  have hb0H := Lib.hid hb0
  clear hg hb0
  go_enter Tryz.func52, Tryz.ntmps52
  go_wp2_with fail
  rw [← hw0]
  replace hw0 := Lib.hid hw0
  refine (CI.out).mono ?_
  rintro ev w1 ⟨rfl, hb1⟩
  have hb1H := Lib.hid hb1
  clear hb1
  obtain ⟨t, ht⟩ : ∃ t : ByteArray, t = ⟨(Lib.itoa n).toArray⟩ := ⟨_, rfl⟩
  rw [← ht]
  replace ht := Lib.hid ht
  go_wp2_with fail
  refine (rtext_c _ w1).mono ?_
  rintro ev w2 ⟨rfl, hb2⟩
  have hg2 : w2.heap[w.heap.size]? = some (.cells #[.bool false, .string ⟨#[]⟩, .slice none 0 0] 52 (0, 0)) := by
    have hs := heap_lt hgH.out
    rw [hb2.block _ (Nat.lt_of_lt_of_le hs hb1H.out.size), hb1H.out.block _ hs]
    exact hgH.out
  have hbb := Lib.hid (hb0H.out.trans ((hb1H.out.mono (Nat.le_of_lt (heap_lt hgH.out))).trans (hb2.mono (Nat.le_trans (Nat.le_of_lt (heap_lt hgH.out)) hb1H.out.size))))
  unfold vtext
  obtain ⟨k0, k1, k2, hsh, hfz⟩ := blk3 hg2
  clear hb2
  go_wp2_with fail
  (try simp only [Exit.inBlock, Exit.then])
  refine bodyPost_ret (results_cell_row rfl _ _ w.heap.size 52 #[.bool false, .string t, .slice none 0 0] (0, 0) _ rfl (set3 hg2) Tryz.underlying52 rfl (by kernel_rfl)) rfl ⟨by rw [← ht.out]; rfl, ?_⟩
  exact ((hbb.out.setCell (Nat.le_refl _) _).setCell (Nat.le_refl _) _).setCell (Nat.le_refl _) _
end Go.Proofs.YtbefkoljcacpcaaGreatDoor.Tm
namespace Go.Proofs.YtbefkoljcacpcaaGreatDoor.Wi
open Go Go.RowKit Go.Proofs.YtbefkoljcacpcaaGreatDoorW.PrintWords Go.Proofs.YtbefkoljcacpcaaGreatDoor.B Go.Proofs.YtbefkoljcacpcaaGreatDoor.Tm
def BodyPost (vs : List Int) (l : List ByteArray) (p : ByteArray) (w : World) (ev : Ending) (w' : World) : Prop :=
  ∃ A c, ev = .returned (.slice A 8 c) ∧ Bag w.heap.size w' (.slice A 8 c) (lbody vs l p) ∧ Below w.heap.size w w'
set_option maxRecDepth 100000 in
set_option maxHeartbeats 16000000 in
theorem rbody_c (v0 v1 v2 v3 v4 v5 : Int) (A : Option Addr) (c : Nat) (l : List ByteArray) (p : ByteArray) (w : World) (hC : Kd.C Kd.string w A l.length l) (hc : l.length ≤ c) (hl128 : l.length ≤ 128) (hv : ∀ k, k < 6 → 0 ≤ ([v0, v1, v2, v3, v4, v5] : List Int).getD k 0 ∧ ([v0, v1, v2, v3, v4, v5] : List Int).getD k 0 ≤ 2147483647) :
    Calls Tryz.prog 26 #[.agg (letCells v0 v1 v2 v3 v4 v5 A l.length c p)] w (BodyPost [v0, v1, v2, v3, v4, v5] l p w) := by
  obtain ⟨g, hgs⟩ : ∃ g, g = w.heap.size := ⟨_, rfl⟩
  obtain ⟨w1, hw1⟩ : ∃ w1, w1 = w.alloc (.cells (letCells v0 v1 v2 v3 v4 v5 A l.length c p) 24) := ⟨_, rfl⟩
  have hb1 := Lib.hid (show Below w.heap.size w w1 by rw [hw1]; exact (Below.refl _ _).alloc (Nat.le_refl _) _)
  have hg1 := Lib.hid (show LetAt w1 g v0 v1 v2 v3 v4 v5 A l.length c p by unfold LetAt; rw [hw1, hgs]; exact heap_alloc_at _ _)
  have hgl1 := Lib.hid (show g < w1.heap.size from heap_lt hg1.out)
  unfold letCells at hw1 ⊢
  obtain ⟨n, hN⟩ : ∃ n, n = l.length := ⟨_, rfl⟩
  rw [← hN] at hc hw1 hg1 hl128 ⊢
  have hNH := Lib.hid hN
  have hCH := Lib.hid hC
  have hvH := Lib.hid hv
  clear hN hC hv
  go_enter Tryz.func26, Tryz.ntmps26
  go_upto_region 1 with fail
  rw [← hw1, ← hgs]
  replace hw1 := Lib.hid hw1
  replace hgs := Lib.hid hgs
  go_wp2_with fail
  refine (rlist_c none 0 0 w1).mono ?_
  rintro ev w2 ⟨rfl, hb2⟩
  unfold vlist
  obtain ⟨bh, hbh⟩ : ∃ bh, bh = w2.heap.size := ⟨_, rfl⟩
  obtain ⟨w3, hw3⟩ : ∃ w3, w3 = w2.alloc (.cells #[.bool true, .string ⟨#[]⟩, .slice none 0 0] 52) := ⟨_, rfl⟩
  have hs3 := Lib.hid (show w3.heap.size = bh + 1 by rw [hw3, hbh]; simp)
  have hb3 := Lib.hid (show Below w1.heap.size w1 w3 by rw [hw3]; exact hb2.alloc hb2.size _)
  have hh3 := Lib.hid (show w3.heap[bh]? = some (.cells #[.bool true, .string ⟨#[]⟩, .slice none 0 0] 52 (0, 0)) by rw [hw3, hbh]; exact heap_alloc_at _ _)
  have hg3 := Lib.hid (let_of hg1.out (hb3.out.block _ hgl1.out))
  have hB3 := Lib.hid (hb1.out.trans (hb3.out.mono hb1.out.size))
  have hgbh := Lib.hid (show g < bh by rw [hbh]; exact Nat.lt_of_lt_of_le hgl1.out hb2.size)
  clear hb2
  go_upto_region 2 with fail
  rw [← hw3, ← hbh]
  replace hw3 := Lib.hid hw3
  replace hbh := Lib.hid hbh
  go_wp2_with fail
  have hncH := Lib.hid hc
  have hmL := Lib.hid hl128
  go_loopg [4] n (fun g' i W => ∃ (k : Nat) (v : Value), g' = n - k ∧ k ≤ n ∧ i = .int .i64 k ∧ W.heap[bh]? = some (.cells #[.bool true, .string ⟨#[]⟩, v] 52 (0, 0)) ∧ Bag w3.heap.size W v (lhave (l.take k)) ∧ Tch (fun b => b = bh) w3 W)
  case atStart => exact ⟨0, .slice none 0 0, rfl, by omega, rfl, hh3.out, Bag.nil _ _, Tch.refl _ _⟩
  case round =>
    obtain ⟨k, v, hg', hk, rfl, hhb, hbag, hT⟩ := hrel
    subst hg'
    have hhbH := Lib.hid hhb
    have hbag2 := Lib.hid hbag
    have hT2 := Lib.hid hT
    have hlr := Lib.hid (let_of hg3.out (hT.block _ (heap_lt hg3.out) (show ¬ g = bh by have := hgbh.out; omega)))
    have hbr := Lib.hid (show Below w.heap.size w wr from hB3.out.trans (hT.below (B := w.heap.size) hB3.out.size (fun k hk _ => by subst hk; have := hgbh.out; have := hgs.out; omega)))
    obtain ⟨q0, q1, q2, q3, q4, q5, q6, q7⟩ := let_cells hlr.out
    by_cases hkn : k < n
    · have hki : (k : Int) < (n : Int) := by omega
      have hkl : k < l.length := by rw [← hNH.out]; exact hkn
      obtain ⟨b, o, rfl, hcell0⟩ := str_cell hCH.out k hkl
      have hcell := keepc hbr.out hcell0
      have hbw := Lib.hid (show b < w.heap.size from World.block_lt_of_cell? w _ hcell0)
      clear hcell0
      have hnext := Lib.hid (lhave_take l k hkl)
      obtain ⟨x, hx⟩ : ∃ x, x = l.getD k ByteArray.empty := ⟨_, rfl⟩
      rw [← hx] at hcell hnext
      replace hx := Lib.hid hx
      have hq2 : wr.cell? ⟨bh, 2, none⟩ = some v := by rw [cell_of hhb]; rfl
      obtain ⟨S, hS⟩ : ∃ S : World → Prop, S = fun W => W.cell? ⟨bh, 2, none⟩ = some v ∧ W.cell? ⟨g, 6, none⟩ = some (.slice (some ⟨b, o, none⟩) n c) ∧ W.cell? ⟨b, o + k, none⟩ = some (.string x) := ⟨_, rfl⟩
      have hSi : ∀ W, S W ↔ (W.cell? ⟨bh, 2, none⟩ = some v ∧ W.cell? ⟨g, 6, none⟩ = some (.slice (some ⟨b, o, none⟩) n c) ∧ W.cell? ⟨b, o + k, none⟩ = some (.string x)) := fun W => by rw [hS]
      have hS0 : S wr.drew := (hSi _).2 ⟨hq2, q6, hcell⟩
      have s1 : ∀ X : InS S, X.val.cell? ⟨bh, 2, none⟩ = some v := fun X => ((hSi X.val).1 X.mem).1
      have s2 : ∀ X : InS S, X.val.cell? ⟨g, 6, none⟩ = some (.slice (some ⟨b, o, none⟩) n c) := fun X => ((hSi X.val).1 X.mem).2.1
      have s3 : ∀ X : InS S, X.val.cell? ⟨b, o + k, none⟩ = some (.string x) := fun X => ((hSi X.val).1 X.mem).2.2
      have hne : Nonempty (InS S) := ⟨⟨wr.drew, hS0⟩⟩
      have hS0H := Lib.hid hS0
      have hSiH := Lib.hid hSi
      clear hS hSi hq2 hhb hbag hT hS0
      go_upto_region 5 with fail
      refine wp_region_mix S [0, 1, 2, 3, 4, 5, 6] [.mem [0, 1, 2, 3, 4, 5, 6], .keep 7, .keep 8, .keep 9, .pure [10], .last 11] (by kernel_rfl) (by kernel_rfl) hS0H.out ?_
      simp only [pick, List.getD_cons_zero, List.getD_cons_succ, wpMix]
      repeat (go_big_quiet_step (fail))
      refine wpQuiet_nil ?_
      have hbhs := heap_lt hhbH.out
      have hnb := Lib.hid (show ∀ b, b < w3.heap.size → some b ≠ v.ownBlock from fun b hb e => by have := (hbag2.out.lt _ e.symm).1; omega)
      have hbh3 := heap_lt hh3.out
      have hgl3 := heap_lt hg3.out
      obtain ⟨d1, d2, d3⟩ := (hSiH.out _).1 hS0H.out
      go_wp2_with (go_at_call 29; (with_reducible refine (rtext_c _ _).mono ?_); rintro ev w9 ⟨rfl, hb9⟩)
      have r1 := keepc hb9 d1
      have r2 := keepc hb9 d2
      have r3 := keepc hb9 d3
      have hbr9 := Lib.hid (show Below wr.heap.size wr w9 from ((Below.refl wr.heap.size wr).drew).trans hb9)
      have hbag9 := Lib.hid (hbag2.out.keep (w' := w9) (fun b h1 h2 => hbr9.out.block b h2) hbr9.out.size)
      clear hb9
      unfold vtext
      refine ⟨(hSiH.out _).2 ⟨r1, r2, r3⟩, ?_⟩
      go_wp2_with fail
      refine ⟨(hSiH.out _).2 ⟨cell_alloc r1 _, cell_alloc r2 _, cell_alloc r3 _⟩, ?_⟩
      have hlen := Lib.hid (show (lhave (l.take k)).length = k from by unfold lhave; rw [List.length_map, List.length_take]; omega)
      have hmL' := hmL.out
      go_wp2_with (at_builtin; refine bag_app (by rfl) _ _ _ (by rfl) Tryz.underlying50 (by rfl) k 1 1 (by rfl) (by rfl) hbag9.out (FC.texts _) hlen.out (by rfl) (by omega) (by omega) (Nat.le_trans hT2.out.size hbr9.out.size) ?_; intro g7 cap7 w10 hbag10 hgrew10)
      have hbw' := hbw.out
      have hB3s := hB3.out.size
      have u1 := hgrew10.cell r1 (hnb.out bh hbh3)
      have u2 := hgrew10.cell r2 (hnb.out g hgl3)
      have u3 := hgrew10.cell r3 (hnb.out b (by omega))
      have hf10 := hgrew10.heap ((hbr9.out.block _ (heap_lt hhbH.out)).trans hhbH.out) (hnb.out bh hbh3)
      refine ⟨(hSiH.out _).2 ⟨u1, u2, u3⟩, ?_⟩
      repeat (go_big_quiet_step (fail))
      refine wpQuiet_nil ?_
      have z10 : w10.frozen? ⟨bh, 2, none⟩ = false := fr_of hf10 2
      have hf10H := Lib.hid hf10
      have hbag10H := Lib.hid hbag10
      have hgrew10H := Lib.hid hgrew10
      clear hf10 hbag10 hgrew10 hbh3 hbhs hgl3 hbw' hB3s
      go_wp2_with fail
      simp only [stepPost]
      go_wp2_with fail
      go_roundg (n - (k + 1))
      case measure => omega
      case rel =>
        refine ⟨k + 1, .slice (some ⟨g7, 0, none⟩) (k + 1) cap7, rfl, by omega, by go_num, heap_set _ _ _ _ _ _ _ hf10H.out, ?_, ?_⟩
        · rw [hnext.out]
          exact hbag10H.out.keep (fun b h1 h2 => heap_set_ne _ _ _ _ (by show b ≠ bh; have := hs3.out; omega)) (by rw [size_set]; exact Nat.le_refl _)
        · exact (hgrew10H.out.tch (hT2.out.trans (Tch.of_new hbr9.out)) (fun b hb => (hbag2.out.lt b hb).1)).setCell ⟨bh, 2, none⟩ (fun _ => rfl) _
    · have hkn' : k = n := by omega
      subst hkn'
      have hki : ¬ (k : Int) < (k : Int) := by omega
      have ht : l.take k = l := List.take_of_length_le (by rw [← hNH.out]; exact Nat.le_refl _)
      rw [ht] at hbag2
      obtain ⟨vs, hvs⟩ : ∃ vs, vs = [v0, v1, v2, v3, v4, v5] := ⟨_, rfl⟩
      have hvs6 := Lib.hid (show vs.length = 6 by rw [hvs]; rfl)
      rw [← hvs] at hvH ⊢
      replace hvs := Lib.hid hvs
      obtain ⟨gn, hgn⟩ : ∃ gn, gn = wr.heap.size := ⟨_, rfl⟩
      obtain ⟨w4, hw4⟩ : ∃ w4, w4 = wr.alloc (.cells #[.int .i64 v0, .int .i64 v1, .int .i64 v2, .int .i64 v3, .int .i64 v4, .int .i64 v5] 3) := ⟨_, rfl⟩
      have hn4 := Lib.hid (show w4.heap[gn]? = some (.cells #[.int .i64 v0, .int .i64 v1, .int .i64 v2, .int .i64 v3, .int .i64 v4, .int .i64 v5] 3 (0, 0)) by rw [hw4, hgn]; exact heap_alloc_at _ _)
      have hb4 := Lib.hid (show Below wr.heap.size wr w4 by rw [hw4]; exact (Below.refl _ _).alloc (Nat.le_refl _) _)
      have hh4 := Lib.hid ((hb4.out.block _ (heap_lt hhbH.out)).trans hhbH.out)
      have hl4 := Lib.hid (let_of hlr.out (hb4.out.block _ (heap_lt hlr.out)))
      have hbag4 := Lib.hid (hbag2.out.keep (w' := w4) (fun b h1 h2 => hb4.out.block b h2) hb4.out.size)
      have hB4 := Lib.hid (hbr.out.trans (hb4.out.mono hbr.out.size))
      clear hhb hbag hT
      go_upto_region 7 with fail
      rw [← hw4, ← hgn]
      replace hw4 := Lib.hid hw4
      replace hgn := Lib.hid hgn
      clear q0 q1 q2 q3 q4 q5 q6 q7
      go_wp2_with fail
      go_loopg [7, 6] 6 (fun g' i o W => ∃ (k : Nat) (v : Value), g' = 6 - k ∧ k ≤ 6 ∧ i = .int .i64 k ∧ v = o ∧ Bag w4.heap.size W v (lnums (vs.take k)) ∧ Tch (fun _ => False) w4 W)
      case atStart => exact ⟨0, _, rfl, by omega, rfl, rfl, Bag.nil _ _, Tch.refl _ _⟩
      case round =>
        obtain ⟨k2, v', hg', hk, rfl, rfl, hbag, hT⟩ := hrel
        subst hg'
        have hbagA := Lib.hid hbag
        have hTA := Lib.hid hT
        have hnr := Lib.hid (hT.heap hn4.out (fun e => e))
        by_cases hk6 : k2 < 6
        · have hki2 : (k2 : Int) < 6 := by omega
          have hx1 : wr.cell? ⟨gn, k2, none⟩ = some (.int .i64 (vs.getD k2 0)) := by
            rw [cell_of hnr.out, hvs.out]
            exact six (P := fun k => (#[.int .i64 v0, .int .i64 v1, .int .i64 v2, .int .i64 v3, .int .i64 v4, .int .i64 v5] : Array Value)[k]? = some (.int .i64 (([v0, v1, v2, v3, v4, v5] : List Int).getD k 0))) hk6 rfl rfl rfl rfl rfl rfl
          have hnext := Lib.hid (lnums_take vs k2 (by rw [hvs6.out]; exact hk6))
          have hxb := hvH.out k2 hk6
          generalize vs.getD k2 0 = x at *
          have hlen := Lib.hid (show (lnums (vs.take k2)).length = k2 from by unfold lnums; rw [List.length_map, List.length_take, hvs6.out]; omega)
          clear hbag hT
          go_wp2_with fail
          refine (rnum_c x (by omega) (by omega) wr).mono ?_
          rintro ev w6 ⟨rfl, hb6⟩
          have hbag6 := Lib.hid (hbagA.out.keep (w' := w6) (fun b h1 h2 => hb6.block b h2) hb6.size)
          have hb6H := Lib.hid hb6
          have hs6 := Lib.hid (show w4.heap.size ≤ w6.heap.size from Nat.le_trans hTA.out.size hb6.size)
          unfold vtext
          obtain ⟨t, ht⟩ : ∃ t : ByteArray, t = ⟨(Lib.itoa x).toArray⟩ := ⟨_, rfl⟩
          rw [← ht]
          have htx := Lib.hid (show txt (Lib.itoa x) = txt t.data.toList by rw [ht])
          clear ht hb6
          go_wp2_with (at_builtin; refine bag_app (by rfl) _ _ _ (by rfl) Tryz.underlying50 (by rfl) k2 1 1 (by rfl) (by rfl) hbag6.out (FC.texts _) hlen.out (by rfl) (by omega) (by omega) hs6.out ?_; intro g7 cap7 w10 hbag10 hgrew10)
          have hbag10H := Lib.hid hbag10
          have hgrew10H := Lib.hid hgrew10
          clear hbag10 hgrew10
          go_wp2_with fail
          go_roundg (6 - (k2 + 1))
          case measure => omega
          case rel =>
            refine ⟨k2 + 1, _, rfl, by omega, by go_num, rfl, ?_, hgrew10H.out.tch (hTA.out.trans (Tch.of_new hb6H.out)) (fun b hb => (hbagA.out.lt b hb).1)⟩
            rw [hnext.out, htx.out]
            exact hbag10H.out
        · have hk6e : k2 = 6 := by omega
          subst hk6e
          have hki2 : ¬ ((6 : Nat) : Int) < 6 := by omega
          have htake : vs.take 6 = vs := List.take_of_length_le (by rw [hvs6.out]; exact Nat.le_refl _)
          rw [htake] at hbagA
          have hBr := Lib.hid (show Below w.heap.size w wr from hB4.out.trans (hT.below (B := w.heap.size) hB4.out.size (fun k hk _ => hk.elim)))
          have hhr := hT.heap hh4.out (fun e => e)
          have hlr2 := Lib.hid (let_of hl4.out (hT.block _ (heap_lt hl4.out) (fun e => e)))
          obtain ⟨Ah, ch, rfl, hcl, hcm, hks⟩ := hbag4.out.form
          have hll : (lhave l).length = k := by unfold lhave; rw [List.length_map]; exact hNH.out.symm
          rw [hll] at hcl hhr
          have hclH := Lib.hid hcl
          obtain ⟨z0, z1, z2, _, _⟩ := blk3 hhr
          have z3 : wr.cell? ⟨g, 7, none⟩ = some (.string p) := (let_cells hlr2.out).2.2.2.2.2.2.2
          obtain ⟨S, hS⟩ : ∃ S : World → Prop, S = fun W => W.cell? ⟨bh, 0, none⟩ = some (.bool true) ∧ W.cell? ⟨bh, 1, none⟩ = some (.string ⟨#[]⟩) ∧ W.cell? ⟨bh, 2, none⟩ = some (.slice Ah k ch) ∧ W.cell? ⟨g, 7, none⟩ = some (.string p) := ⟨_, rfl⟩
          have hSi : ∀ W, S W ↔ (W.cell? ⟨bh, 0, none⟩ = some (.bool true) ∧ W.cell? ⟨bh, 1, none⟩ = some (.string ⟨#[]⟩) ∧ W.cell? ⟨bh, 2, none⟩ = some (.slice Ah k ch) ∧ W.cell? ⟨g, 7, none⟩ = some (.string p)) := fun W => by rw [hS]
          have hS0 : S wr.drew := (hSi _).2 ⟨z0, z1, z2, z3⟩
          have s1 : ∀ X : InS S, X.val.cell? ⟨bh, 0, none⟩ = some (.bool true) := fun X => ((hSi X.val).1 X.mem).1
          have s2 : ∀ X : InS S, X.val.cell? ⟨bh, 1, none⟩ = some (.string ⟨#[]⟩) := fun X => ((hSi X.val).1 X.mem).2.1
          have s3 : ∀ X : InS S, X.val.cell? ⟨bh, 2, none⟩ = some (.slice Ah k ch) := fun X => ((hSi X.val).1 X.mem).2.2.1
          have s4 : ∀ X : InS S, X.val.cell? ⟨g, 7, none⟩ = some (.string p) := fun X => ((hSi X.val).1 X.mem).2.2.2
          have hne : Nonempty (InS S) := ⟨⟨wr.drew, hS0⟩⟩
          have hS0H := Lib.hid hS0
          have hSiH := Lib.hid hSi
          have hksH := Lib.hid hks
          have hsz := Lib.hid hT.size
          clear hS hSi hS0 z0 z1 z2 z3 hbag hT hhr hks hcl hcm hll htake
          go_upto_region 12 with fail
          refine wp_region_mix S [0, 1, 2, 3] [.mem [0, 1, 2, 3], .keep 4, .keep 5, .keep 6, .pure [7]] (by kernel_rfl) (by kernel_rfl) hS0H.out ?_
          simp only [pick, List.getD_cons_zero, List.getD_cons_succ, wpMix]
          repeat (go_big_quiet_step (fail))
          refine wpQuiet_nil ?_
          obtain ⟨d1, d2, d3, d4⟩ := (hSiH.out _).1 hS0H.out
          go_wp2_with (go_at_call 29; (with_reducible refine (rtext_c _ _).mono ?_); rintro ev w9 ⟨rfl, hb9⟩)
          have r1 := keepc hb9 d1
          have r2 := keepc hb9 d2
          have r3 := keepc hb9 d3
          have r4 := keepc hb9 d4
          have hbr9 := Lib.hid (show Below wr.heap.size wr w9 from ((Below.refl wr.heap.size wr).drew).trans hb9)
          have hBw9 := Lib.hid (hBr.out.trans (hbr9.out.mono hBr.out.size))
          have hbag9 := Lib.hid ((hbagA.out.keep (w' := w9) (fun b h1 h2 => hbr9.out.block b h2) hbr9.out.size).lower hB4.out.size)
          clear hb9
          unfold vtext
          refine ⟨(hSiH.out _).2 ⟨r1, r2, r3, r4⟩, ?_⟩
          go_wp2_with fail
          refine ⟨(hSiH.out _).2 ⟨cell_alloc r1 _, cell_alloc r2 _, cell_alloc r3 _, cell_alloc r4 _⟩, ?_⟩
          have hown := Lib.hid (show ∀ b, v'.ownBlock = some b → w4.heap.size ≤ b from fun b hb => (hbagA.out.lt b hb).1)
          have hFl := Lib.hid (show FK (fun b => w.heap.size ≤ b ∧ b < w9.heap.size ∧ some b ≠ v'.ownBlock) w9 (lst (lhave l)) [.bool true, .string ⟨#[]⟩, .slice Ah k ch] by
            unfold lst FK
            rw [show (lhave l).length = k from by unfold lhave; rw [List.length_map]; exact hNH.out.symm]
            refine ⟨Ah, ch, rfl, hclH.out, by have := hmL.out; omega, FKs.move (fun b hb => ⟨⟨by have := hB3.out.size; omega, by have := hbr9.out.size; have := hsz.out; omega, fun e => by have := hown.out b e.symm; omega⟩, (hbr9.out.block b (by have := hsz.out; omega)).trans (hTA.out.block b hb.2 (fun e => e))⟩) _ Ah 0 hksH.out⟩)
          have hlen := Lib.hid (show (lnums vs).length = 6 from by unfold lnums; rw [List.length_map]; exact hvs6.out)
          go_wp2_with (at_builtin; refine bag_app (G := [lst (lhave l), txt p.data.toList]) (by rfl) _ _ _ (by rfl) Tryz.underlying50 (by rfl) 6 2 2 (by rfl) (by rfl) hbag9.out ⟨_, _, _, _, rfl, hFl.out, FC.texts _⟩ hlen.out (by rfl) (by omega) (by omega) hBw9.out.size ?_; intro g10 cap10 w10 hbag10 hgrew10)
          have hB10 := Lib.hid (hgrew10.below hBw9.out hBw9.out.size (fun b hb => Nat.le_trans hB4.out.size (hown.out b hb)))
          have hbh' := hgbh.out
          have hgs' := hgs.out
          have u1 := hgrew10.cell r1 (fun e => by have := hown.out _ e.symm; have := heap_lt hh4.out; simp only at *; omega)
          have u2 := hgrew10.cell r2 (fun e => by have := hown.out _ e.symm; have := heap_lt hh4.out; simp only at *; omega)
          have u3 := hgrew10.cell r3 (fun e => by have := hown.out _ e.symm; have := heap_lt hh4.out; simp only at *; omega)
          have u4 := hgrew10.cell r4 (fun e => by have := hown.out _ e.symm; have := heap_lt hl4.out; simp only at *; omega)
          refine ⟨(hSiH.out _).2 ⟨u1, u2, u3, u4⟩, ?_⟩
          repeat (go_big_quiet_step (fail))
          refine wpQuiet_nil ?_
          have hbag10H := Lib.hid hbag10
          clear hbag10 hgrew10 r1 r2 r3 r4 u1 u2 u3 u4 d1 d2 d3 d4 s1 s2 s3 s4
          go_wp2_with fail
          go_ret
          refine ⟨_, _, rfl, ?_, hB10.out⟩
          have hb := hbag10H.out
          rw [hvs.out] at hb
          exact hb
end Go.Proofs.YtbefkoljcacpcaaGreatDoor.Wi
set_option linter.unusedVariables false
set_option linter.unusedSimpArgs false
namespace Go.Proofs.YtbefkoljcacpcaaGreatDoor.Wi
open Go Go.RowKit Go.Proofs.YtbefkoljcacpcaaGreatDoorW.PrintWords Go.Proofs.YtbefkoljcacpcaaGreatDoor.B Go.Proofs.YtbefkoljcacpcaaGreatDoor.Tm
def NoLetter (s : ByteArray) : Prop := ∀ vs l p, vs.length = 6 → wright vs l p = true → s.data.toList ≠ lbytes vs l p
def wireB : ByteArray := ⟨#[119, 105, 114, 101]⟩
def WReadPost (s : ByteArray) (w : World) (ev : Ending) (w' : World) : Prop :=
  Below w.heap.size w w' ∧
  ((∃ v0 v1 v2 v3 v4 v5 A c l p, wright [v0, v1, v2, v3, v4, v5] l p = true ∧ s.data.toList = lbytes [v0, v1, v2, v3, v4, v5] l p ∧ ev = .returned (.tuple #[.agg (letCells v0 v1 v2 v3 v4 v5 A l.length c p), .nilIface]) ∧ Kd.C Kd.string w' A l.length l ∧ l.length ≤ c) ∨
   (NoLetter s ∧ ∃ b, ev = .returned (.tuple #[.agg (letCells 0 0 0 0 0 0 none 0 0 ⟨#[]⟩), .iface 42 (.pointer (some ⟨b, 0, none⟩))]) ∧ w.heap.size ≤ b ∧ w'.heap[b]? = some (.cells #[.string wireB, errno 5] 46 (0, 0))))
set_option maxRecDepth 100000 in
set_option maxHeartbeats 16000000 in
theorem wread_c (s : ByteArray) (w : World) (hs : s.size ≤ 65536) (he : Errs w) (htab : Tab w) (hgB : 1 < w.heap.size) :
    Calls Tryz.prog 8 #[.string s] w (WReadPost s w) := by
  obtain ⟨R, hR⟩ : ∃ R, R = w.heap.size := ⟨_, rfl⟩
  obtain ⟨w1, hw1⟩ : ∃ w1, w1 = w.alloc (.cells #[.int .i64 0, .int .i64 0, .int .i64 0, .int .i64 0, .int .i64 0, .int .i64 0, .slice none 0 0, .string ⟨#[]⟩] 24) := ⟨_, rfl⟩
  have hs1 := Lib.hid (show w1.heap.size = R + 1 by rw [hw1, hR]; simp)
  have hr1 := Lib.hid (show w1.heap[R]? = some (.cells #[.int .i64 0, .int .i64 0, .int .i64 0, .int .i64 0, .int .i64 0, .int .i64 0, .slice none 0 0, .string ⟨#[]⟩] 24 (0, 0)) by rw [hw1, hR]; exact heap_alloc_at _ _)
  have hb1 := Lib.hid (show Below w.heap.size w w1 by rw [hw1]; exact (Below.refl _ _).alloc (Nat.le_refl _) _)
  have CR := Lib.hid (parse_c s w1 hs (he.below hb1.out) (htab.keep hb1.out hgB) (by rw [hs1.out, hR]; omega))
  have htabH := Lib.hid htab
  have hgBH := Lib.hid hgB
  clear he htab hgB
  go_enter Tryz.func8, Tryz.ntmps8
  go_upto_region 1 with fail
  rw [← hw1, ← hR]
  replace hw1 := Lib.hid hw1
  replace hR := Lib.hid hR
  go_wp2_with fail
  refine (CR.out).mono ?_
  rintro ev w2 ⟨v0, v1, v2, v3, v4, v5, A, c, l, p, er, rfl, hC, hc, hl, hls, hp, hers, hb2, hlo, hspec⟩
  have hrw2 := Lib.hid ((hb2.block _ (heap_lt hr1.out)).trans hr1.out)
  obtain ⟨L, hL⟩ : ∃ L, L = w2.heap.size := ⟨_, rfl⟩
  obtain ⟨w3, hw3⟩ : ∃ w3, w3 = w2.alloc (.cells (letCells v0 v1 v2 v3 v4 v5 A l.length c p) 24) := ⟨_, rfl⟩
  have hs3 := Lib.hid (show w3.heap.size = L + 1 by rw [hw3, hL]; simp)
  have hl3 := Lib.hid (show w3.heap[L]? = some (.cells (letCells v0 v1 v2 v3 v4 v5 A l.length c p) 24 (0, 0)) by rw [hw3, hL]; exact heap_alloc_at _ _)
  have hb23 := Lib.hid (show Below w2.heap.size w2 w3 by rw [hw3]; exact (Below.refl _ _).alloc (Nat.le_refl _) _)
  have hr3 := Lib.hid ((hb23.out.block _ (heap_lt hrw2.out)).trans hrw2.out)
  have hB3 := Lib.hid (show Below w.heap.size w w3 from (hb1.out.trans (hb2.mono hb1.out.size)).trans (hb23.out.mono (Nat.le_trans hb1.out.size hb2.size)))
  have hC3 := Lib.hid (Kd.C_below hC hb23.out)
  have hRL := Lib.hid (show R < L by rw [hL]; exact heap_lt hrw2.out)
  have CW := Lib.hid (wwrite_c v0 v1 v2 v3 v4 v5 A c l p w3 hC3.out hc (by omega) (fun x hx => by have := hls x hx; omega) (htabH.out.keep hB3.out hgBH.out) (Nat.lt_of_lt_of_le hgBH.out hB3.out.size))
  have hspecH := Lib.hid hspec
  have hcH := Lib.hid hc
  have hloH := Lib.hid hlo
  have fault := Lib.hid (show ∀ (W : World) (X : World), R < W.heap.size → Below w.heap.size w W → X = W.alloc (.cells #[.string wireB, errno 5] 46) → NoLetter s → WReadPost s w (.returned (.tuple #[.agg (letCells 0 0 0 0 0 0 none 0 0 ⟨#[]⟩), .iface 42 (.pointer (some ⟨W.heap.size, 0, none⟩))])) ((((((((X.setCell ⟨R, 0, none⟩ (.int .i64 0)).setCell ⟨R, 1, none⟩ (.int .i64 0)).setCell ⟨R, 2, none⟩ (.int .i64 0)).setCell ⟨R, 3, none⟩ (.int .i64 0)).setCell ⟨R, 4, none⟩ (.int .i64 0)).setCell ⟨R, 5, none⟩ (.int .i64 0)).setCell ⟨R, 6, none⟩ (.slice none 0 0)).setCell ⟨R, 7, none⟩ (.string ⟨#[]⟩)) from fun W X h0 h1 h2 h3 => by
    subst h2
    refine ⟨below_set8 (h1.alloc h1.size _) (by rw [hR.out]; exact Nat.le_refl _) _ _ _ _ _ _ _ _, .inr ⟨h3, W.heap.size, rfl, h1.size, ?_⟩⟩
    rw [set8_ne (by omega)]
    exact heap_alloc_at _ _)
  obtain ⟨n, hN⟩ : ∃ n, n = l.length := ⟨_, rfl⟩
  unfold letCells at CW hl3 hw3 ⊢
  rw [← hN] at CW hl3 hw3 ⊢
  replace hN := Lib.hid hN
  obtain ⟨r0, r1, r2, r3, r4, r5, r6, r7, rsh, rfz⟩ := let_facts hr3.out
  obtain ⟨f0, f1, f2, f3, f4, f5, f6, f7, _, _⟩ := let_facts hl3.out
  clear hC hc hl hls hb2 hspec CR hlo
  rcases hers with rfl | rfl
  · go_upto_region 2 with fail
    rw [← hw3, ← hL]
    replace hw3 := Lib.hid hw3
    replace hL := Lib.hid hL
    go_upto_region 3 with fail
    go_wp2_with fail
    refine (CW.out).mono ?_
    rintro ev w4 ⟨rfl, hb4⟩
    have hb4H := Lib.hid (hB3.out.trans (hb4.mono hB3.out.size))
    have hr4 := Lib.hid ((hb4.block _ (heap_lt hr3.out)).trans hr3.out)
    have hl4 := Lib.hid ((hb4.block _ (heap_lt hl3.out)).trans hl3.out)
    have hC4 := Lib.hid (Kd.C_below hC3.out hb4)
    have hR4 := Lib.hid (heap_lt hr4.out)
    clear r0 r1 r2 r3 r4 r5 r6 r7 rsh rfz f0 f1 f2 f3 f4 f5 f6 f7
    obtain ⟨r0, r1, r2, r3, r4, r5, r6, r7, rsh, rfz⟩ := let_facts hr4.out
    obtain ⟨f0, f1, f2, f3, f4, f5, f6, f7, _, _⟩ := let_facts hl4.out
    clear hb4
    cases hr : wright [v0, v1, v2, v3, v4, v5] l p with
    | false =>
      have hno := Lib.hid (show NoLetter s from fun vs l' p' h1 h2 h3 => by
        obtain ⟨_, rfl, rfl, rfl⟩ := hspecH.out vs l' p' h1 h2 h3
        rw [h2] at hr
        cases hr)
      clear hr
      simp only [Bool.false_eq_true, if_false]
      unfold errno
      obtain ⟨x0, x1, x2, x3, x4, x5, x6, x7, xsh, xfz⟩ := let_facts (W := w4.alloc (.cells #[.string ⟨#[119, 105, 114, 101]⟩, .iface 48 (.int .i64 5)] 46)) ((heap_alloc_lt _ _ _ (heap_lt hr4.out)).trans hr4.out)
      go_wp2_with fail
      (try simp only [Exit.inBlock, Exit.then])
      refine bodyPost_ret (Go.Proofs.YtbefkoljcacpcaaGreatDoor.Tm.results_cell_tmp rfl _ _ R 24 (letCells 0 0 0 0 0 0 none 0 0 ⟨#[]⟩) (0, 0) _ rfl (set8 ((heap_alloc_lt _ _ _ (heap_lt hr4.out)).trans hr4.out) _ _ _ _ _ _ _ _) Tryz.underlying24 rfl (by kernel_rfl) _ rfl) rfl ?_
      exact fault.out _ _ hR4.out hb4H.out rfl hno.out
    | true =>
      have hrH := Lib.hid hr
      clear hr
      rw [if_pos rfl]
      obtain ⟨t, ht⟩ : ∃ t : ByteArray, t = ⟨(lbytes [v0, v1, v2, v3, v4, v5] l p).toArray⟩ := ⟨_, rfl⟩
      rw [← ht]
      replace ht := Lib.hid ht
      by_cases hts : t = s
      · subst hts
        go_wp2_with fail
        (try simp only [Exit.inBlock, Exit.then])
        refine bodyPost_ret (Go.Proofs.YtbefkoljcacpcaaGreatDoor.Tm.results_cell_tmp rfl _ _ R 24 (letCells v0 v1 v2 v3 v4 v5 A n c p) (0, 0) _ rfl (set8 hr4.out _ _ _ _ _ _ _ _) Tryz.underlying24 rfl (by kernel_rfl) _ rfl) rfl ?_
        rw [hN.out]
        refine ⟨below_set8 hb4H.out (by rw [hR.out]; exact Nat.le_refl _) _ _ _ _ _ _ _ _, .inl ⟨v0, v1, v2, v3, v4, v5, A, c, l, p, hrH.out, by rw [ht.out], rfl, ?_, hcH.out⟩⟩
        exact strs_move hC4.out fun a ha => set8_ne (by have := hloH.out a ha; have := hs1.out; omega) _ _ _ _ _ _ _ _
      · have hno := Lib.hid (show NoLetter s from fun vs l' p' h1 h2 h3 => by
          obtain ⟨_, rfl, rfl, rfl⟩ := hspecH.out vs l' p' h1 h2 h3
          refine hts ?_
          rw [ht.out, ← h3])
        have ht1 : ¬ t.toList = s.toList := fun e => hts (by rw [ByteArray.toList_eq, ByteArray.toList_eq] at e; exact ByteArray.ext (Array.ext' e))
        have ht2 : (t.toList == s.toList) = false := by rw [beq_eq_false_iff_ne]; exact ht1
        obtain ⟨x0, x1, x2, x3, x4, x5, x6, x7, xsh, xfz⟩ := let_facts (W := w4.alloc (.cells #[.string ⟨#[119, 105, 114, 101]⟩, .iface 48 (.int .i64 5)] 46)) ((heap_alloc_lt _ _ _ (heap_lt hr4.out)).trans hr4.out)
        go_wp2_with fail
        (try simp only [Exit.inBlock, Exit.then])
        refine bodyPost_ret (Go.Proofs.YtbefkoljcacpcaaGreatDoor.Tm.results_cell_tmp rfl _ _ R 24 (letCells 0 0 0 0 0 0 none 0 0 ⟨#[]⟩) (0, 0) _ rfl (set8 ((heap_alloc_lt _ _ _ (heap_lt hr4.out)).trans hr4.out) _ _ _ _ _ _ _ _) Tryz.underlying24 rfl (by kernel_rfl) _ rfl) rfl ?_
        exact fault.out _ _ hR4.out hb4H.out rfl hno.out
  · have hno := Lib.hid (show NoLetter s from fun vs l' p' h1 h2 h3 => by
      have := (hspecH.out vs l' p' h1 h2 h3).1
      cases this)
    unfold errno
    go_upto_region 2 with fail
    rw [← hw3, ← hL]
    replace hw3 := Lib.hid hw3
    replace hL := Lib.hid hL
    have hR3 := Lib.hid (heap_lt hr3.out)
    obtain ⟨x0, x1, x2, x3, x4, x5, x6, x7, xsh, xfz⟩ := let_facts (W := w3.alloc (.cells #[.string ⟨#[119, 105, 114, 101]⟩, .iface 48 (.int .i64 5)] 46)) ((heap_alloc_lt _ _ _ (heap_lt hr3.out)).trans hr3.out)
    go_wp2_with fail
    (try simp only [Exit.inBlock, Exit.then])
    refine bodyPost_ret (Go.Proofs.YtbefkoljcacpcaaGreatDoor.Tm.results_cell_tmp rfl _ _ R 24 (letCells 0 0 0 0 0 0 none 0 0 ⟨#[]⟩) (0, 0) _ rfl (set8 ((heap_alloc_lt _ _ _ (heap_lt hr3.out)).trans hr3.out) _ _ _ _ _ _ _ _) Tryz.underlying24 rfl (by kernel_rfl) _ rfl) rfl ?_
    exact fault.out _ _ hR3.out hB3.out rfl hno.out
end Go.Proofs.YtbefkoljcacpcaaGreatDoor.Wi
set_option linter.unusedVariables false
set_option linter.unusedSimpArgs false
namespace Go.Proofs.YtbefkoljcacpcaaGreatDoor.Wi
open Go Go.RowKit Go.Proofs.YtbefkoljcacpcaaGreatDoorW.PrintWords Go.Proofs.YtbefkoljcacpcaaGreatDoor.B Go.Proofs.YtbefkoljcacpcaaGreatDoor.Tm
theorem lbody_length {v : List Int} (l : List ByteArray) (p : ByteArray) (hv : v.length = 6) : (lbody v l p).length = 8 := by
  unfold lbody lnums
  simp [hv]
def RSumSaid : Prop := ∀ (s : ByteArray) (w : World), s.size ≤ 100000 → Calls Tryz.prog 27 #[.string s] w fun e w' => e = .returned (.string (Sha.sha Sha.K Sha.H0 s)) ∧ Tch (fun _ => False) w w'
theorem bag_fv {base : Nat} {w : World} {A : Option Addr} {n c : Nat} {L : List F} (h : Bag base w (.slice A n c) L) (hn : L.length = n) (hn' : n ≤ 1000000) : FV w.heap.size w (lst L) [.bool true, .string ⟨#[]⟩, .slice A n c] := by
  obtain ⟨A', c', e, h1, h2, h3⟩ := h.form
  injection e with e1 e2 e3
  subst e1 e3 hn
  refine FK.toFV (ok := fun b => base ≤ b ∧ b < w.heap.size) (fun b hb => hb.2) _ _ ?_
  unfold lst FK
  exact ⟨A, c, rfl, h1, by omega, h3⟩
set_option maxRecDepth 100000 in
set_option maxHeartbeats 8000000 in
theorem rdigest_c (hRS : RSumSaid) (v0 v1 v2 v3 v4 v5 : Int) (A : Option Addr) (c : Nat) (l : List ByteArray) (p : ByteArray) (w : World) (hC : Kd.C Kd.string w A l.length l) (hc : l.length ≤ c) (hr : wright [v0, v1, v2, v3, v4, v5] l p = true) :
    Calls Tryz.prog 10 #[.agg (letCells v0 v1 v2 v3 v4 v5 A l.length c p)] w fun ev w' => ev = .returned (.string (dg (lst (lbody [v0, v1, v2, v3, v4, v5] l p)).bytes)) ∧ Below w.heap.size w w' := by
  obtain ⟨hl128, _, _⟩ := wright_have hr
  obtain ⟨g, hgs⟩ : ∃ g, g = w.heap.size := ⟨_, rfl⟩
  obtain ⟨w1, hw1⟩ : ∃ w1, w1 = w.alloc (.cells (letCells v0 v1 v2 v3 v4 v5 A l.length c p) 24) := ⟨_, rfl⟩
  have hb1 := Lib.hid (show Below w.heap.size w w1 by rw [hw1]; exact (Below.refl _ _).alloc (Nat.le_refl _) _)
  have hg1 : LetAt w1 g v0 v1 v2 v3 v4 v5 A l.length c p := by unfold LetAt; rw [hw1, hgs]; exact heap_alloc_at _ _
  have CB := Lib.hid (rbody_c v0 v1 v2 v3 v4 v5 A c l p w1 (Kd.C_below hC hb1.out) hc hl128 (fun k hk => wright_nums hr k hk))
  obtain ⟨c0, c1, c2, c3, c4, c5, c6, c7, csh, _⟩ := let_facts hg1
  obtain ⟨n, hN⟩ : ∃ n, n = l.length := ⟨_, rfl⟩
  unfold letCells at hw1 CB ⊢
  rw [← hN] at hw1 CB c6 ⊢
  replace hN := Lib.hid hN
  have hrH := Lib.hid hr
  have h6 := Lib.hid (show ([v0, v1, v2, v3, v4, v5] : List Int).length = 6 from rfl)
  generalize ([v0, v1, v2, v3, v4, v5] : List Int) = vs at *
  clear hC hc hr hl128 hg1
  go_enter Tryz.func10, Tryz.ntmps10
  go_upto_region 1 with fail
  rw [← hw1, ← hgs]
  replace hw1 := Lib.hid hw1
  replace hgs := Lib.hid hgs
  go_wp2_with fail
  refine (CB.out).mono ?_
  rintro ev w2 ⟨A8, c8, rfl, hbag, hb2⟩
  have hFV := Lib.hid (bag_fv hbag (lbody_length l p h6.out) (by omega))
  have hb2H := Lib.hid (hb1.out.trans (hb2.mono hb1.out.size))
  clear hbag hb2 c0 c1 c2 c3 c4 c5 c6 c7 csh
  go_wp2_with fail
  refine (rwrite_c _ _ _ _ w2 hFV.out (lbody_right _ _ _) (by rw [lst_depth, lbody_depths]; omega) (by have := lbody_len h6.out hrH.out; omega)).mono ?_
  rintro ev w3 ⟨rfl, hb3⟩
  have hb3H := Lib.hid (hb2H.out.trans (hb3.mono hb2H.out.size))
  clear hb3
  obtain ⟨t, ht⟩ : ∃ t : ByteArray, t = ⟨(lst (lbody vs l p)).bytes.toArray⟩ := ⟨_, rfl⟩
  have htl := Lib.hid (show t.size ≤ 100000 by rw [ht]; show (lst (lbody vs l p)).bytes.toArray.size ≤ _; rw [List.size_toArray]; have := lbody_len h6.out hrH.out; omega)
  rw [← ht]
  replace ht := Lib.hid ht
  go_wp2_with fail
  refine (hRS t w3 htl.out).mono ?_
  rintro ev w4 ⟨rfl, hT4⟩
  have hb4 := Lib.hid (hb3H.out.trans (hT4.below (B := w.heap.size) hb3H.out.size (fun k hk _ => hk.elim)))
  clear hT4
  have hdg := Lib.hid (show dg (lst (lbody vs l p)).bytes = Sha.sha Sha.K Sha.H0 t by rw [ht.out]; rfl)
  generalize Sha.sha Sha.K Sha.H0 t = d at *
  go_wp2_with fail
  go_ret
  exact ⟨by rw [← hdg.out]; rfl, hb4.out⟩
end Go.Proofs.YtbefkoljcacpcaaGreatDoor.Wi
set_option linter.unusedVariables false
set_option linter.unusedSimpArgs false
namespace Go.Proofs.YtbefkoljcacpcaaGreatDoor.Wi
open Go Go.RowKit Go.Proofs.YtbefkoljcacpcaaGreatDoorW.PrintWords Go.Proofs.YtbefkoljcacpcaaGreatDoor.B Go.Proofs.YtbefkoljcacpcaaGreatDoor.Tm
def Lw (w : World) : Prop := Errs w ∧ Tab w ∧ 1 < w.heap.size
theorem Lw.below {w w' : World} (h : Lw w) (hb : Below w.heap.size w w') : Lw w' := ⟨h.1.below hb, h.2.1.keep hb h.2.2, Nat.lt_of_lt_of_le h.2.2 hb.size⟩
theorem wread_back {v0 v1 v2 v3 v4 v5 : Int} {l : List ByteArray} {p s : ByteArray} {w w' : World} {ev : Ending} (hr : wright [v0, v1, v2, v3, v4, v5] l p = true) (hs : s.data.toList = lbytes [v0, v1, v2, v3, v4, v5] l p) (h : WReadPost s w ev w') :
    Below w.heap.size w w' ∧ ∃ A c, ev = .returned (.tuple #[.agg (letCells v0 v1 v2 v3 v4 v5 A l.length c p), .nilIface]) ∧ Kd.C Kd.string w' A l.length l ∧ l.length ≤ c := by
  obtain ⟨hb, h⟩ := h
  refine ⟨hb, ?_⟩
  rcases h with ⟨u0, u1, u2, u3, u4, u5, A, c, m, q, h1, h2, h3, h4, h5⟩ | ⟨hno, _⟩
  · obtain ⟨e1, rfl, rfl⟩ := lbytes_inj rfl rfl hr h1 (hs.symm.trans h2)
    simp only [List.cons.injEq, and_true] at e1
    obtain ⟨rfl, rfl, rfl, rfl, rfl, rfl⟩ := e1
    exact ⟨A, c, h3, h4, h5⟩
  · exact (hno _ _ _ rfl hr hs).elim
theorem lbytes_size {v : List Int} {l : List ByteArray} {p : ByteArray} (hv : v.length = 6) (h : wright v l p = true) : (⟨(lbytes v l p).toArray⟩ : ByteArray).size ≤ 65536 := by
  show (lbytes v l p).toArray.size ≤ 65536
  rw [List.size_toArray]
  have := lfull_len hv h
  unfold lbytes
  omega
def St (w W : World) (g : Nat) (cs : Array Value) : Prop := Below w.heap.size w W ∧ W.heap[g]? = some (.cells cs 24 (0, 0))
theorem St.step {w W W' : World} {g : Nat} {cs : Array Value} (h : St w W g cs) (hb : Below W.heap.size W W') : St w W' g cs := ⟨h.1.trans (hb.mono h.1.size), (hb.block _ (heap_lt h.2)).trans h.2⟩
theorem below_alloc (W : World) (o : Obj) : Below W.heap.size W (W.alloc o) := (Below.refl _ _).alloc (Nat.le_refl _) _
theorem St.new (w W : World) (cs : Array Value) (h : Below w.heap.size w W) : St w (W.alloc (.cells cs 24)) W.heap.size cs := ⟨h.trans ((below_alloc W _).mono h.size), heap_alloc_at _ _⟩
set_option maxRecDepth 100000 in
set_option maxHeartbeats 8000000 in
theorem awake17_c (w : World) (hL : Lw w) :
    Calls Tryz.prog 6 #[] w fun ev w' => ev = .returned (.bool true) ∧ Below w.heap.size w w' := by
  have hr : wright [1, 2, 2, 0, 3, 0] [] ⟨#[120]⟩ = true := by decide +kernel
  obtain ⟨x, hx⟩ : ∃ x : ByteArray, x = ⟨#[120]⟩ := ⟨_, rfl⟩
  have nC : ∀ W, Kd.C Kd.string W none ([] : List ByteArray).length [] := fun W => ⟨rfl, by simp, fun h => absurd h (by simp)⟩
  obtain ⟨g, hg⟩ : ∃ g, g = w.heap.size := ⟨_, rfl⟩
  obtain ⟨w1, hw1⟩ : ∃ w1, w1 = w.alloc (.cells (letCells 1 2 2 0 3 0 none 0 0 ⟨#[120]⟩) 24) := ⟨_, rfl⟩
  have hr1 := Lib.hid (show w1.heap[g]? = some (.cells (letCells 1 2 2 0 3 0 none 0 0 ⟨#[120]⟩) 24 (0, 0)) by rw [hw1, hg]; exact heap_alloc_at _ _)
  have hb1 := Lib.hid (show Below w.heap.size w w1 by rw [hw1]; exact (Below.refl _ _).alloc (Nat.le_refl _) _)
  have hL1 := hL.below hb1.out
  have CW := wwrite_c 1 2 2 0 3 0 none 0 [] ⟨#[120]⟩ w1 (nC w1) (Nat.le_refl _) (by simp) (fun x hx => by cases hx) hL1.2.1 hL1.2.2
  unfold WrPost at CW
  rw [hr, if_pos rfl] at CW
  obtain ⟨s, hs⟩ : ∃ s : ByteArray, s = ⟨(lbytes [1, 2, 2, 0, 3, 0] [] ⟨#[120]⟩).toArray⟩ := ⟨_, rfl⟩
  rw [← hs] at CW
  have hsz : s.size ≤ 65536 := by rw [hs]; exact lbytes_size rfl hr
  have hsl : s.data.toList = lbytes [1, 2, 2, 0, 3, 0] [] ⟨#[120]⟩ := by rw [hs]
  replace hs := Lib.hid hs
  have CR := Lib.hid (fun W (h : Lw W) => (wread_c s W hsz h.1 h.2.1 h.2.2).mono fun ev w' h => wread_back hr hsl h)
  have CS := Lib.hid (fun (B : Option Addr) (d : Nat) W (h : Kd.C Kd.string W B ([] : List ByteArray).length []) (k : ([] : List ByteArray).length ≤ d) => same17_c 1 2 2 0 3 0 none 0 [] ⟨#[120]⟩ 1 2 2 0 3 0 B d [] ⟨#[120]⟩ W (nC W) (Nat.le_refl _) h k)
  have hL1H := Lib.hid hL1
  replace CW := Lib.hid CW
  clear hL hL1 hsz hsl hr
  simp only [List.length_nil] at CW CR CS
  unfold letCells at hw1 CW CR CS
  obtain ⟨f0, f1, f2, f3, f4, f5, f6, f7, _, _⟩ := let_facts hr1.out
  go_enter Tryz.func6, Tryz.ntmps6
  go_upto_region 2 with fail
  rw [← hw1, ← hg]
  replace hw1 := Lib.hid hw1
  replace hg := Lib.hid hg
  go_wp2_with fail
  refine (CW.out).mono ?_
  rintro ev w2 ⟨rfl, hb2⟩
  have hb2H := Lib.hid (hb1.out.trans (hb2.mono hb1.out.size))
  have hr2 := Lib.hid ((hb2.block _ (heap_lt hr1.out)).trans hr1.out)
  have hL2 := Lib.hid (hL1H.out.below hb2)
  clear hb2
  go_upto_region 3 with fail
  go_wp2_with fail
  refine (CR.out w2 hL2.out).mono ?_
  rintro ev w3 ⟨hb3, B, d, rfl, hC3, hd⟩
  have hb3H := Lib.hid (hb2H.out.trans (hb3.mono hb2H.out.size))
  have hr3 := Lib.hid ((hb3.block _ (heap_lt hr2.out)).trans hr2.out)
  clear hb3 f0 f1 f2 f3 f4 f5 f6 f7
  obtain ⟨k, hk⟩ : ∃ k, k = w3.heap.size := ⟨_, rfl⟩
  obtain ⟨w4, hw4⟩ : ∃ w4, w4 = w3.alloc (.cells (letCells 1 2 2 0 3 0 B 0 d ⟨#[120]⟩) 24) := ⟨_, rfl⟩
  have hm4 := Lib.hid (show w4.heap[k]? = some (.cells (letCells 1 2 2 0 3 0 B 0 d ⟨#[120]⟩) 24 (0, 0)) by rw [hw4, hk]; exact heap_alloc_at _ _)
  have hr4 := Lib.hid (show w4.heap[g]? = some (.cells (letCells 1 2 2 0 3 0 none 0 0 ⟨#[120]⟩) 24 (0, 0)) by rw [hw4]; exact (heap_alloc_lt _ _ _ (heap_lt hr3.out)).trans hr3.out)
  have hb4 := Lib.hid (show Below w.heap.size w w4 by rw [hw4]; exact hb3H.out.alloc hb3H.out.size _)
  have hC4 := Lib.hid (show Kd.C Kd.string w4 B ([] : List ByteArray).length [] by rw [hw4]; exact Kd.C_below hC3 ((Below.refl _ _).alloc (Nat.le_refl _) _))
  have hdH := Lib.hid hd
  clear hC3 hd
  obtain ⟨f0, f1, f2, f3, f4, f5, f6, f7, _, _⟩ := let_facts hr4.out
  obtain ⟨m0, m1, m2, m3, m4, m5, m6, m7, _, _⟩ := let_facts hm4.out
  unfold letCells at hw4
  go_upto_region 4 with fail
  rw [← hw4, ← hk]
  replace hw4 := Lib.hid hw4
  replace hk := Lib.hid hk
  go_wp2_with fail
  refine (CS.out B d w4 hC4.out hdH.out).mono ?_
  rintro ev w5 ⟨rfl, hb5⟩
  replace hb5 := Lib.hid (hb4.out.trans (hb5.mono hb4.out.size))
  simp only [and_self, decide_true]
  go_wp2_with fail
  go_ret
  exact ⟨rfl, hb5.out⟩
end Go.Proofs.YtbefkoljcacpcaaGreatDoor.Wi
set_option linter.unusedVariables false
set_option linter.unusedSimpArgs false
namespace Go.Proofs.YtbefkoljcacpcaaGreatDoor.Wi
open Go Go.RowKit Go.Proofs.YtbefkoljcacpcaaGreatDoorW.PrintWords Go.Proofs.YtbefkoljcacpcaaGreatDoor.B Go.Proofs.YtbefkoljcacpcaaGreatDoor.Tm
def RWrPost (v : List Int) (l : List ByteArray) (p : ByteArray) (w : World) (ev : Ending) (w' : World) : Prop :=
  ev = .returned (if wright v l p then .tuple #[.string ⟨(lbytes v l p).toArray⟩, .int .i64 0] else .tuple #[.string ⟨#[]⟩, .int .i64 1]) ∧ Below w.heap.size w w'
set_option maxRecDepth 100000 in
set_option maxHeartbeats 8000000 in
theorem rwwrite_no (v0 v1 v2 v3 v4 v5 : Int) (A : Option Addr) (c : Nat) (l : List ByteArray) (p : ByteArray) (w : World) (hC : Kd.C Kd.string w A l.length l) (hc : l.length ≤ c) (hn : l.length ≤ 1000000000000) (hs : ∀ x ∈ l, x.size ≤ 140737488351232) (hr : wright [v0, v1, v2, v3, v4, v5] l p = false) :
    Calls Tryz.prog 11 #[.agg (letCells v0 v1 v2 v3 v4 v5 A l.length c p)] w (RWrPost [v0, v1, v2, v3, v4, v5] l p w) := by
  obtain ⟨g, hgs⟩ : ∃ g, g = w.heap.size := ⟨_, rfl⟩
  obtain ⟨w1, hw1⟩ : ∃ w1, w1 = w.alloc (.cells (letCells v0 v1 v2 v3 v4 v5 A l.length c p) 24) := ⟨_, rfl⟩
  have hb1 := Lib.hid (show Below w.heap.size w w1 by rw [hw1]; exact (Below.refl _ _).alloc (Nat.le_refl _) _)
  have hg1 : LetAt w1 g v0 v1 v2 v3 v4 v5 A l.length c p := by unfold LetAt; rw [hw1, hgs]; exact heap_alloc_at _ _
  have CR := Lib.hid (right17_c v0 v1 v2 v3 v4 v5 A c l p w1 (Kd.C_below hC hb1.out) hc hn hs)
  rw [hr] at CR
  obtain ⟨c0, c1, c2, c3, c4, c5, c6, c7, csh, _⟩ := let_facts hg1
  obtain ⟨n, hN⟩ : ∃ n, n = l.length := ⟨_, rfl⟩
  unfold RWrPost
  rw [hr]
  unfold letCells at hw1 CR ⊢
  rw [← hN] at hw1 CR c6 ⊢
  replace hN := Lib.hid hN
  clear hC hc hr hg1 hs
  go_enter Tryz.func11, Tryz.ntmps11
  go_upto_region 1 with fail
  rw [← hw1, ← hgs]
  replace hw1 := Lib.hid hw1
  replace hgs := Lib.hid hgs
  go_wp2_with fail
  refine (CR.out).mono ?_
  rintro ev w2 ⟨rfl, hb2⟩
  have hb2H := Lib.hid (hb1.out.trans (hb2.mono hb1.out.size))
  clear hb2
  go_wp2_with fail
  go_ret2
  exact ⟨rfl, hb2H.out⟩
set_option maxRecDepth 100000 in
set_option maxHeartbeats 8000000 in
theorem rwwrite_yes (hRS : RSumSaid) (v0 v1 v2 v3 v4 v5 : Int) (A : Option Addr) (c : Nat) (l : List ByteArray) (p : ByteArray) (w : World) (hC : Kd.C Kd.string w A l.length l) (hc : l.length ≤ c) (hs : ∀ x ∈ l, x.size ≤ 140737488351232) (hr : wright [v0, v1, v2, v3, v4, v5] l p = true) :
    Calls Tryz.prog 11 #[.agg (letCells v0 v1 v2 v3 v4 v5 A l.length c p)] w (RWrPost [v0, v1, v2, v3, v4, v5] l p w) := by
  obtain ⟨hl128, _, _⟩ := wright_have hr
  obtain ⟨g, hgs⟩ : ∃ g, g = w.heap.size := ⟨_, rfl⟩
  obtain ⟨w1, hw1⟩ : ∃ w1, w1 = w.alloc (.cells (letCells v0 v1 v2 v3 v4 v5 A l.length c p) 24) := ⟨_, rfl⟩
  have hb1 := Lib.hid (show Below w.heap.size w w1 by rw [hw1]; exact (Below.refl _ _).alloc (Nat.le_refl _) _)
  have hg1 : LetAt w1 g v0 v1 v2 v3 v4 v5 A l.length c p := by unfold LetAt; rw [hw1, hgs]; exact heap_alloc_at _ _
  have hg1H := Lib.hid hg1
  have CR := Lib.hid (right17_c v0 v1 v2 v3 v4 v5 A c l p w1 (Kd.C_below hC hb1.out) hc (by omega) hs)
  rw [hr] at CR
  have CB := fun W (h : Below w.heap.size w W) => Lib.hid (rbody_c v0 v1 v2 v3 v4 v5 A c l p W (Kd.C_below hC h) hc hl128 (fun k hk => wright_nums hr k hk))
  have CD := fun W (h : Below w.heap.size w W) => Lib.hid (rdigest_c hRS v0 v1 v2 v3 v4 v5 A c l p W (Kd.C_below hC h) hc hr)
  obtain ⟨c0, c1, c2, c3, c4, c5, c6, c7, csh, _⟩ := let_facts hg1
  obtain ⟨n, hN⟩ : ∃ n, n = l.length := ⟨_, rfl⟩
  unfold RWrPost
  rw [hr]
  have hrH := Lib.hid hr
  have h6 := Lib.hid (show ([v0, v1, v2, v3, v4, v5] : List Int).length = 6 from rfl)
  unfold letCells at hw1 CR CB CD hg1H ⊢
  rw [← hN] at hw1 CR CB CD c6 hg1H ⊢
  replace hN := Lib.hid hN
  generalize ([v0, v1, v2, v3, v4, v5] : List Int) = vs at *
  clear hC hc hr hg1 hs hl128
  go_enter Tryz.func11, Tryz.ntmps11
  go_upto_region 1 with fail
  rw [← hw1, ← hgs]
  replace hw1 := Lib.hid hw1
  replace hgs := Lib.hid hgs
  go_wp2_with fail
  refine (CR.out).mono ?_
  rintro ev w2 ⟨rfl, hb2⟩
  have hb2H := Lib.hid (hb1.out.trans (hb2.mono hb1.out.size))
  have hg2 := Lib.hid ((hb2.block _ (heap_lt hg1H.out)).trans hg1H.out)
  clear hb2 c0 c1 c2 c3 c4 c5 c6 c7 csh
  obtain ⟨S, hS⟩ : ∃ S : World → Prop, S = fun W => W.heap[g]? = some (.cells #[.int .i64 v0, .int .i64 v1, .int .i64 v2, .int .i64 v3, .int .i64 v4, .int .i64 v5, .slice A n c, .string p] 24 (0, 0)) := ⟨_, rfl⟩
  have hSi : ∀ W, S W ↔ W.heap[g]? = some (.cells #[.int .i64 v0, .int .i64 v1, .int .i64 v2, .int .i64 v3, .int .i64 v4, .int .i64 v5, .slice A n c, .string p] 24 (0, 0)) := fun W => by rw [hS]
  have hS0 : S w2.drew := (hSi _).2 hg2.out
  have s0 : ∀ X : InS S, X.val.cell? ⟨g, 0, none⟩ = some (.int .i64 v0) := fun X => (let_facts ((hSi X.val).1 X.mem)).1
  have s1 : ∀ X : InS S, X.val.cell? ⟨g, 1, none⟩ = some (.int .i64 v1) := fun X => (let_facts ((hSi X.val).1 X.mem)).2.1
  have s2 : ∀ X : InS S, X.val.cell? ⟨g, 2, none⟩ = some (.int .i64 v2) := fun X => (let_facts ((hSi X.val).1 X.mem)).2.2.1
  have s3 : ∀ X : InS S, X.val.cell? ⟨g, 3, none⟩ = some (.int .i64 v3) := fun X => (let_facts ((hSi X.val).1 X.mem)).2.2.2.1
  have s4 : ∀ X : InS S, X.val.cell? ⟨g, 4, none⟩ = some (.int .i64 v4) := fun X => (let_facts ((hSi X.val).1 X.mem)).2.2.2.2.1
  have s5 : ∀ X : InS S, X.val.cell? ⟨g, 5, none⟩ = some (.int .i64 v5) := fun X => (let_facts ((hSi X.val).1 X.mem)).2.2.2.2.2.1
  have s6 : ∀ X : InS S, X.val.cell? ⟨g, 6, none⟩ = some (.slice A n c) := fun X => (let_facts ((hSi X.val).1 X.mem)).2.2.2.2.2.2.1
  have s7 : ∀ X : InS S, X.val.cell? ⟨g, 7, none⟩ = some (.string p) := fun X => (let_facts ((hSi X.val).1 X.mem)).2.2.2.2.2.2.2.1
  have hne : Nonempty (InS S) := ⟨⟨w2.drew, hS0⟩⟩
  have hS0H := Lib.hid hS0
  have hSiH := Lib.hid hSi
  clear hS hSi hS0
  go_upto_region 3 with fail
  refine wp_region_mix S [0, 2] [.mem [0, 2], .keep 1, .keep 3, .keep 4, .keep 5, .keep 6, .pure [7], .last 8, .pure [9, 10, 11, 12]] (by kernel_rfl) (by kernel_rfl) hS0H.out ?_
  simp only [pick, List.getD_cons_zero, List.getD_cons_succ, wpMix]
  repeat (go_big_quiet_step (fail))
  refine wpQuiet_nil ?_
  have hb2D := Lib.hid (hb2H.out.drew)
  go_wp2_with (go_at_call 26; (with_reducible refine ((CB _ hb2D.out).out).mono ?_); rintro ev w3 ⟨A8, c8, rfl, hbag3, hb3⟩)
  have hB3 := Lib.hid (hb2D.out.trans (hb3.mono hb2D.out.size))
  have hg3 := Lib.hid ((hb3.block g (heap_lt hg2.out)).trans hg2.out)
  have hbag3H := Lib.hid hbag3
  have hz3 := Lib.hid hb3.size
  clear hbag3 hb3
  refine ⟨(hSiH.out _).2 hg3.out, ?_⟩
  go_wp2_with (go_at_call 10; (with_reducible refine ((CD _ hB3.out).out).mono ?_); rintro ev w4 ⟨rfl, hb4⟩)
  have hB4 := Lib.hid (hB3.out.trans (hb4.mono hB3.out.size))
  have hg4 := Lib.hid ((hb4.block g (heap_lt hg3.out)).trans hg3.out)
  have hbag4 := Lib.hid (hbag3H.out.keep (w' := w4) (fun b h1 h2 => hb4.block b h2) hb4.size)
  have hz4 := Lib.hid hb4.size
  clear hb4
  refine ⟨(hSiH.out _).2 hg4.out, ?_⟩
  obtain ⟨d, hd⟩ : ∃ d, d = dg (lst (lbody vs l p)).bytes := ⟨_, rfl⟩
  rw [← hd]
  have hdH := Lib.hid hd
  clear hd
  go_wp2_with (go_at_call 29; (with_reducible refine (rtext_c _ _).mono ?_); rintro ev w5 ⟨rfl, hb5⟩)
  have hB5 := Lib.hid (hB4.out.trans (hb5.mono hB4.out.size))
  have hg5 := Lib.hid ((hb5.block g (heap_lt hg4.out)).trans hg4.out)
  have hbag5 := Lib.hid (hbag4.out.keep (w' := w5) (fun b h1 h2 => hb5.block b h2) hb5.size)
  have hz5 := Lib.hid hb5.size
  clear hb5
  unfold vtext
  refine ⟨(hSiH.out _).2 hg5.out, ?_⟩
  go_wp2_with fail
  refine ⟨(hSiH.out _).2 ((heap_alloc_lt _ _ _ (heap_lt hg5.out)).trans hg5.out), ?_⟩
  have hbs := Lib.hid (show w2.drew.heap.size ≤ w5.heap.size from Nat.le_trans hz3.out (Nat.le_trans hz4.out hz5.out))
  go_wp2_with (at_builtin; refine bag_app (by rfl) _ _ _ (by rfl) Tryz.underlying50 (by rfl) 8 1 1 (by rfl) (by rfl) hbag5.out (FC.texts d) (lbody_length l p h6.out) (by rfl) (by omega) (by omega) hbs.out ?_; intro g7 cap7 w6 hbag6 hgrew6)
  have hgl2 := heap_lt hg2.out
  have hown := Lib.hid (show ∀ b, (Value.slice A8 8 c8).ownBlock = some b → w2.heap.size ≤ b from fun b hb => (hbag5.out.lt b hb).1)
  have hB6 := Lib.hid (hgrew6.below hB5.out hB5.out.size (fun b hb => Nat.le_trans hb2H.out.size (hown.out b hb)))
  have hg6 := hgrew6.heap hg5.out (fun e => by have := hown.out g e.symm; omega)
  refine ⟨(hSiH.out _).2 hg6, ?_⟩
  have hfv6 := Lib.hid (bag_fv (L := lfull vs l p) (n := 9) (by have := hbag6; unfold lfull; rw [← hdH.out]; exact this) (by unfold lfull; rw [List.length_append, lbody_length l p h6.out]; rfl) (by omega))
  clear hbag6 hgrew6 hg6 hgl2 s0 s1 s2 s3 s4 s5 s6 s7
  repeat (go_big_quiet_step (fail))
  refine wpQuiet_nil ?_
  go_wp2_with (go_at_call 25; (with_reducible refine (rwrite_c _ _ _ _ w6 hfv6.out (lfull_right _ _ _) (by rw [lst_depth, lfull_depths]; omega) (by have := lfull_len h6.out hrH.out; omega)).mono ?_); rintro ev w7 ⟨rfl, hb7⟩)
  simp only [stepPost]
  have hB7 := Lib.hid (hB6.out.trans (hb7.mono hB6.out.size))
  clear hb7
  have hlb := Lib.hid (show (lst (lfull vs l p)).bytes = lbytes vs l p from rfl)
  obtain ⟨t, ht⟩ : ∃ t : ByteArray, t = ⟨(lbytes vs l p).toArray⟩ := ⟨_, rfl⟩
  rw [hlb.out, ← ht]
  repeat (go_big_quiet_step (fail))
  refine wpQuiet_nil ?_
  replace ht := Lib.hid ht
  go_wp2_with fail
  go_ret2
  exact ⟨by first | rfl | (rw [if_pos rfl, ← ht.out]; rfl), hB7.out⟩
theorem rwwrite_c (hRS : RSumSaid) (v0 v1 v2 v3 v4 v5 : Int) (A : Option Addr) (c : Nat) (l : List ByteArray) (p : ByteArray) (w : World) (hC : Kd.C Kd.string w A l.length l) (hc : l.length ≤ c) (hn : l.length ≤ 1000000000000) (hs : ∀ x ∈ l, x.size ≤ 140737488351232) :
    Calls Tryz.prog 11 #[.agg (letCells v0 v1 v2 v3 v4 v5 A l.length c p)] w (RWrPost [v0, v1, v2, v3, v4, v5] l p w) := by
  cases hr : wright [v0, v1, v2, v3, v4, v5] l p with
  | true => exact rwwrite_yes hRS v0 v1 v2 v3 v4 v5 A c l p w hC hc hs hr
  | false => exact rwwrite_no v0 v1 v2 v3 v4 v5 A c l p w hC hc hn hs hr
end Go.Proofs.YtbefkoljcacpcaaGreatDoor.Wi
